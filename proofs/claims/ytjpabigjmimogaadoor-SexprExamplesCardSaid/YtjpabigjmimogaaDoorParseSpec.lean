/- What the parser of package sexpr computes, as Lean functions; and how it lies in memory. -/
import Derived.Test.YtjpabigjmimogaaDoorCore
import Derived.Laws.BytesArg
set_option linter.unusedVariables false
set_option linter.unusedSimpArgs false
namespace Go.Proofs.YtjpabigjmimogaaDoor
open Go.RowKit

/-- A node of source text. -/
inductive Nd where
  | mk (kind : Int) (text : ByteArray) (kids : List Nd) (off : Int)

mutual
def Nd.tr (T : Nat) : Nd → List Tr
  | .mk k t l o => [.sc (.int .i64 k), .sc (.string t), .sl T 4 (ndsTr T l), .sc (.int .i64 o)]
def ndsTr (T : Nat) : List Nd → List Tr
  | [] => []
  | x :: l => x.tr T ++ ndsTr T l
end
def Nd.kind : Nd → Int | .mk k _ _ _ => k
def Nd.text : Nd → ByteArray | .mk _ t _ _ => t
def Nd.kids : Nd → List Nd | .mk _ _ l _ => l
def Nd.off : Nd → Int | .mk _ _ _ o => o

theorem Nd.tr_length (T : Nat) (x : Nd) : (x.tr T).length = 4 := by cases x; simp [Nd.tr]
theorem Nd.tr_eq (T : Nat) (x : Nd) : x.tr T = [.sc (.int .i64 x.kind), .sc (.string x.text), .sl T 4 (ndsTr T x.kids), .sc (.int .i64 x.off)] := by cases x; simp [Nd.tr, Nd.kind, Nd.text, Nd.kids, Nd.off]
theorem ndsTr_flat (T : Nat) (l : List Nd) : ndsTr T l = l.flatMap (Nd.tr T) := by
  induction l with
  | nil => simp [ndsTr]
  | cons x l ih => simp [ndsTr, ih]
theorem ndsTr_length (T : Nat) (l : List Nd) : (ndsTr T l).length = l.length * 4 := by rw [ndsTr_flat, length_flatMap_row _ 4 (Nd.tr_length T)]
theorem ndsTr_append (T : Nat) (l m : List Nd) : ndsTr T (l ++ m) = ndsTr T l ++ ndsTr T m := by simp [ndsTr_flat]
theorem ndsTr_one (T : Nat) (x : Nd) : ndsTr T [x] = x.tr T := by simp [ndsTr]
theorem ndsTr_at (T : Nat) (l : List Nd) (i j : Nat) (x : Nd) (hx : l[i]? = some x) (hj : j < 4) : (ndsTr T l)[i * 4 + j]? = (x.tr T)[j]? := by
  rw [ndsTr_flat]
  exact getElem?_flatMap_row _ 4 (Nd.tr_length T) l i j x hx hj

/-- A slice of nodes, read at i. -/
theorem nd_at {w : World} {ok : Nat → Prop} {T n c : Nat} {A : Option Addr} {l : List Nd} {i : Nat} {x : Nd} (h : Rd w ok (.slice A n c) (.sl T 4 (ndsTr T l))) (hx : l[i]? = some x) :
    ∃ b o KA KN KC, A = some ⟨b, o, none⟩ ∧ ok b ∧ b < w.heap.size ∧ w.cell? ⟨b, o + i * 4, none⟩ = some (.int .i64 x.kind) ∧ w.cell? ⟨b, o + i * 4 + 1, none⟩ = some (.string x.text) ∧
      w.cell? ⟨b, o + i * 4 + 2, none⟩ = some (.slice KA KN KC) ∧ Rd w ok (.slice KA KN KC) (.sl T 4 (ndsTr T x.kids)) ∧ w.cell? ⟨b, o + i * 4 + 3, none⟩ = some (.int .i64 x.off) := by
  have hl := h.len.1
  rw [ndsTr_length] at hl
  have hi : i < l.length := (List.getElem?_eq_some_iff.1 hx).1
  have hn : n = l.length := by omega
  obtain ⟨b, o, rfl, hb, hlt, hc⟩ := h.at_ (by omega)
  have g := fun (j : Nat) (hj : j < 4) => hc (i * 4 + j) (by omega)
  have e := fun (j : Nat) (hj : j < 4) => ndsTr_at T l i j x hx hj
  rw [Nd.tr_eq] at e
  obtain ⟨u0, e0, q0, c0, r0⟩ := g 0 (by omega)
  obtain ⟨u1, e1, q1, c1, r1⟩ := g 1 (by omega)
  obtain ⟨u2, e2, q2, c2, r2⟩ := g 2 (by omega)
  obtain ⟨u3, e3, q3, c3, r3⟩ := g 3 (by omega)
  have x0 := q0.symm.trans (e 0 (by omega)); have x1 := q1.symm.trans (e 1 (by omega)); have x2 := q2.symm.trans (e 2 (by omega)); have x3 := q3.symm.trans (e 3 (by omega))
  simp at x0 x1 x2 x3
  subst x0 x1 x2 x3
  obtain ⟨KA, KN, KC, rfl, _⟩ := r2.sl_inv
  have s0 := r0.sc_inv; have s1 := r1.sc_inv; have s3 := r3.sc_inv
  subst s0 s1 s3
  exact ⟨b, o, KA, KN, KC, rfl, hb, hlt, by simpa using c0, by simpa [Nat.add_assoc] using c1, by simpa [Nat.add_assoc] using c2, r2, by simpa [Nat.add_assoc] using c3⟩

/-! The bytes. -/
def isL (c : Int) : Bool := decide (97 ≤ c ∧ c ≤ 122 ∨ 65 ≤ c ∧ c ≤ 90)
def isD (c : Int) : Bool := decide (48 ≤ c ∧ c ≤ 57)
def isW (c : Int) : Bool := isL c || isD c || c == 95 || c == 45
def isS (c : Int) : Bool := decide (32 ≤ c ∧ c ≤ 126)
def bat (s : ByteArray) (k : Nat) : Int := if h : k < s.size then ((s[k]'h).toNat : Int) else 0
theorem bat_at (s : ByteArray) (k : Nat) : ∀ h : k < s.size, ((s[k]'h).toNat : Int) = bat s k := fun h => by simp [bat, h]
theorem bat_range (s : ByteArray) (k : Nat) : 0 ≤ bat s k ∧ bat s k ≤ 255 := by
  unfold bat
  split
  · rename_i h
    have := (s[k]'h).toNat_lt
    omega
  · omega

/-- The end of the word that holds place k. -/
def wEnd (s : ByteArray) : Nat → Nat → Nat
  | 0, k => k
  | n + 1, k => if k < s.size ∧ isW (bat s k) = true then wEnd s n (k + 1) else k
/-- The first line feed from k on, or the end. -/
def cEnd (s : ByteArray) : Nat → Nat → Nat
  | 0, k => k
  | n + 1, k => if k < s.size ∧ bat s k ≠ 10 then cEnd s n (k + 1) else k
inductive QR where
  | bad (p : Nat)
  | done (p : Nat) (t : List Int)
/-- The rest of a quoted string, from k on. -/
def qScan (s : ByteArray) : Nat → Nat → List Int → Option QR
  | 0, _, _ => none
  | n + 1, k, a =>
    if k < s.size then
      if bat s k = 34 then some (.done (k + 1) a)
      else if isS (bat s k) = false then some (.bad k)
      else if bat s k = 92 then
        (if k + 1 = s.size then some (.bad k) else if bat s (k + 1) = 34 then qScan s n (k + 2) (a ++ [bat s (k + 1)]) else if bat s (k + 1) = 92 then qScan s n (k + 2) (a ++ [bat s (k + 1)]) else some (.bad k))
      else qScan s n (k + 1) (a ++ [bat s k])
    else some (.bad s.size)

/-- A list that is open. -/
structure Fr where
  kind : Int
  off : Int
  kids : List Nd
def Fr.add (f : Fr) (x : Nd) : Fr := { f with kids := f.kids ++ [x] }
def Fr.nd (f : Fr) : Nd := .mk f.kind ⟨#[]⟩ f.kids f.off
inductive PR where
  | fail (kind off : Int)
  | ok (l : List Nd)
/-- The parser's main loop: the place, the innermost open list, the others. -/
def allF (s : ByteArray) : Nat → Nat → Fr → List Fr → Option PR
  | 0, _, _, _ => none
  | n + 1, k, top, below =>
    if k < s.size then
      if bat s k = 32 ∨ bat s k = 10 then allF s n (k + 1) top below
      else if bat s k = 59 then allF s n (cEnd s (s.size - k) k) top below
      else if bat s k = 40 then (if 40 ≤ below.length then some (.fail 9 k) else allF s n (k + 1) ⟨3, k, []⟩ (top :: below))
      else if bat s k = 41 then
        match below with
        | [] => some (.fail 2 k)
        | f :: b => allF s n (k + 1) (f.add top.nd) b
      else if bat s k = 34 then
        match qScan s (s.size - k) (k + 1) [] with
        | some (.done e t) => if 2000 < t.length then some (.fail 4 k) else allF s n e (top.add (.mk 2 (strOfNums t) [] k)) below
        | some (.bad p) => some (.fail 2 p)
        | none => none
      else if isW (bat s k) = true then
        (if 24 < wEnd s (s.size - k) k - k then some (.fail 4 k) else allF s n (wEnd s (s.size - k) k) (top.add (.mk 1 (s.extract k (wEnd s (s.size - k) k)) [] k)) below)
      else some (.fail 2 k)
    else if 0 < below.length then some (.fail 2 s.size) else some (.ok top.kids)
def parseF (s : ByteArray) (n : Nat) : Option PR := if 65536 < s.size then some (.fail 4 0) else allF s n 0 ⟨0, 0, []⟩ []

theorem wEnd_spec (s : ByteArray) : ∀ n k, s.size - k ≤ n → k ≤ s.size → k ≤ wEnd s n k ∧ wEnd s n k ≤ s.size ∧ (∀ j, k ≤ j → j < wEnd s n k → isW (bat s j) = true) ∧ (wEnd s n k < s.size → isW (bat s (wEnd s n k)) = false) := by
  intro n
  induction n with
  | zero =>
    intro k hn hk
    have : k = s.size := by omega
    subst this
    exact ⟨Nat.le_refl _, Nat.le_refl _, fun j h1 h2 => by simp [wEnd] at h2; omega, fun h => by simp [wEnd] at h⟩
  | succ n ih =>
    intro k hn hk
    unfold wEnd
    split
    · rename_i h
      obtain ⟨h1, h2, h3, h4⟩ := ih (k + 1) (by omega) (by omega)
      refine ⟨by omega, h2, fun j hj hj' => ?_, h4⟩
      rcases Nat.eq_or_lt_of_le hj with rfl | hj
      · exact h.2
      · exact h3 j hj hj'
    · rename_i h
      refine ⟨Nat.le_refl _, hk, fun j h1 h2 => by omega, fun hlt => ?_⟩
      simpa [hlt] using h
theorem cEnd_spec (s : ByteArray) : ∀ n k, s.size - k ≤ n → k ≤ s.size → k ≤ cEnd s n k ∧ cEnd s n k ≤ s.size ∧ (∀ j, k ≤ j → j < cEnd s n k → bat s j ≠ 10) ∧ (cEnd s n k < s.size → bat s (cEnd s n k) = 10) := by
  intro n
  induction n with
  | zero =>
    intro k hn hk
    have : k = s.size := by omega
    subst this
    exact ⟨Nat.le_refl _, Nat.le_refl _, fun j h1 h2 => by simp [cEnd] at h2; omega, fun h => by simp [cEnd] at h⟩
  | succ n ih =>
    intro k hn hk
    unfold cEnd
    split
    · rename_i h
      obtain ⟨h1, h2, h3, h4⟩ := ih (k + 1) (by omega) (by omega)
      refine ⟨by omega, h2, fun j hj hj' => ?_, h4⟩
      rcases Nat.eq_or_lt_of_le hj with rfl | hj
      · exact h.2
      · exact h3 j hj hj'
    · rename_i h
      refine ⟨Nat.le_refl _, hk, fun j h1 h2 => by omega, fun hlt => ?_⟩
      simpa [hlt] using h
end Go.Proofs.YtjpabigjmimogaaDoor
