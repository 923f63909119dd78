/- What the parser answers at the text of a node, whole or cut off. No program is named here. -/
import Derived.Test.YtjpabigjmimogaaDoorParseSpec
set_option linter.unusedVariables false
set_option linter.unusedSimpArgs false
namespace Go.Proofs.YtjpabigjmimogaaDoor
open Go.RowKit

def nums (s : ByteArray) : List Int := s.data.toList.map fun b => (b.toNat : Int)
theorem nums_length (s : ByteArray) : (nums s).length = s.size := by
  unfold nums
  rw [List.length_map, Array.length_toList]
  rfl
theorem nums_at (s : ByteArray) (j : Nat) (hj : j < s.size) : (nums s)[j]? = some (bat s j) := by
  have h : j < s.data.toList.length := by rw [Array.length_toList]; exact hj
  rw [nums, List.getElem?_map, List.getElem?_eq_getElem h]
  simp [bat, hj]
  rfl
theorem nums_range (s : ByteArray) (c : Int) (hc : c ∈ nums s) : 0 ≤ c ∧ c ≤ 255 := by
  simp only [nums, List.mem_map] at hc
  obtain ⟨b, _, rfl⟩ := hc
  have := b.toNat_lt
  omega
theorem strOf_nums (s : ByteArray) : strOfNums (nums s) = s := by
  have : (nums s).map (fun n => UInt8.ofNat n.toNat) = s.data.toList := by simp [nums, Function.comp_def]
  unfold strOfNums
  rw [this]
theorem nums_strOf (l : List Int) (h : ∀ c ∈ l, 0 ≤ c ∧ c ≤ 255) : nums (strOfNums l) = l := by
  unfold nums
  rw [strOfNums_data, List.map_map]
  conv => rhs; rw [← List.map_id l]
  apply List.map_congr_left
  intro c hc
  have := h c hc
  simp
  omega
theorem nums_append (a b : ByteArray) : nums (a ++ b) = nums a ++ nums b := by simp [nums]
theorem nums_inj {a b : ByteArray} (h : nums a = nums b) : a = b := by rw [← strOf_nums a, h, strOf_nums b]
theorem strOf_append (a b : List Int) : strOfNums (a ++ b) = strOfNums a ++ strOfNums b := by
  apply ByteArray.ext
  apply Array.ext'
  simp [strOfNums_data]

/-- From k on the bytes of s are L, as far as s goes. -/
def Atp (s : ByteArray) (k : Nat) (L : List Int) : Prop := ∀ j c, L[j]? = some c → k + j < s.size → bat s (k + j) = c
theorem Atp.left {s : ByteArray} {k : Nat} {A B : List Int} (h : Atp s k (A ++ B)) : Atp s k A := fun j c hj hl => h j c (by rw [List.getElem?_append_left (List.getElem?_eq_some_iff.1 hj).1]; exact hj) hl
theorem Atp.right {s : ByteArray} {k : Nat} {A B : List Int} (h : Atp s k (A ++ B)) : Atp s (k + A.length) B := fun j c hj hl => by
  have := h (A.length + j) c (by rw [List.getElem?_append_right (by omega)]; simpa using hj) (by omega)
  rwa [← Nat.add_assoc] at this
theorem Atp.head {s : ByteArray} {k : Nat} {c : Int} {B : List Int} (h : Atp s k (c :: B)) (hl : k < s.size) : bat s k = c := h 0 c rfl hl
theorem Atp.tail {s : ByteArray} {k : Nat} {c : Int} {B : List Int} (h : Atp s k (c :: B)) : Atp s (k + 1) B := Atp.right (A := [c]) h
theorem Atp.self (s : ByteArray) : Atp s 0 (nums s) := fun j c hj hl => by
  rw [Nat.zero_add] at hl ⊢
  rw [nums_at s j hl] at hj
  exact Option.some.inj hj

/-! ### The steps of the main loop -/
def AllR (s : ByteArray) (k : Nat) (top : Fr) (below : List Fr) (R : PR) : Prop := ∃ n, allF s n k top below = some R
section
variable {s : ByteArray} {k : Nat} {top f : Fr} {below b : List Fr} {R : PR}
theorem AllR.blank (hlt : k < s.size) (h : bat s k = 32 ∨ bat s k = 10) (r : AllR s (k + 1) top below R) : AllR s k top below R := by
  obtain ⟨n, r⟩ := r
  exact ⟨n + 1, by rw [allF.eq_def]; simp only; rw [if_pos hlt, if_pos h]; exact r⟩
theorem AllR.comment (hlt : k < s.size) (h : bat s k = 59) (r : AllR s (cEnd s (s.size - k) k) top below R) : AllR s k top below R := by
  obtain ⟨n, r⟩ := r
  exact ⟨n + 1, by rw [allF.eq_def]; simp only; rw [if_pos hlt, if_neg (by omega), if_pos h]; exact r⟩
theorem AllR.opn (hlt : k < s.size) (h : bat s k = 40) (hd : below.length < 40) (r : AllR s (k + 1) ⟨3, k, []⟩ (top :: below) R) : AllR s k top below R := by
  obtain ⟨n, r⟩ := r
  exact ⟨n + 1, by rw [allF.eq_def]; simp only; rw [if_pos hlt, if_neg (by omega), if_neg (by omega), if_pos h, if_neg (by omega)]; exact r⟩
theorem AllR.deep (hlt : k < s.size) (h : bat s k = 40) (hd : 40 ≤ below.length) : AllR s k top below (.fail 9 k) :=
  ⟨1, by rw [allF.eq_def]; simp only; rw [if_pos hlt, if_neg (by omega), if_neg (by omega), if_pos h, if_pos hd]⟩
theorem AllR.cls (hlt : k < s.size) (h : bat s k = 41) (r : AllR s (k + 1) (f.add top.nd) b R) : AllR s k top (f :: b) R := by
  obtain ⟨n, r⟩ := r
  exact ⟨n + 1, by rw [allF.eq_def]; simp only; rw [if_pos hlt, if_neg (by omega), if_neg (by omega), if_neg (by omega), if_pos h]; exact r⟩
theorem AllR.quo {e : Nat} {t : List Int} (hlt : k < s.size) (h : bat s k = 34) (hq : qScan s (s.size - k) (k + 1) [] = some (.done e t)) (hl : t.length ≤ 2000)
    (r : AllR s e (top.add (.mk 2 (strOfNums t) [] k)) below R) : AllR s k top below R := by
  obtain ⟨n, r⟩ := r
  exact ⟨n + 1, by rw [allF.eq_def]; simp only; rw [if_pos hlt, if_neg (by omega), if_neg (by omega), if_neg (by omega), if_neg (by omega), if_pos h, hq]; simp only; rw [if_neg (by omega)]; exact r⟩
theorem AllR.quo_long {e : Nat} {t : List Int} (hlt : k < s.size) (h : bat s k = 34) (hq : qScan s (s.size - k) (k + 1) [] = some (.done e t)) (hl : 2000 < t.length) : AllR s k top below (.fail 4 k) :=
  ⟨1, by rw [allF.eq_def]; simp only; rw [if_pos hlt, if_neg (by omega), if_neg (by omega), if_neg (by omega), if_neg (by omega), if_pos h, hq]; simp only; rw [if_pos hl]⟩
theorem AllR.quo_bad {p : Nat} (hlt : k < s.size) (h : bat s k = 34) (hq : qScan s (s.size - k) (k + 1) [] = some (.bad p)) : AllR s k top below (.fail 2 p) :=
  ⟨1, by rw [allF.eq_def]; simp only; rw [if_pos hlt, if_neg (by omega), if_neg (by omega), if_neg (by omega), if_neg (by omega), if_pos h, hq]⟩
theorem isW_not {c : Int} (h : isW c = true) : c ≠ 32 ∧ c ≠ 10 ∧ c ≠ 59 ∧ c ≠ 40 ∧ c ≠ 41 ∧ c ≠ 34 := by
  refine ⟨?_, ?_, ?_, ?_, ?_, ?_⟩ <;> (rintro rfl; simp [isW, isL, isD] at h)
theorem AllR.word {e : Nat} (hlt : k < s.size) (h : isW (bat s k) = true) (he : wEnd s (s.size - k) k = e) (hl : e - k ≤ 24) (r : AllR s e (top.add (.mk 1 (s.extract k e) [] k)) below R) : AllR s k top below R := by
  obtain ⟨n, r⟩ := r
  obtain ⟨h1, h2, h3, h4, h5, h6⟩ := isW_not h
  subst he
  exact ⟨n + 1, by rw [allF.eq_def]; simp only; rw [if_pos hlt, if_neg (by omega), if_neg h3, if_neg h4, if_neg h5, if_neg h6, if_pos h, if_neg (by omega)]; exact r⟩
theorem AllR.word_long {e : Nat} (hlt : k < s.size) (h : isW (bat s k) = true) (he : wEnd s (s.size - k) k = e) (hl : 24 < e - k) : AllR s k top below (.fail 4 k) := by
  obtain ⟨h1, h2, h3, h4, h5, h6⟩ := isW_not h
  subst he
  exact ⟨1, by rw [allF.eq_def]; simp only; rw [if_pos hlt, if_neg (by omega), if_neg h3, if_neg h4, if_neg h5, if_neg h6, if_pos h, if_pos hl]⟩
theorem AllR.fin (h : s.size ≤ k) : AllR s k top [] (.ok top.kids) := ⟨1, by rw [allF.eq_def]; simp only; rw [if_neg (by omega)]; simp⟩
theorem AllR.cut (h : s.size ≤ k) (hb : 0 < below.length) : AllR s k top below (.fail 2 s.size) := ⟨1, by rw [allF.eq_def]; simp only; rw [if_neg (by omega), if_pos hb]⟩
end
theorem AllR.parse {s : ByteArray} {R : PR} (h : AllR s 0 ⟨0, 0, []⟩ [] R) (hs : s.size ≤ 65536) : ∃ n, parseF s n = some R := by
  obtain ⟨n, r⟩ := h
  exact ⟨n, by rw [parseF, if_neg (by omega)]; exact r⟩

/-! ### Words and quoted strings -/
theorem wEnd_at {s : ByteArray} {k : Nat} {T : List Int} (h : Atp s k T) (hw : ∀ c ∈ T, isW c = true) (hl : k + T.length ≤ s.size) (he : k + T.length = s.size ∨ isW (bat s (k + T.length)) = false) : wEnd s (s.size - k) k = k + T.length := by
  obtain ⟨h1, h2, h3, h4⟩ := wEnd_spec s (s.size - k) k (Nat.le_refl _) (by omega)
  generalize wEnd s (s.size - k) k = e at *
  have hin : ∀ j, k ≤ j → j < k + T.length → isW (bat s j) = true := fun j hj hj2 => by
    have hb : j - k < T.length := by omega
    have := h (j - k) _ (List.getElem?_eq_getElem hb) (by omega)
    rw [show k + (j - k) = j by omega] at this
    rw [this]
    exact hw _ (List.getElem_mem hb)
  rcases Nat.lt_trichotomy e (k + T.length) with hlt | heq | hgt
  · have a := hin e h1 hlt
    rw [h4 (by omega)] at a
    cases a
  · exact heq
  · have a := h3 (k + T.length) (by omega) hgt
    rcases he with he | he
    · omega
    · rw [he] at a; cases a
theorem extract_at {s t : ByteArray} {k : Nat} (h : Atp s k (nums t)) (hl : k + t.size ≤ s.size) : s.extract k (k + t.size) = t := by
  apply nums_inj
  apply List.ext_getElem?
  intro j
  by_cases hj : j < t.size
  · rw [nums_at _ _ hj, nums_at _ _ (by simp; omega)]
    have e := h j _ (nums_at t j hj) (by omega)
    rw [← e]
    congr 1
    unfold bat
    rw [dif_pos (by simp; omega), dif_pos (by omega)]
    simp [ByteArray.getElem_eq_getElem_data]
  · rw [List.getElem?_eq_none (by rw [nums_length]; simp; omega), List.getElem?_eq_none (by rw [nums_length]; omega)]

def esc (t : List Int) : List Int := t.flatMap fun c => if c = 34 ∨ c = 92 then [92, c] else [c]
def quoteL (t : List Int) : List Int := 34 :: (esc t ++ [34])
theorem esc_cons (c : Int) (t : List Int) : esc (c :: t) = (if c = 34 ∨ c = 92 then [92, c] else [c]) ++ esc t := rfl
theorem esc_append (a b : List Int) : esc (a ++ b) = esc a ++ esc b := by simp [esc]
theorem esc_length (t : List Int) : (esc t).length ≤ 2 * t.length ∧ t.length ≤ (esc t).length := by
  induction t with
  | nil => simp [esc]
  | cons c t ih => rw [esc_cons]; split <;> simp <;> omega
theorem qScan_esc {s : ByteArray} : ∀ (t : List Int) (n k : Nat) (a : List Int), Atp s k (esc t ++ [34]) → k + (esc t).length + 1 ≤ s.size → (∀ c ∈ t, isS c = true) → s.size - k < n →
    qScan s n k a = some (.done (k + (esc t).length + 1) (a ++ t)) := by
  intro t
  induction t with
  | nil =>
    intro n k a h hl hs hn
    cases n with
    | zero => omega
    | succ n =>
      have h0 : bat s k = 34 := h.head (B := []) (by simp [esc] at hl; omega)
      simp [esc] at hl
      rw [qScan, if_pos (by omega), if_pos h0]
      simp [esc]
  | cons c t ih =>
    intro n k a h hl hs hn
    cases n with
    | zero => omega
    | succ n =>
      rw [esc_cons] at h hl
      have hc : isS c = true := hs c (by simp)
      have hs' : ∀ c ∈ t, isS c = true := fun c hc => hs c (by simp [hc])
      by_cases hq : c = 34 ∨ c = 92
      · rw [if_pos hq] at h hl
        simp only [List.cons_append, List.nil_append, List.length_cons] at h hl
        have h0 := h.head (by omega)
        have h1 := h.tail.head (by omega)
        have h2 := h.tail.tail
        have := ih n (k + 2) (a ++ [c]) h2 (by omega) hs' (by omega)
        rw [qScan, if_pos (by omega), if_neg (by omega), if_neg (by rw [h0]; decide), if_pos h0, if_neg (by omega)]
        rw [h1, esc_cons, if_pos hq]
        rw [show k + ([92, c] ++ esc t).length + 1 = k + 2 + (esc t).length + 1 by simp; omega, show a ++ c :: t = (a ++ [c]) ++ t by simp]
        rcases hq with rfl | rfl
        · rw [if_pos rfl]; exact this
        · rw [if_neg (by decide), if_pos rfl]; exact this
      · rw [if_neg hq] at h hl
        simp only [List.cons_append, List.nil_append, List.length_cons] at h hl
        have h0 := h.head (by omega)
        have := ih n (k + 1) (a ++ [c]) h.tail (by omega) hs' (by omega)
        rw [qScan, if_pos (by omega), if_neg (by omega), if_neg (by rw [h0, hc]; decide), if_neg (by omega), h0, esc_cons, if_neg hq]
        rw [show k + ([c] ++ esc t).length + 1 = k + 1 + (esc t).length + 1 by simp; omega, show a ++ c :: t = (a ++ [c]) ++ t by simp]
        exact this
theorem qScan_cut {s : ByteArray} : ∀ (t : List Int) (n k : Nat) (a : List Int), Atp s k (esc t ++ [34]) → k ≤ s.size → s.size < k + (esc t).length + 1 → (∀ c ∈ t, isS c = true) → s.size - k < n →
    ∃ p, qScan s n k a = some (.bad p) := by
  intro t
  induction t with
  | nil =>
    intro n k a h hk hl hs hn
    cases n with
    | zero => omega
    | succ n =>
      simp [esc] at hl
      exact ⟨_, by rw [qScan, if_neg (by omega)]⟩
  | cons c t ih =>
    intro n k a h hk hl hs hn
    cases n with
    | zero => omega
    | succ n =>
      by_cases hlt : k < s.size
      · rw [esc_cons] at h hl
        have hc : isS c = true := hs c (by simp)
        have hs' : ∀ c ∈ t, isS c = true := fun c hc => hs c (by simp [hc])
        by_cases hq : c = 34 ∨ c = 92
        · rw [if_pos hq] at h hl
          simp only [List.cons_append, List.nil_append, List.length_cons] at h hl
          have h0 := h.head (by omega)
          by_cases hk1 : k + 1 = s.size
          · exact ⟨k, by rw [qScan, if_pos (by omega), if_neg (by omega), if_neg (by rw [h0]; decide), if_pos h0, if_pos hk1]⟩
          · have h1 := h.tail.head (by omega)
            obtain ⟨p, hp⟩ := ih n (k + 2) (a ++ [c]) h.tail.tail (by omega) (by omega) hs' (by omega)
            refine ⟨p, ?_⟩
            rw [qScan, if_pos (by omega), if_neg (by omega), if_neg (by rw [h0]; decide), if_pos h0, if_neg (by omega)]
            rw [h1]
            rcases hq with rfl | rfl
            · rw [if_pos rfl]; exact hp
            · rw [if_neg (by decide), if_pos rfl]; exact hp
        · rw [if_neg hq] at h hl
          simp only [List.cons_append, List.nil_append, List.length_cons] at h hl
          have h0 := h.head (by omega)
          obtain ⟨p, hp⟩ := ih n (k + 1) (a ++ [c]) h.tail (by omega) (by omega) hs' (by omega)
          refine ⟨p, ?_⟩
          rw [qScan, if_pos (by omega), if_neg (by omega), if_neg (by rw [h0, hc]; decide), if_neg (by omega), h0]
          exact hp
      · exact ⟨_, by rw [qScan, if_neg hlt]⟩

/-! ### The text of a node, with separators of S -/
def NWh (L : List Int) : Prop := ∃ c r, L = c :: r ∧ isW c = false
mutual
def Nd.Txt (S : List Int → Prop) : Nd → List Int → Prop
  | .mk k t l _, L =>
    (k = 1 ∧ l = [] ∧ L = nums t ∧ 0 < t.size ∧ t.size ≤ 24 ∧ ∀ c ∈ nums t, isW c = true) ∨
    (k = 2 ∧ l = [] ∧ L = quoteL (nums t) ∧ t.size ≤ 2000 ∧ ∀ c ∈ nums t, isS c = true) ∨
    (k = 3 ∧ t = ⟨#[]⟩ ∧ ∃ M, L = 40 :: M ∧ itemsTxt S l M)
def itemsTxt (S : List Int → Prop) : List Nd → List Int → Prop
  | [], M => ∃ sp, S sp ∧ M = sp ++ [41]
  | x :: l, M => ∃ sp T M', S sp ∧ x.Txt S T ∧ itemsTxt S l M' ∧ M = sp ++ (T ++ M') ∧ NWh M'
end
mutual
def Nd.nest : Nd → Nat
  | .mk k _ l _ => (if k = 3 then 1 else 0) + nests l
def nests : List Nd → Nat
  | [] => 0
  | x :: l => max x.nest (nests l)
end
mutual
/-- What Equal answers. -/
def eqN : Nd → Nd → Bool
  | .mk k t l _, .mk k' t' l' _ => k == k' && decide (t = t') && eqNs l l'
def eqNs : List Nd → List Nd → Bool
  | [], [] => true
  | x :: l, y :: m => eqN x y && eqNs l m
  | _, _ => false
end
theorem eqNs_append : ∀ {a b c d : List Nd}, eqNs a b = true → eqNs c d = true → eqNs (a ++ c) (b ++ d) = true
  | [], [], _, _, _, h => h
  | x :: a, y :: b, _, _, h, h2 => by
    simp only [eqNs, Bool.and_eq_true, List.cons_append] at h ⊢
    exact ⟨h.1, eqNs_append h.2 h2⟩
  | [], _ :: _, _, _, h, _ => by simp [eqNs] at h
  | _ :: _, [], _, _, h, _ => by simp [eqNs] at h

def Skips (S : List Int → Prop) : Prop := ∀ sp, S sp → ∀ (s : ByteArray) (k : Nat) (top : Fr) (below : List Fr) (R : PR), Atp s k sp → k + sp.length ≤ s.size → AllR s (k + sp.length) top below R → AllR s k top below R
def Cuts (S : List Int → Prop) : Prop := ∀ sp, S sp → ∀ (s : ByteArray) (k : Nat) (top : Fr) (below : List Fr), Atp s k sp → k ≤ s.size → s.size < k + sp.length → 0 < below.length → ∃ b, AllR s k top below (.fail 2 b)

theorem node_items (S : List Int → Prop) (hS : Skips S) : ∀ (m : Nat),
    (∀ (x : Nd) (T : List Int), SizeOf.sizeOf x ≤ m → x.Txt S T → ∀ (s : ByteArray) (k : Nat), Atp s k T → k + T.length ≤ s.size → (k + T.length = s.size ∨ isW (bat s (k + T.length)) = false) →
      ∃ y : Nd, eqN y x = true ∧ y.off = k ∧ ∀ (top : Fr) (below : List Fr) (R : PR), below.length + x.nest ≤ 40 → AllR s (k + T.length) (top.add y) below R → AllR s k top below R) ∧
    (∀ (l : List Nd) (M : List Int), SizeOf.sizeOf l ≤ m → itemsTxt S l M → ∀ (s : ByteArray) (k : Nat), Atp s k M → k + M.length ≤ s.size →
      ∃ ys : List Nd, eqNs ys l = true ∧ ∀ (top f : Fr) (below : List Fr) (R : PR), below.length + 1 + nests l ≤ 40 → AllR s (k + M.length) (f.add ({ top with kids := top.kids ++ ys } : Fr).nd) below R → AllR s k top (f :: below) R) := by
  intro m
  induction m with
  | zero =>
    refine ⟨fun x T hx => ?_, fun l M hl => ?_⟩
    · cases x; simp at hx
    · cases l <;> simp at hl
  | succ m ih =>
    refine ⟨fun x T hx ht s k hat hle hnw => ?_, fun l M hl ht s k hat hle => ?_⟩
    · obtain ⟨kd, t, l, o⟩ := x
      rw [Nd.Txt] at ht
      rcases ht with ⟨rfl, rfl, rfl, h0, h24, hw⟩ | ⟨rfl, rfl, rfl, h2000, hs⟩ | ⟨rfl, rfl, M, rfl, hM⟩
      · rw [nums_length] at hle hnw ⊢
        have he := wEnd_at hat hw (by rw [nums_length]; exact hle) (by rw [nums_length]; exact hnw)
        rw [nums_length] at he
        have hlt : k < s.size := by omega
        have hfirst : isW (bat s k) = true := by
          have := hat 0 _ (nums_at t 0 h0) (by omega)
          rw [Nat.add_zero] at this
          rw [this]
          exact hw _ (List.mem_of_getElem? (nums_at t 0 h0))
        refine ⟨.mk 1 t [] k, by simp [eqN, eqNs], rfl, fun top below R hd r => ?_⟩
        refine AllR.word hlt hfirst he (by omega) ?_
        rw [extract_at hat hle]
        exact r
      · have hl1 : (quoteL (nums t)).length = (esc (nums t)).length + 2 := by simp [quoteL]
        rw [hl1] at hle hnw ⊢
        have hq := qScan_esc (s := s) (nums t) (s.size - k) (k + 1) [] hat.tail (by omega) hs (by omega)
        refine ⟨.mk 2 (strOfNums (nums t)) [] k, by simp [eqN, eqNs, strOf_nums], rfl, fun top below R hd r => ?_⟩
        refine AllR.quo (by omega) (hat.head (by omega)) hq (by simp [nums_length]; omega) ?_
        rw [show k + 1 + (esc (nums t)).length + 1 = k + ((esc (nums t)).length + 2) by omega]
        exact r
      · simp only [List.length_cons] at hle hnw ⊢
        have hsz : SizeOf.sizeOf l ≤ m := by simp at hx; omega
        obtain ⟨ys, hy, hr⟩ := ih.2 l M hsz hM s (k + 1) hat.tail (by omega)
        refine ⟨.mk 3 ⟨#[]⟩ ys k, by simp [eqN, hy], rfl, fun top below R hd r => ?_⟩
        simp only [Nd.nest, if_pos] at hd
        refine AllR.opn (by omega) (hat.head (by omega)) (by omega) ?_
        refine hr ⟨3, k, []⟩ top below R (by omega) ?_
        rw [show k + 1 + M.length = k + (M.length + 1) by omega]
        exact r
    · cases l with
      | nil =>
        rw [itemsTxt] at ht
        obtain ⟨sp, hsp, rfl⟩ := ht
        simp only [List.length_append, List.length_cons, List.length_nil] at hle ⊢
        refine ⟨[], rfl, fun top f below R hd r => ?_⟩
        refine hS sp hsp s k top _ R hat.left (by omega) ?_
        refine AllR.cls (by omega) (hat.right.head (by omega)) ?_
        rw [show k + sp.length + 1 = k + (sp.length + (0 + 1)) by omega]
        simpa using r
      | cons x l =>
        rw [itemsTxt] at ht
        obtain ⟨sp, T, M', hsp, hT, hM', rfl, c, r0, rfl, hc⟩ := ht
        have hsx : SizeOf.sizeOf x ≤ m := by simp at hl; omega
        have hsl : SizeOf.sizeOf l ≤ m := by simp at hl; omega
        simp only [List.length_append] at hle ⊢
        have hlc : (c :: r0).length = r0.length + 1 := rfl
        obtain ⟨y, hy, hoff, hx⟩ := ih.1 x T hsx hT s (k + sp.length) hat.right.left (by omega) (.inr (by rw [hat.right.right.head (by omega)]; exact hc))
        obtain ⟨ys, hys, hr⟩ := ih.2 l (c :: r0) hsl hM' s (k + sp.length + T.length) hat.right.right (by omega)
        refine ⟨y :: ys, by simp [eqNs, hy, hys], fun top f below R hd r => ?_⟩
        simp only [nests] at hd
        refine hS sp hsp s k top _ R hat.left (by omega) ?_
        refine hx top (f :: below) R (by simp only [List.length_cons]; omega) ?_
        refine hr (top.add y) f below R (by omega) ?_
        rw [show k + sp.length + T.length + (c :: r0).length = k + (sp.length + (T.length + (c :: r0).length)) by omega]
        simpa [Fr.add] using r

theorem node_text {S : List Int → Prop} (hS : Skips S) {x : Nd} {T : List Int} (h : x.Txt S T) {s : ByteArray} {k : Nat} (hat : Atp s k T) (hle : k + T.length ≤ s.size) (hnw : k + T.length = s.size ∨ isW (bat s (k + T.length)) = false) :
    ∃ y : Nd, eqN y x = true ∧ y.off = k ∧ ∀ (top : Fr) (below : List Fr) (R : PR), below.length + x.nest ≤ 40 → AllR s (k + T.length) (top.add y) below R → AllR s k top below R :=
  (node_items S hS _).1 x T (Nat.le_refl _) h s k hat hle hnw

/-- A text that is cut off. -/
theorem node_cut (S : List Int → Prop) (hS : Skips S) (hC : Cuts S) : ∀ (m : Nat),
    (∀ (x : Nd) (T : List Int), SizeOf.sizeOf x ≤ m → x.Txt S T → ∀ (s : ByteArray) (k : Nat) (top : Fr) (below : List Fr), Atp s k T → k ≤ s.size → s.size < k + T.length → below.length + x.nest ≤ 40 → (0 < below.length ∨ x.kind = 3 ∧ k < s.size) →
      ∃ b, AllR s k top below (.fail 2 b)) ∧
    (∀ (l : List Nd) (M : List Int), SizeOf.sizeOf l ≤ m → itemsTxt S l M → ∀ (s : ByteArray) (k : Nat) (top : Fr) (below : List Fr), Atp s k M → k ≤ s.size → s.size < k + M.length → below.length + nests l ≤ 40 → 0 < below.length →
      ∃ b, AllR s k top below (.fail 2 b)) := by
  intro m
  induction m with
  | zero =>
    refine ⟨fun x T hx => ?_, fun l M hl => ?_⟩
    · cases x; simp at hx
    · cases l <;> simp at hl
  | succ m ih =>
    refine ⟨fun x T hx ht s k top below hat hk hlt hd hb => ?_, fun l M hl ht s k top below hat hk hlt hd hb => ?_⟩
    · by_cases hend : k = s.size
      · exact ⟨_, AllR.cut (by omega) (by omega)⟩
      obtain ⟨kd, t, l, o⟩ := x
      rw [Nd.Txt] at ht
      rcases ht with ⟨rfl, rfl, rfl, h0, h24, hw⟩ | ⟨rfl, rfl, rfl, h2000, hs⟩ | ⟨rfl, rfl, M, rfl, hM⟩
      · have hb0 : 0 < below.length := by
          rcases hb with hb | ⟨hb, _⟩
          · exact hb
          · simp [Nd.kind] at hb
        rw [nums_length] at hlt
        have hsplit : nums t = (nums t).take (s.size - k) ++ (nums t).drop (s.size - k) := (List.take_append_drop _ _).symm
        rw [hsplit] at hat
        have hl1 : ((nums t).take (s.size - k)).length = s.size - k := by rw [List.length_take, nums_length]; omega
        have he := wEnd_at hat.left (fun c hc => hw c (List.mem_of_mem_take hc)) (by omega) (.inl (by omega))
        rw [hl1] at he
        have hfirst : isW (bat s k) = true := by
          rw [← hsplit] at hat
          have := hat 0 _ (nums_at t 0 h0) (by omega)
          rw [Nat.add_zero] at this
          rw [this]
          exact hw _ (List.mem_of_getElem? (nums_at t 0 h0))
        exact ⟨_, AllR.word (by omega) hfirst he (by omega) (AllR.cut (by omega) hb0)⟩
      · have hl1 : (quoteL (nums t)).length = (esc (nums t)).length + 2 := by simp [quoteL]
        rw [hl1] at hlt
        obtain ⟨p, hp⟩ := qScan_cut (s := s) (nums t) (s.size - k) (k + 1) [] hat.tail (by omega) (by omega) hs (by omega)
        exact ⟨p, AllR.quo_bad (by omega) (hat.head (by omega)) hp⟩
      · simp only [List.length_cons] at hlt
        have hsz : SizeOf.sizeOf l ≤ m := by simp at hx; omega
        simp only [Nd.nest, if_pos] at hd
        obtain ⟨b, hr⟩ := ih.2 l M hsz hM s (k + 1) ⟨3, k, []⟩ (top :: below) hat.tail (by omega) (by omega) (by simp only [List.length_cons]; omega) (by simp)
        exact ⟨b, AllR.opn (by omega) (hat.head (by omega)) (by omega) hr⟩
    · cases l with
      | nil =>
        rw [itemsTxt] at ht
        obtain ⟨sp, hsp, rfl⟩ := ht
        simp only [List.length_append, List.length_cons, List.length_nil] at hlt
        by_cases hs1 : s.size < k + sp.length
        · exact hC sp hsp s k top below hat.left hk hs1 hb
        · exact ⟨_, hS sp hsp s k top _ _ hat.left (by omega) (AllR.cut (by omega) hb)⟩
      | cons x l =>
        rw [itemsTxt] at ht
        obtain ⟨sp, T, M', hsp, hT, hM', rfl, c, r0, rfl, hc⟩ := ht
        have hsx : SizeOf.sizeOf x ≤ m := by simp at hl; omega
        have hsl : SizeOf.sizeOf l ≤ m := by simp at hl; omega
        simp only [List.length_append] at hlt
        simp only [nests] at hd
        by_cases hs1 : s.size < k + sp.length
        · exact hC sp hsp s k top below hat.left hk hs1 hb
        by_cases hs2 : s.size < k + sp.length + T.length
        · obtain ⟨b, hr⟩ := ih.1 x T hsx hT s (k + sp.length) top below hat.right.left (by omega) (by omega) (by omega) (.inl hb)
          exact ⟨b, hS sp hsp s k top _ _ hat.left (by omega) hr⟩
        have hnw : k + sp.length + T.length = s.size ∨ isW (bat s (k + sp.length + T.length)) = false := by
          by_cases he : k + sp.length + T.length = s.size
          · exact .inl he
          · exact .inr (by rw [hat.right.right.head (by omega)]; exact hc)
        obtain ⟨y, hy, hoff, hx⟩ := node_text hS hT hat.right.left (by omega) hnw
        obtain ⟨b, hr⟩ := ih.2 l (c :: r0) hsl hM' s (k + sp.length + T.length) (top.add y) below hat.right.right (by omega) (by omega) (by omega) hb
        exact ⟨b, hS sp hsp s k top _ _ hat.left (by omega) (hx top below _ (by omega) hr)⟩
end Go.Proofs.YtjpabigjmimogaaDoor
