/- Words of this claim: data in memory as trees of cells, what a call keeps, rows of the call's own. No program is named here. -/
import Derived.WalkKit
import Derived.WalkLawsBesides
import Derived.Deep.AppendLies
import Derived.Deep.Draws
import Derived.Lib.Hide
import Derived.Deep.QuietTactic
set_option linter.unusedVariables false
set_option linter.unusedSimpArgs false
namespace Go.Proofs.Ytadpfhoenjodeaa
open Go.RowKit

/-- A datum as it lies in cells: one cell's value, or a slice (the element type, the cells of an element, all its cells). -/
inductive Tr where
  | sc (v : Value)
  | sl (t : TypeId) (sz : Nat) (es : List Tr)

/-- The value v reads in w as the datum, through blocks of ok alone. -/
inductive Rd (w : World) (ok : Nat → Prop) : Value → Tr → Prop where
  | sc (v : Value) : Rd w ok v (.sc v)
  | nil (t sz : Nat) : Rd w ok (.slice none 0 0) (.sl t sz [])
  | emp (a : Addr) (c t sz : Nat) (hc : c ≤ maxLen) : Rd w ok (.slice (some a) 0 c) (.sl t sz [])
  | row {t' : TypeId} (b o n c t sz : Nat) (cs : Array Value) (fr : Nat × Nat) (us : List Value) (es : List Tr)
      (hb : ok b) (hh : w.heap[b]? = some (.cells cs t' fr)) (hnc : n ≤ c) (hc : c ≤ maxLen) (hl : es.length = n * sz) (hu : us.length = n * sz)
      (hcs : ∀ j, j < n * sz → cs[o + j]? = us[j]?)
      (h : ∀ (j : Nat) (u : Value) (e : Tr), us[j]? = some u → es[j]? = some e → Rd w ok u e) : Rd w ok (.slice (some ⟨b, o, none⟩) n c) (.sl t sz es)

def RdL (w : World) (ok : Nat → Prop) (us : List Value) (es : List Tr) : Prop := us.length = es.length ∧ ∀ (j : Nat) (u : Value) (e : Tr), us[j]? = some u → es[j]? = some e → Rd w ok u e

/-- What a call keeps: all old blocks but those of S. -/
structure Kp (w w' : World) (S : Nat → Prop) : Prop where
  os : w'.os = w.os
  tape : w'.tape = w.tape
  output : w'.output = w.output
  size : w.heap.size ≤ w'.heap.size
  block : ∀ b, b < w.heap.size → ¬ S b → w'.heap[b]? = w.heap[b]?

section
variable {w w' w1 w2 : World} {S S1 S2 : Nat → Prop} {ok ok' : Nat → Prop}

theorem Kp.refl (w : World) (S : Nat → Prop) : Kp w w S := ⟨rfl, rfl, rfl, Nat.le_refl _, fun _ _ _ => rfl⟩
theorem Kp.mono (h : Kp w w' S) (hs : ∀ b, S b → S1 b) : Kp w w' S1 := ⟨h.os, h.tape, h.output, h.size, fun b hb hn => h.block b hb fun hS => hn (hs b hS)⟩
theorem Kp.trans (h : Kp w w1 S) (k : Kp w1 w2 S1) (hs : ∀ b, b < w.heap.size → S1 b → S b) : Kp w w2 S :=
  ⟨k.os.trans h.os, k.tape.trans h.tape, k.output.trans h.output, Nat.le_trans h.size k.size, fun b hb hn =>
    (k.block b (Nat.lt_of_lt_of_le hb h.size) fun hS => hn (hs b hb hS)).trans (h.block b hb hn)⟩
theorem Kp.drew (h : Kp w w' S) : Kp w w'.drew S := ⟨h.os, h.tape, h.output, h.size, h.block⟩
theorem Kp.drewN (h : Kp w w' S) (n : Nat) : Kp w (w'.drewN n) S := ⟨h.os, h.tape, h.output, h.size, h.block⟩
theorem Kp.alloc (h : Kp w w' S) (o : Obj) : Kp w (w'.alloc o) S :=
  ⟨h.os, h.tape, h.output, Nat.le_trans h.size (by simp), fun b hb hn => (Below.heap_alloc w' o b (Nat.lt_of_lt_of_le hb h.size)).trans (h.block b hb hn)⟩
theorem Kp.setCell (h : Kp w w' S) {p : Addr} (hp : S p.block ∨ w.heap.size ≤ p.block) (u : Value) : Kp w (w'.setCell p u) S :=
  ⟨h.os, h.tape, h.output, by simpa [World.setCell] using h.size, fun b hb hn => (Below.heap_setCell w' p u b (by
    rintro rfl
    rcases hp with hp | hp
    · exact hn hp
    · omega)).trans (h.block b hb hn)⟩
theorem Kp.grown (h : Kp w w' S) {row : Option Nat} (hg : w'.grownBy w1 row) (hr : ∀ k, row = some k → S k ∨ w.heap.size ≤ k) : Kp w w1 S :=
  h.trans ⟨hg.os, hg.tape, hg.output, hg.size, fun b hb hn => hg.block b hb fun e => hn e.symm⟩ (S1 := fun b => row = some b) (fun b hb hS => (hr b hS).elim id fun h => by omega)
theorem Kp.below (h : Kp w w' fun _ => False) : Below w.heap.size w w' := ⟨h.os, h.tape, h.output, h.size, fun b hb => h.block b hb id⟩
theorem Kp.of_below (h : Below w.heap.size w w') (S : Nat → Prop) : Kp w w' S := ⟨h.os, h.tape, h.output, h.size, fun b hb _ => h.block b hb⟩
theorem Kp.call (h : Kp w w' S) (k : Below w'.heap.size w' w1) : Kp w w1 S := h.trans (Kp.of_below k fun _ => False) fun _ _ hf => hf.elim
theorem Kp.cell (h : Kp w w' S) {a : Addr} {v : Value} (hc : w.cell? a = some v) (hn : ¬ S a.block) : w'.cell? a = some v :=
  (World.cell?_of_block (h.block a.block (World.block_lt_of_cell? w a hc) hn)).trans hc
theorem Kp.blk (h : Kp w w' S) {b : Nat} {o : Obj} (hc : w.heap[b]? = some o) (hn : ¬ S b) : w'.heap[b]? = some o :=
  (h.block b (lt_of_block hc) hn).trans hc
theorem below_cell (h : Below w.heap.size w w') {a : Addr} {v : Value} (hc : w.cell? a = some v) : w'.cell? a = some v :=
  (h.cell (World.block_lt_of_cell? w a hc)).trans hc
theorem below_blk (h : Below w.heap.size w w') {b : Nat} {o : Obj} (hc : w.heap[b]? = some o) : w'.heap[b]? = some o := (h.block b (lt_of_block hc)).trans hc
theorem below_drewN' {B : Nat} (h : Below B w w') (n : Nat) : Below B w (w'.drewN n) := ⟨h.os, h.tape, h.output, h.size, h.block⟩
theorem below_call (h : Below w.heap.size w w1) (k : Below w1.heap.size w1 w2) : Below w.heap.size w w2 := (Kp.call (Kp.of_below h fun _ => False) k).below

/-- A reading goes on where what it reads is as it was. -/
theorem Rd.step {v : Value} {e : Tr} (h : Rd w ok v e) (hs : ∀ b, ok b → b < w.heap.size → ok' b ∧ w'.heap[b]? = w.heap[b]?) : Rd w' ok' v e := by
  induction h with
  | sc v => exact .sc v
  | nil t sz => exact .nil t sz
  | emp a c t sz hc => exact .emp a c t sz hc
  | row b o n c t sz cs fr us es hb hh hnc hc hl hu hcs _ ih =>
    obtain ⟨h1, h2⟩ := hs b hb (lt_of_block hh)
    exact .row b o n c t sz cs fr us es h1 (h2.trans hh) hnc hc hl hu hcs ih
theorem Rd.kp {v : Value} {e : Tr} (h : Rd w ok v e) (k : Kp w w' S) (hS : ∀ b, ok b → ¬ S b) : Rd w' ok v e := h.step fun b hb hlt => ⟨hb, k.block b hlt (hS b hb)⟩
theorem Rd.bl {v : Value} {e : Tr} (h : Rd w ok v e) (k : Below w.heap.size w w') : Rd w' ok v e := h.step fun b hb hlt => ⟨hb, k.block b hlt⟩
theorem Rd.mono {v : Value} {e : Tr} (h : Rd w ok v e) (hS : ∀ b, ok b → b < w.heap.size → ok' b) : Rd w ok' v e := h.step fun b hb hlt => ⟨hS b hb hlt, rfl⟩
theorem Rd.drew {v : Value} {e : Tr} (h : Rd w ok v e) : Rd w.drew ok v e := h.step fun b hb _ => ⟨hb, rfl⟩
theorem Rd.drewN {v : Value} {e : Tr} (h : Rd w ok v e) (n : Nat) : Rd (w.drewN n) ok v e := h.step fun b hb _ => ⟨hb, rfl⟩
theorem Rd.alloc {v : Value} {e : Tr} (h : Rd w ok v e) (o : Obj) : Rd (w.alloc o) ok v e := h.step fun b hb hlt => ⟨hb, Below.heap_alloc w o b hlt⟩
theorem Rd.setCell {v : Value} {e : Tr} (h : Rd w ok v e) {p : Addr} (hp : ¬ ok p.block) (u : Value) : Rd (w.setCell p u) ok v e :=
  h.step fun b hb _ => ⟨hb, Below.heap_setCell w p u b (fun e => hp (e ▸ hb))⟩

theorem Rd.sc_inv {v u : Value} (h : Rd w ok v (.sc u)) : v = u := by cases h; rfl
/-- A slice that reads. -/
theorem Rd.sl_inv {v : Value} {t sz : Nat} {es : List Tr} (h : Rd w ok v (.sl t sz es)) : ∃ A n c, v = .slice A n c ∧ es.length = n * sz ∧ n ≤ c ∧ c ≤ maxLen := by
  cases h with
  | nil => exact ⟨none, 0, 0, rfl, by simp, Nat.le_refl _, Nat.zero_le _⟩
  | emp a c _ _ hc => exact ⟨some a, 0, c, rfl, by simp, Nat.zero_le _, hc⟩
  | row b o n c _ _ cs fr us es hb hh hnc hc hl => exact ⟨_, n, c, rfl, hl, hnc, hc⟩
theorem Rd.len {A : Option Addr} {n c t sz : Nat} {es : List Tr} (h : Rd w ok (.slice A n c) (.sl t sz es)) : es.length = n * sz ∧ n ≤ c ∧ c ≤ maxLen := by
  obtain ⟨A', n', c', he, hr⟩ := h.sl_inv
  injection he with _ h1 h2
  subst h1 h2
  exact hr
theorem Rd.at_ {A : Option Addr} {n c t sz : Nat} {es : List Tr} (h : Rd w ok (.slice A n c) (.sl t sz es)) (hn : 0 < n) :
    ∃ b o, A = some ⟨b, o, none⟩ ∧ ok b ∧ b < w.heap.size ∧ ∀ j, j < n * sz → ∃ u e, es[j]? = some e ∧ w.cell? ⟨b, o + j, none⟩ = some u ∧ Rd w ok u e := by
  cases h with
  | nil => omega
  | emp => omega
  | row b o _ _ _ _ cs fr us _ hb hh hnc hc hl hu hcs hr =>
    refine ⟨b, o, rfl, hb, lt_of_block hh, fun j hj => ?_⟩
    have h1 : us[j]? = some us[j] := List.getElem?_eq_getElem (by omega)
    have h2 : es[j]? = some es[j] := List.getElem?_eq_getElem (by omega)
    exact ⟨us[j], es[j], h2, by rw [cell_of_row w b (o + j) cs _ fr hh, hcs j hj, h1], hr j _ _ h1 h2⟩

/-- A row of the call's own whose elements read as es. -/
def Own (w : World) (ok : Nat → Prop) (base t sz : Nat) (v : Value) (n : Nat) (es : List Tr) : Prop := ∃ us, w.ownsRow base t sz v n us ∧ RdL w ok us es
theorem Own.nil (w : World) (ok : Nat → Prop) (base t sz : Nat) : Own w ok base t sz (.slice none 0 0) 0 [] := ⟨[], World.ownsRow_nil w base t sz, rfl, by simp⟩
section
variable {base t sz n : Nat} {v : Value} {es : List Tr}
theorem RdL.step {us : List Value} (h : RdL w ok us es) (hs : ∀ b, ok b → b < w.heap.size → ok' b ∧ w'.heap[b]? = w.heap[b]?) : RdL w' ok' us es := ⟨h.1, fun j u e hu he => (h.2 j u e hu he).step hs⟩
theorem RdL.append {us us' : List Value} {es' : List Tr} (h : RdL w ok us es) (h' : RdL w ok us' es') : RdL w ok (us ++ us') (es ++ es') := by
  refine ⟨by simp [h.1, h'.1], fun j u e hu he => ?_⟩
  rw [List.getElem?_append] at hu he
  rw [h.1] at hu
  by_cases hj : j < es.length
  · rw [if_pos hj] at hu he
    exact h.2 j u e hu he
  · rw [if_neg hj] at hu he
    exact h'.2 _ u e hu he
theorem RdL.nil : RdL w ok [] [] := ⟨rfl, by simp⟩
theorem RdL.cons {u : Value} {e : Tr} {us : List Value} (h : Rd w ok u e) (h' : RdL w ok us es) : RdL w ok (u :: us) (e :: es) := by
  refine ⟨by simp [h'.1], fun j u' e' hu he => ?_⟩
  cases j with
  | zero => simp at hu he; subst hu he; exact h
  | succ j => exact h'.2 j u' e' (by simpa using hu) (by simpa using he)
theorem Own.len (h : Own w ok base t sz v n es) : es.length = n * sz := by obtain ⟨us, h1, h2, _⟩ := h; exact h2.symm.trans h1.1
theorem Own.lt (h : Own w ok base t sz v n es) : ∀ k, v.ownBlock = some k → base ≤ k ∧ k < w.heap.size := by obtain ⟨us, h1, _⟩ := h; exact h1.lt
theorem Own.shape (h : Own w ok base t sz v n es) : v = .slice none 0 0 ∧ n = 0 ∨ ∃ g cap, v = .slice (some ⟨g, 0, none⟩) n cap ∧ base ≤ g ∧ g < w.heap.size ∧ n ≤ cap ∧ cap ≤ maxLen := by
  obtain ⟨us, h1, _⟩ := h
  rcases h1.2 with ⟨hv, h0⟩ | ⟨g, cap, cur, hv, hb, hh, hn, hc, _⟩
  · exact .inl ⟨hv, h0⟩
  · exact .inr ⟨g, cap, hv, hb, lt_of_block hh, hn, hc⟩
theorem Own.slice (h : Own w ok base t sz v n es) : ∃ A c, v = .slice A n c ∧ n ≤ c ∧ c ≤ maxLen := by
  rcases h.shape with ⟨rfl, rfl⟩ | ⟨g, cap, rfl, _, _, h1, h2⟩
  · exact ⟨none, 0, rfl, Nat.le_refl _, Nat.zero_le _⟩
  · exact ⟨_, cap, rfl, h1, h2⟩
/-- Given up: a row of the call's own is a datum to be read. -/
theorem Own.rd (h : Own w ok base t sz v n es) (hok : ∀ b, ok b → b < w.heap.size → ok' b) (hv : ∀ k, v.ownBlock = some k → ok' k) : Rd w ok' v (.sl t sz es) := by
  obtain ⟨us, h1, h2, h3⟩ := h
  have hlen := h1.1
  rcases h1.2 with ⟨rfl, rfl⟩ | ⟨g, cap, cur, rfl, hb, hh, hn, hc, hs, ht⟩
  · have he : es = [] := List.eq_nil_of_length_eq_zero (by rw [← h2, hlen]; simp)
    subst he
    exact .nil t sz
  · refine .row g 0 n cap t sz cur (0, 0) us es (hv g rfl) hh hn hc (by omega) hlen (fun j hj => ?_) (fun j u e hu he => (h3 j u e hu he).mono hok)
    rw [← ht, List.getElem?_take_of_lt hj]
    simp
theorem Own.step (h : Own w ok base t sz v n es) (hs : ∀ b, ok b → b < w.heap.size → ok' b ∧ w'.heap[b]? = w.heap[b]?) (hv : ∀ k, v.ownBlock = some k → w'.heap[k]? = w.heap[k]?) : Own w' ok' base t sz v n es := by
  obtain ⟨us, h1, h2⟩ := h
  refine ⟨us, ⟨h1.1, ?_⟩, h2.step hs⟩
  rcases h1.2 with h0 | ⟨g, cap, cur, rfl, hb, hh, r⟩
  · exact .inl h0
  · exact .inr ⟨g, cap, cur, rfl, hb, (hv g rfl).trans hh, r⟩
theorem Own.kp (h : Own w ok base t sz v n es) (k : Kp w w' S) (hS : ∀ b, ok b → ¬ S b) (hv : ∀ b, v.ownBlock = some b → ¬ S b) : Own w' ok base t sz v n es :=
  h.step (fun b hb hlt => ⟨hb, k.block b hlt (hS b hb)⟩) (fun b hb => k.block b (h.lt b hb).2 (hv b hb))
theorem Own.below (h : Own w ok base t sz v n es) (k : Below w.heap.size w w') : Own w' ok base t sz v n es := h.kp (Kp.of_below k fun _ => False) (fun _ _ h => h) (fun _ _ h => h)
theorem Own.mono (h : Own w ok base t sz v n es) (hok : ∀ b, ok b → b < w.heap.size → ok' b) : Own w ok' base t sz v n es := h.step (fun b hb hlt => ⟨hok b hb hlt, rfl⟩) (fun _ _ => rfl)
theorem Own.drew (h : Own w ok base t sz v n es) : Own w.drew ok base t sz v n es := h.step (fun _ hb _ => ⟨hb, rfl⟩) (fun _ _ => rfl)
theorem Own.drewN (h : Own w ok base t sz v n es) (m : Nat) : Own (w.drewN m) ok base t sz v n es := h.step (fun _ hb _ => ⟨hb, rfl⟩) (fun _ _ => rfl)
theorem Own.alloc (h : Own w ok base t sz v n es) (o : Obj) : Own (w.alloc o) ok base t sz v n es := h.below ((Below.refl _ _).alloc (Nat.le_refl _) o)
theorem Own.setCell (h : Own w ok base t sz v n es) {p : Addr} (hp : ¬ ok p.block) (hv : v.ownBlock ≠ some p.block) (u : Value) : Own (w.setCell p u) ok base t sz v n es :=
  h.step (fun b hb _ => ⟨hb, Below.heap_setCell w p u b (fun e => hp (e ▸ hb))⟩) (fun b hb => Below.heap_setCell w p u b (fun e => hv (e ▸ hb)))
/-- Behind an append onto a row of the call's own. -/
theorem own_pushed {us news : List Value} {es' : List Tr} {v' : Value} {m : Nat} (h : w.ownsRow base t sz v n us) (hr : RdL w ok us es) (hr' : RdL w ok news es')
    (h1 : w1.ownsRow base t sz v' (n + m) (us ++ news)) (hg : w.grownBy w1 v.ownBlock) (hne : ∀ b, v.ownBlock = some b → ¬ ok b) : Own w1 ok base t sz v' (n + m) (es ++ es') :=
  ⟨_, h1, (hr.append hr').step fun b hb hlt => ⟨hb, hg.block b hlt fun e => hne b e.symm hb⟩⟩
end
end

/-! A quiet region: contracts that say 'w = w''. -/
theorem quiet_left {P : Program} {f : FuncId} {args : Array Value} {w : World} {n : Nat} {v : Value}
    (h : Calls P f args (w.drewN n) fun e w' => e = .returned v ∧ w.drewN n = w') : Calls P f args (w.drewN n) fun e w'' => e = .returned v ∧ ∃ m, w'' = w.drewN m :=
  h.mono fun _ _ ⟨he, hm⟩ => ⟨he, n, hm.symm⟩
theorem quiet_add_left {P : Program} {f : FuncId} {args : Array Value} {w : World} {a n : Nat} {v : Value}
    (h : Calls P f args (w.drewN (a + n)) fun e w' => e = .returned v ∧ w.drewN (a + n) = w') :
    Calls P f args (w.drewN (a + n)) fun e w'' => e = .returned v ∧ ∃ m, w'' = w.drewN (a + m) :=
  h.mono fun _ _ ⟨he, hm⟩ => ⟨he, n, hm.symm⟩
theorem quiet_draws {P : Program} {f : FuncId} {args : Array Value} {w : World} {n : Nat} {v : Value}
    (h : Calls P f args (w.drewN n) fun e w' => e = .returned v ∧ ∃ m, w' = (w.drewN n).drewN m) : Calls P f args (w.drewN n) fun e w'' => e = .returned v ∧ ∃ m, w'' = w.drewN m :=
  h.mono fun _ _ ⟨he, m, hm⟩ => ⟨he, n + m, by rw [hm, World.drewN_drewN]⟩
theorem quiet_add_draws {P : Program} {f : FuncId} {args : Array Value} {w : World} {a n : Nat} {v : Value}
    (h : Calls P f args (w.drewN (a + n)) fun e w' => e = .returned v ∧ ∃ m, w' = (w.drewN (a + n)).drewN m) :
    Calls P f args (w.drewN (a + n)) fun e w'' => e = .returned v ∧ ∃ m, w'' = w.drewN (a + m) :=
  h.mono fun _ _ ⟨he, m, hm⟩ => ⟨he, n + m, by rw [hm, World.drewN_drewN, Nat.add_assoc]⟩

/-! Cells of a list of structs: all of one size. -/
theorem getElem?_flatMap_row {α β : Type} (f : α → List β) (k : Nat) (hk : ∀ a, (f a).length = k) (l : List α) (i j : Nat) (a : α) (ha : l[i]? = some a) (hj : j < k) : (l.flatMap f)[i * k + j]? = (f a)[j]? := by
  induction l generalizing i with
  | nil => simp at ha
  | cons x l ih =>
    rw [List.flatMap_cons]
    cases i with
    | zero =>
      simp at ha
      subst ha
      rw [List.getElem?_append_left (by rw [hk]; omega)]
      simp
    | succ i =>
      rw [List.getElem?_append_right (by rw [hk, Nat.succ_mul]; omega), hk]
      have : (i + 1) * k + j - k = i * k + j := by rw [Nat.succ_mul]; omega
      rw [this]
      exact ih i (by simpa using ha)
theorem length_flatMap_row {α β : Type} (f : α → List β) (k : Nat) (hk : ∀ a, (f a).length = k) (l : List α) : (l.flatMap f).length = l.length * k := by
  induction l with
  | nil => simp
  | cons x l ih => rw [List.flatMap_cons, List.length_append, hk, ih, List.length_cons, Nat.succ_mul]; omega

end Go.Proofs.Ytadpfhoenjodeaa
