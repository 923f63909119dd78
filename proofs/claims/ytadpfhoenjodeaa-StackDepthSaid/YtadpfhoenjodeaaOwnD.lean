/- A list that the call builds, of elements with depth: its cells and what they lead to are the call's own. No program is named here. -/
import Derived.Test.YtadpfhoenjodeaaApp
set_option linter.unusedVariables false
set_option linter.unusedSimpArgs false
namespace Go.Proofs.Ytadpfhoenjodeaa
open Go.RowKit

theorem blk_of (w : World) (o : Obj) {k : Nat} (h : k = w.heap.size) : (w.alloc o).heap[k]? = some o := by rw [h]; exact heap_alloc_new w o
def OwnD (w : World) (base t sz : Nat) (v : Value) (n : Nat) (es : List Tr) : Prop := ∃ ok, Own w ok base t sz v n es ∧ ∀ b, ok b → base ≤ b ∧ b < w.heap.size ∧ v.ownBlock ≠ some b
section
variable {w w' : World} {base t sz n : Nat} {v : Value} {es : List Tr}
theorem OwnD.nil (w : World) (base t sz : Nat) : OwnD w base t sz (.slice none 0 0) 0 [] := ⟨fun _ => False, Own.nil _ _ _ _ _, fun _ h => h.elim⟩
theorem OwnD.lt (h : OwnD w base t sz v n es) : ∀ k, v.ownBlock = some k → base ≤ k ∧ k < w.heap.size := by obtain ⟨ok, h, _⟩ := h; exact h.lt
theorem OwnD.len (h : OwnD w base t sz v n es) : es.length = n * sz := by obtain ⟨ok, h, _⟩ := h; exact h.len
theorem OwnD.slice (h : OwnD w base t sz v n es) : ∃ A c, v = .slice A n c ∧ n ≤ c ∧ c ≤ maxLen := by obtain ⟨ok, h, _⟩ := h; exact h.slice
theorem OwnD.kp {S : Nat → Prop} (h : OwnD w base t sz v n es) (k : Kp w w' S) (hS : ∀ b, base ≤ b → b < w.heap.size → ¬ S b) : OwnD w' base t sz v n es := by
  obtain ⟨ok, h, ho⟩ := h
  exact ⟨ok, h.kp k (fun b hb => hS b (ho b hb).1 (ho b hb).2.1) (fun b hb => hS b (h.lt b hb).1 (h.lt b hb).2), fun b hb => ⟨(ho b hb).1, Nat.lt_of_lt_of_le (ho b hb).2.1 k.size, (ho b hb).2.2⟩⟩
theorem OwnD.bl (h : OwnD w base t sz v n es) (k : Below w.heap.size w w') : OwnD w' base t sz v n es := h.kp (Kp.of_below k fun _ => False) (fun _ _ _ h => h)
theorem OwnD.alloc (h : OwnD w base t sz v n es) (o : Obj) : OwnD (w.alloc o) base t sz v n es := h.bl (bel_alloc (Below.refl _ _) o)
theorem OwnD.drew (h : OwnD w base t sz v n es) : OwnD w.drew base t sz v n es := h.bl (bel_drew (Below.refl _ _))
theorem OwnD.plain {A : Option Addr} {c : Nat} (h : OwnD w base t sz (.slice A n c) n es) : PlainA A := by obtain ⟨ok, h, _⟩ := h; exact plain_own h
theorem OwnD.rd (h : OwnD w base t sz v n es) : Rd w (fun b => base ≤ b) v (.sl t sz es) := by
  obtain ⟨ok, h, ho⟩ := h
  exact h.rd (fun b hb _ => (ho b hb).1) (fun b hb => (h.lt b hb).1)
end
theorem cell_rd {w : World} {ok : Nat → Prop} {g t sz : Nat} {us : List Value} {es : List Tr} (hl : us.length = sz) (hg : ok g) (hb : w.heap[g]? = some (.cells us.toArray t (0, 0))) (hr : RdL w ok us es) : Rd w ok (.slice (some ⟨g, 0, none⟩) 1 1) (.sl t sz es) :=
  .row g 0 1 1 _ sz _ _ us _ hg hb (Nat.le_refl _) (by simp [maxLen]) (by rw [← hr.1]; omega) (by omega) (fun j hj => by simp) hr.2
section
variable {P : Program} (w : World)
theorem wpList_append_d {ops : Array Oper} {rest : List Oper} {o : Oper} {a : Act} {Q : Exit → Act → World → Prop} (hgd : o.guard = none) (s x : Operand) (t : TypeId)
    (ho : o.op = .call { callee := .builtin .append, args := #[s, x], argTypes := #[t, t] })
    (base : Nat) (e : TypeId) (i : TypeInfo) (z : Value) (size bytes : Nat) (ht : P.underlying t = some (.slice e)) (hi : P.info? e = some i) (hz : i.zero = some z)
    (hsize : i.size = size) (hby : i.bytes = bytes) (hzs : z.cells.size = size) (hsz : 0 < size)
    (v : Value) (n : Nat) (es : List Tr) (hs : a.eval s = v) (hown : OwnD w base e size v n es)
    (B : Nat) (us : List Value) (es' : List Tr) (hx : a.eval x = .slice (some ⟨B, 0, none⟩) 1 1) (hB : w.heap[B]? = some (.cells us.toArray e (0, 0))) (hBb : base ≤ B) (hBv : v.ownBlock ≠ some B) (hul : us.length = size)
    (ok2 : Nat → Prop) (hr : RdL w ok2 us es') (hok2 : ∀ b, ok2 b → b < w.heap.size → base ≤ b ∧ v.ownBlock ≠ some b) (h1 : ∀ x ∈ es', x.one)
    (h63 : n + 1 ≤ maxLen) (hbytes : (n + 1) * bytes ≤ 140737488355328) (hbase : base ≤ w.heap.size)
    (h : ∀ A' cap w', OwnD w' base e size (.slice A' (n + 1) cap) (n + 1) (es ++ es') → w.grownBy w' v.ownBlock → (∀ g, Value.ownBlock (.slice A' (n + 1) cap) = some g → v.ownBlock = some g ∨ g = w.heap.size) → wpList P ops Q rest (a.put o.dst (.slice A' (n + 1) cap)) w') :
    wpList P ops Q (o :: rest) a w := by
  obtain ⟨ok, hown, hok⟩ := hown
  obtain ⟨ok', hok'⟩ : ∃ ok' : Nat → Prop, ok' = fun b => ok b ∨ (ok2 b ∧ b < w.heap.size) ∨ b = B := ⟨_, rfl⟩
  have hlt := lt_of_block hB
  have hall : ∀ b, ok' b → base ≤ b ∧ b < w.heap.size ∧ v.ownBlock ≠ some b := by
    intro b hb
    rw [hok'] at hb
    rcases hb with hb | ⟨hb, hb2⟩ | rfl
    · exact hok b hb
    · exact ⟨(hok2 b hb hb2).1, hb2, (hok2 b hb hb2).2⟩
    · exact ⟨hBb, hlt, hBv⟩
  refine wpList_append_rd w hgd s x t ho base e i z size bytes ht hi hz hsize hby hzs hsz ok' v n es hs (hown.mono fun b hb _ => by rw [hok']; exact .inl hb) _ 1 1 es' hx
    (cell_rd hul (by rw [hok']; exact .inr (.inr rfl)) hB (hr.step fun b hb hb2 => ⟨by rw [hok']; exact .inr (.inl ⟨hb, hb2⟩), rfl⟩)) h1 (fun b hb hb2 => (hall b hb2).2.2 hb) h63 hbytes hbase _ rfl ?_
  intro A' cap w' h2 h3 h4
  refine h A' cap w' ⟨ok', h2, fun b hb => ?_⟩ h3 h4
  obtain ⟨a1, a2, a3⟩ := hall b hb
  refine ⟨a1, Nat.lt_of_lt_of_le a2 h3.size, fun e => ?_⟩
  rcases h4 b e with h5 | h5
  · exact a3 h5
  · omega
theorem step_append_d {ops : Array Oper} {o : Oper} {a : Act} {K : Act → World → Prop} {Q : Exit → Act → World → Prop} {E : Prop} (hgd : o.guard = none) (s x : Operand) (t : TypeId)
    (ho : o.op = .call { callee := .builtin .append, args := #[s, x], argTypes := #[t, t] })
    (base : Nat) (e : TypeId) (i : TypeInfo) (z : Value) (size bytes : Nat) (ht : P.underlying t = some (.slice e)) (hi : P.info? e = some i) (hz : i.zero = some z)
    (hsize : i.size = size) (hby : i.bytes = bytes) (hzs : z.cells.size = size) (hsz : 0 < size)
    (v : Value) (n : Nat) (es : List Tr) (hs : a.eval s = v) (hown : OwnD w base e size v n es)
    (B : Nat) (us : List Value) (es' : List Tr) (hx : a.eval x = .slice (some ⟨B, 0, none⟩) 1 1) (hB : w.heap[B]? = some (.cells us.toArray e (0, 0))) (hBb : base ≤ B) (hBv : v.ownBlock ≠ some B) (hul : us.length = size)
    (ok2 : Nat → Prop) (hr : RdL w ok2 us es') (hok2 : ∀ b, ok2 b → b < w.heap.size → base ≤ b ∧ v.ownBlock ≠ some b) (h1 : ∀ x ∈ es', x.one)
    (h63 : n + 1 ≤ maxLen) (hbytes : (n + 1) * bytes ≤ 140737488355328) (hbase : base ≤ w.heap.size)
    (h : ∀ A' cap w', OwnD w' base e size (.slice A' (n + 1) cap) (n + 1) (es ++ es') → w.grownBy w' v.ownBlock → (∀ g, Value.ownBlock (.slice A' (n + 1) cap) = some g → v.ownBlock = some g ∨ g = w.heap.size) → K (a.put o.dst (.slice A' (n + 1) cap)) w') :
    if Region.wanted o (yielded ops a.tmps) = true then Oper.wp P o a w K Q else E := by
  obtain ⟨ok, hown, hok⟩ := hown
  obtain ⟨ok', hok'⟩ : ∃ ok' : Nat → Prop, ok' = fun b => ok b ∨ (ok2 b ∧ b < w.heap.size) ∨ b = B := ⟨_, rfl⟩
  have hlt := lt_of_block hB
  have hall : ∀ b, ok' b → base ≤ b ∧ b < w.heap.size ∧ v.ownBlock ≠ some b := by
    intro b hb
    rw [hok'] at hb
    rcases hb with hb | ⟨hb, hb2⟩ | rfl
    · exact hok b hb
    · exact ⟨(hok2 b hb hb2).1, hb2, (hok2 b hb hb2).2⟩
    · exact ⟨hBb, hlt, hBv⟩
  refine step_append_rd w hgd s x t ho base e i z size bytes ht hi hz hsize hby hzs hsz ok' v n es hs (hown.mono fun b hb _ => by rw [hok']; exact .inl hb) _ 1 1 es' hx
    (cell_rd hul (by rw [hok']; exact .inr (.inr rfl)) hB (hr.step fun b hb hb2 => ⟨by rw [hok']; exact .inr (.inl ⟨hb, hb2⟩), rfl⟩)) h1 (fun b hb hb2 => (hall b hb2).2.2 hb) h63 hbytes hbase _ rfl ?_
  intro A' cap w' h2 h3 h4
  refine h A' cap w' ⟨ok', h2, fun b hb => ?_⟩ h3 h4
  obtain ⟨a1, a2, a3⟩ := hall b hb
  refine ⟨a1, Nat.lt_of_lt_of_le a2 h3.size, fun e => ?_⟩
  rcases h4 b e with h5 | h5
  · exact a3 h5
  · omega
end
end Go.Proofs.Ytadpfhoenjodeaa
