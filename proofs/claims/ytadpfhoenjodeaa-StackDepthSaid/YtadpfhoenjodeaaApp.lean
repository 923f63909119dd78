/- append onto a row of the call's own, of whatever slice that reads (nil and the empty one too); reslices that read. No program is named here. -/
import Derived.Test.YtadpfhoenjodeaaCore
import Derived.Deep.Upon
import Derived.Deep.AppendLies
import Derived.Deep.RegionLaw
set_option linter.unusedVariables false
set_option linter.unusedSimpArgs false
namespace Go.Proofs.Ytadpfhoenjodeaa
open Go.RowKit

def Tr.one : Tr → Prop
  | .sc v => v.oneCell' = true
  | .sl .. => True
theorem Rd.one {w : World} {ok : Nat → Prop} {v : Value} {e : Tr} (h : Rd w ok v e) (he : e.one) : v.oneCell' = true := by
  cases h <;> first | exact he | rfl
theorem Rd.cells {w : World} {ok : Nat → Prop} {A : Option Addr} {m c t sz : Nat} {es : List Tr} (h : Rd w ok (.slice A m c) (.sl t sz es)) :
    (A = none ∧ m = 0 ∧ c = 0 ∧ es = []) ∨ ∃ a us, A = some a ∧ us.length = m * sz ∧ (∀ j u, us[j]? = some u → w.cell? (a.add j) = some u) ∧ RdL w ok us es := by
  cases h with
  | nil => exact .inl ⟨rfl, rfl, rfl, rfl⟩
  | emp a => exact .inr ⟨a, [], rfl, by simp, by simp, rfl, by simp⟩
  | row b o _ _ _ _ cs fr us _ hb hh hnc hc hl hu hcs hr =>
    refine .inr ⟨⟨b, o, none⟩, us, rfl, hu, fun j u hj => ?_, by rw [hu, hl], hr⟩
    rw [Addr.add_lit, cell_of_row w b (o + j) cs _ fr hh, hcs j (by have := (List.getElem?_eq_some_iff.1 hj).1; omega), hj]
theorem RdL.ones {w : World} {ok : Nat → Prop} {us : List Value} {es : List Tr} (h : RdL w ok us es) (h1 : ∀ x ∈ es, x.one) : ∀ u ∈ us, u.oneCell' = true := by
  intro u hu
  obtain ⟨j, hj, rfl⟩ := List.getElem_of_mem hu
  have hj' : j < es.length := by rw [← h.1]; exact hj
  exact (h.2 j _ _ (List.getElem?_eq_getElem hj) (List.getElem?_eq_getElem hj')).one (h1 _ (List.getElem_mem hj'))

section
variable {P : Program} (w : World)
theorem run_append_rd (t ty : TypeId) (base : Nat) (e : TypeId) (i : TypeInfo) (z : Value) (size bytes : Nat) (ht : P.underlying t = some (.slice e)) (hi : P.info? e = some i) (hz : i.zero = some z)
    (hsize : i.size = size) (hby : i.bytes = bytes) (hzs : z.cells.size = size) (hsz : 0 < size) (ok : Nat → Prop)
    (v : Value) (n : Nat) (es : List Tr) (hown : Own w ok base e size v n es)
    (A : Option Addr) (m c : Nat) (es' : List Tr) (hsrc : Rd w ok (.slice A m c) (.sl e size es')) (h1 : ∀ x ∈ es', x.one) (hne : ∀ b, v.ownBlock = some b → ¬ ok b)
    (h63 : n + m ≤ maxLen) (hbytes : (n + m) * bytes ≤ 140737488355328) (hbase : base ≤ w.heap.size) (H : Nat) (hH : w.heap.size = H) :
    ∃ A' cap w', (Builtin.append_ #[t, t] ty #[v, .slice A m c]).run P w = .ok (.slice A' (n + m) cap) w' ∧
      Own w' ok base e size (.slice A' (n + m) cap) (n + m) (es ++ es') ∧ w.grownBy w' v.ownBlock ∧ (∀ g, Value.ownBlock (.slice A' (n + m) cap) = some g → v.ownBlock = some g ∨ g = H) := by
  rcases hsrc.cells with ⟨rfl, rfl, rfl, rfl⟩ | ⟨a, us, rfl, hu, hc, hr⟩
  · obtain ⟨A, c, rfl, hnc, hcm⟩ := hown.slice
    have h := run_append_nothing (P := P) w t t ty e i ht hi A n c hnc (.slice none 0 0) (Src.ofNil w ht 0)
    exact ⟨A, c, w, h, by simpa using hown, ⟨rfl, rfl, rfl, Nat.le_refl _, fun _ _ _ => rfl⟩, fun g hg => .inl hg⟩
  · obtain ⟨vs, o1, o2⟩ := hown
    obtain ⟨v', w', hrun, h2, h3, _, h5⟩ := run_append_own_at (P := P) w base t ty e i z size bytes ht hi hz hsize hby hzs hsz v n vs o1 a m c us hu hc (hr.ones h1) h63 hbytes hbase
    have hown' := own_pushed o1 o2 hr h2 h3 hne
    obtain ⟨A', cap, rfl, _, _⟩ := hown'.slice
    refine ⟨A', cap, w', hrun, hown', h3, fun g hg => ?_⟩
    rcases h5 with h5 | h5
    · exact .inl (by rw [← h5, hg])
    · right
      rw [hg] at h5
      injection h5 with h5
      rw [h5, hH]
theorem wp_append_rd {o : Oper} {a : Act} {K : Act → World → Prop} {Q : Exit → Act → World → Prop} (s x : Operand) (t : TypeId)
    (ho : o.op = .call { callee := .builtin .append, args := #[s, x], argTypes := #[t, t] })
    (base : Nat) (e : TypeId) (i : TypeInfo) (z : Value) (size bytes : Nat) (ht : P.underlying t = some (.slice e)) (hi : P.info? e = some i) (hz : i.zero = some z)
    (hsize : i.size = size) (hby : i.bytes = bytes) (hzs : z.cells.size = size) (hsz : 0 < size) (ok : Nat → Prop)
    (v : Value) (n : Nat) (es : List Tr) (hs : a.eval s = v) (hown : Own w ok base e size v n es)
    (A : Option Addr) (m c : Nat) (es' : List Tr) (hx : a.eval x = .slice A m c) (hsrc : Rd w ok (.slice A m c) (.sl e size es')) (h1 : ∀ x ∈ es', x.one) (hne : ∀ b, v.ownBlock = some b → ¬ ok b)
    (h63 : n + m ≤ maxLen) (hbytes : (n + m) * bytes ≤ 140737488355328) (hbase : base ≤ w.heap.size) (H : Nat) (hH : w.heap.size = H)
    (h : ∀ A' cap w', Own w' ok base e size (.slice A' (n + m) cap) (n + m) (es ++ es') → w.grownBy w' v.ownBlock → (∀ g, Value.ownBlock (.slice A' (n + m) cap) = some g → v.ownBlock = some g ∨ g = H) → K (a.put o.dst (.slice A' (n + m) cap)) w') : o.wp P a w K Q := by
  obtain ⟨A', cap, w', hr, h2, h3, h4⟩ := run_append_rd (P := P) w t o.type base e i z size bytes ht hi hz hsize hby hzs hsz ok v n es hown A m c es' hsrc h1 hne h63 hbytes hbase H hH
  unfold Oper.wp execOp
  simp only [ho, resolve, invoke, builtin, Sem.run_bind, Sem.run_pure, Result.andThen_ok, List.map_toArray, List.map_cons, List.map_nil, hs, hx, hr]
  exact h A' cap w' h2 h3 h4
/-- At the list of a plain region's operations. -/
theorem wpList_append_rd {ops : Array Oper} {rest : List Oper} {o : Oper} {a : Act} {Q : Exit → Act → World → Prop} (hgd : o.guard = none) (s x : Operand) (t : TypeId)
    (ho : o.op = .call { callee := .builtin .append, args := #[s, x], argTypes := #[t, t] })
    (base : Nat) (e : TypeId) (i : TypeInfo) (z : Value) (size bytes : Nat) (ht : P.underlying t = some (.slice e)) (hi : P.info? e = some i) (hz : i.zero = some z)
    (hsize : i.size = size) (hby : i.bytes = bytes) (hzs : z.cells.size = size) (hsz : 0 < size) (ok : Nat → Prop)
    (v : Value) (n : Nat) (es : List Tr) (hs : a.eval s = v) (hown : Own w ok base e size v n es)
    (A : Option Addr) (m c : Nat) (es' : List Tr) (hx : a.eval x = .slice A m c) (hsrc : Rd w ok (.slice A m c) (.sl e size es')) (h1 : ∀ x ∈ es', x.one) (hne : ∀ b, v.ownBlock = some b → ¬ ok b)
    (h63 : n + m ≤ maxLen) (hbytes : (n + m) * bytes ≤ 140737488355328) (hbase : base ≤ w.heap.size) (H : Nat) (hH : w.heap.size = H)
    (h : ∀ A' cap w', Own w' ok base e size (.slice A' (n + m) cap) (n + m) (es ++ es') → w.grownBy w' v.ownBlock → (∀ g, Value.ownBlock (.slice A' (n + m) cap) = some g → v.ownBlock = some g ∨ g = H) → wpList P ops Q rest (a.put o.dst (.slice A' (n + m) cap)) w') :
    wpList P ops Q (o :: rest) a w :=
  wpList_plain hgd fun _ hK => wp_append_rd w s x t ho base e i z size bytes ht hi hz hsize hby hzs hsz ok v n es hs hown A m c es' hx hsrc h1 hne h63 hbytes hbase H hH fun A' cap w' h2 h3 h4 => hK _ _ (h A' cap w' h2 h3 h4)
/-- At a step of a region that draws its order: for go_region_law. -/
theorem step_append_rd {ops : Array Oper} {o : Oper} {a : Act} {K : Act → World → Prop} {Q : Exit → Act → World → Prop} {E : Prop} (hgd : o.guard = none) (s x : Operand) (t : TypeId)
    (ho : o.op = .call { callee := .builtin .append, args := #[s, x], argTypes := #[t, t] })
    (base : Nat) (e : TypeId) (i : TypeInfo) (z : Value) (size bytes : Nat) (ht : P.underlying t = some (.slice e)) (hi : P.info? e = some i) (hz : i.zero = some z)
    (hsize : i.size = size) (hby : i.bytes = bytes) (hzs : z.cells.size = size) (hsz : 0 < size) (ok : Nat → Prop)
    (v : Value) (n : Nat) (es : List Tr) (hs : a.eval s = v) (hown : Own w ok base e size v n es)
    (A : Option Addr) (m c : Nat) (es' : List Tr) (hx : a.eval x = .slice A m c) (hsrc : Rd w ok (.slice A m c) (.sl e size es')) (h1 : ∀ x ∈ es', x.one) (hne : ∀ b, v.ownBlock = some b → ¬ ok b)
    (h63 : n + m ≤ maxLen) (hbytes : (n + m) * bytes ≤ 140737488355328) (hbase : base ≤ w.heap.size) (H : Nat) (hH : w.heap.size = H)
    (h : ∀ A' cap w', Own w' ok base e size (.slice A' (n + m) cap) (n + m) (es ++ es') → w.grownBy w' v.ownBlock → (∀ g, Value.ownBlock (.slice A' (n + m) cap) = some g → v.ownBlock = some g ∨ g = H) → K (a.put o.dst (.slice A' (n + m) cap)) w') :
    if Region.wanted o (yielded ops a.tmps) = true then Oper.wp P o a w K Q else E := by
  have hw : Region.wanted o (yielded ops a.tmps) = true := by simp [Region.wanted, hgd]
  rw [if_pos hw]
  exact wp_append_rd w s x t ho base e i z size bytes ht hi hz hsize hby hzs hsz ok v n es hs hown A m c es' hx hsrc h1 hne h63 hbytes hbase H hH h
end

/-- A scalar. -/
def Tr.flat (e : Tr) : Prop := ∃ v, e = .sc v ∧ v.oneCell' = true
theorem Tr.flat.one {e : Tr} (h : e.flat) : e.one := by obtain ⟨v, rfl, h⟩ := h; exact h
theorem RdL.flat {w : World} {ok ok' : Nat → Prop} {us : List Value} {es : List Tr} (h : RdL w ok us es) (h1 : ∀ x ∈ es, x.flat) : RdL w ok' us es := by
  refine ⟨h.1, fun j u e hu he => ?_⟩
  obtain ⟨v, rfl, _⟩ := h1 e (List.mem_of_getElem? he)
  have := (h.2 j u _ hu he).sc_inv
  subst this
  exact .sc _
section
variable {P : Program} (w : World)
theorem run_append_flat (t ty : TypeId) (base : Nat) (e : TypeId) (i : TypeInfo) (z : Value) (size bytes : Nat) (ht : P.underlying t = some (.slice e)) (hi : P.info? e = some i) (hz : i.zero = some z)
    (hsize : i.size = size) (hby : i.bytes = bytes) (hzs : z.cells.size = size) (hsz : 0 < size) (ok : Nat → Prop)
    (v : Value) (n : Nat) (es : List Tr) (hown : Own w (fun _ => False) base e size v n es)
    (A : Option Addr) (m c : Nat) (es' : List Tr) (hsrc : Rd w ok (.slice A m c) (.sl e size es')) (h1 : ∀ x ∈ es', x.flat)
    (h63 : n + m ≤ maxLen) (hbytes : (n + m) * bytes ≤ 140737488355328) (hbase : base ≤ w.heap.size) (H : Nat) (hH : w.heap.size = H) :
    ∃ A' cap w', (Builtin.append_ #[t, t] ty #[v, .slice A m c]).run P w = .ok (.slice A' (n + m) cap) w' ∧
      Own w' (fun _ => False) base e size (.slice A' (n + m) cap) (n + m) (es ++ es') ∧ w.grownBy w' v.ownBlock ∧ (∀ g, Value.ownBlock (.slice A' (n + m) cap) = some g → v.ownBlock = some g ∨ g = H) := by
  rcases hsrc.cells with ⟨rfl, rfl, rfl, rfl⟩ | ⟨a, us, rfl, hu, hc, hr⟩
  · obtain ⟨A, c, rfl, hnc, hcm⟩ := hown.slice
    have h := run_append_nothing (P := P) w t t ty e i ht hi A n c hnc (.slice none 0 0) (Src.ofNil w ht 0)
    exact ⟨A, c, w, h, by simpa using hown, ⟨rfl, rfl, rfl, Nat.le_refl _, fun _ _ _ => rfl⟩, fun g hg => .inl hg⟩
  · obtain ⟨vs, o1, o2⟩ := hown
    obtain ⟨v', w', hrun, h2, h3, _, h5⟩ := run_append_own_at (P := P) w base t ty e i z size bytes ht hi hz hsize hby hzs hsz v n vs o1 a m c us hu hc (hr.ones fun x hx => (h1 x hx).one) h63 hbytes hbase
    have hown' := own_pushed o1 o2 (hr.flat h1) h2 h3 (fun _ _ h => h)
    obtain ⟨A', cap, rfl, _, _⟩ := hown'.slice
    refine ⟨A', cap, w', hrun, hown', h3, fun g hg => ?_⟩
    rcases h5 with h5 | h5
    · exact .inl (by rw [← h5, hg])
    · right
      rw [hg] at h5
      injection h5 with h5
      rw [h5, hH]
theorem wp_append_flat {o : Oper} {a : Act} {K : Act → World → Prop} {Q : Exit → Act → World → Prop} (s x : Operand) (t : TypeId)
    (ho : o.op = .call { callee := .builtin .append, args := #[s, x], argTypes := #[t, t] })
    (base : Nat) (e : TypeId) (i : TypeInfo) (z : Value) (size bytes : Nat) (ht : P.underlying t = some (.slice e)) (hi : P.info? e = some i) (hz : i.zero = some z)
    (hsize : i.size = size) (hby : i.bytes = bytes) (hzs : z.cells.size = size) (hsz : 0 < size) (ok : Nat → Prop)
    (v : Value) (n : Nat) (es : List Tr) (hs : a.eval s = v) (hown : Own w (fun _ => False) base e size v n es)
    (A : Option Addr) (m c : Nat) (es' : List Tr) (hx : a.eval x = .slice A m c) (hsrc : Rd w ok (.slice A m c) (.sl e size es')) (h1 : ∀ x ∈ es', x.flat)
    (h63 : n + m ≤ maxLen) (hbytes : (n + m) * bytes ≤ 140737488355328) (hbase : base ≤ w.heap.size) (H : Nat) (hH : w.heap.size = H)
    (h : ∀ A' cap w', Own w' (fun _ => False) base e size (.slice A' (n + m) cap) (n + m) (es ++ es') → w.grownBy w' v.ownBlock → (∀ g, Value.ownBlock (.slice A' (n + m) cap) = some g → v.ownBlock = some g ∨ g = H) → K (a.put o.dst (.slice A' (n + m) cap)) w') : o.wp P a w K Q := by
  obtain ⟨A', cap, w', hr, h2, h3, h4⟩ := run_append_flat (P := P) w t o.type base e i z size bytes ht hi hz hsize hby hzs hsz ok v n es hown A m c es' hsrc h1 h63 hbytes hbase H hH
  unfold Oper.wp execOp
  simp only [ho, resolve, invoke, builtin, Sem.run_bind, Sem.run_pure, Result.andThen_ok, List.map_toArray, List.map_cons, List.map_nil, hs, hx, hr]
  exact h A' cap w' h2 h3 h4
/-- At the list of a plain region's operations. -/
theorem wpList_append_flat {ops : Array Oper} {rest : List Oper} {o : Oper} {a : Act} {Q : Exit → Act → World → Prop} (hgd : o.guard = none) (s x : Operand) (t : TypeId)
    (ho : o.op = .call { callee := .builtin .append, args := #[s, x], argTypes := #[t, t] })
    (base : Nat) (e : TypeId) (i : TypeInfo) (z : Value) (size bytes : Nat) (ht : P.underlying t = some (.slice e)) (hi : P.info? e = some i) (hz : i.zero = some z)
    (hsize : i.size = size) (hby : i.bytes = bytes) (hzs : z.cells.size = size) (hsz : 0 < size) (ok : Nat → Prop)
    (v : Value) (n : Nat) (es : List Tr) (hs : a.eval s = v) (hown : Own w (fun _ => False) base e size v n es)
    (A : Option Addr) (m c : Nat) (es' : List Tr) (hx : a.eval x = .slice A m c) (hsrc : Rd w ok (.slice A m c) (.sl e size es')) (h1 : ∀ x ∈ es', x.flat)
    (h63 : n + m ≤ maxLen) (hbytes : (n + m) * bytes ≤ 140737488355328) (hbase : base ≤ w.heap.size) (H : Nat) (hH : w.heap.size = H)
    (h : ∀ A' cap w', Own w' (fun _ => False) base e size (.slice A' (n + m) cap) (n + m) (es ++ es') → w.grownBy w' v.ownBlock → (∀ g, Value.ownBlock (.slice A' (n + m) cap) = some g → v.ownBlock = some g ∨ g = H) → wpList P ops Q rest (a.put o.dst (.slice A' (n + m) cap)) w') :
    wpList P ops Q (o :: rest) a w :=
  wpList_plain hgd fun _ hK => wp_append_flat w s x t ho base e i z size bytes ht hi hz hsize hby hzs hsz ok v n es hs hown A m c es' hx hsrc h1 h63 hbytes hbase H hH fun A' cap w' h2 h3 h4 => hK _ _ (h A' cap w' h2 h3 h4)
/-- At a step of a region that draws its order: for go_region_law. -/
theorem step_append_flat {ops : Array Oper} {o : Oper} {a : Act} {K : Act → World → Prop} {Q : Exit → Act → World → Prop} {E : Prop} (hgd : o.guard = none) (s x : Operand) (t : TypeId)
    (ho : o.op = .call { callee := .builtin .append, args := #[s, x], argTypes := #[t, t] })
    (base : Nat) (e : TypeId) (i : TypeInfo) (z : Value) (size bytes : Nat) (ht : P.underlying t = some (.slice e)) (hi : P.info? e = some i) (hz : i.zero = some z)
    (hsize : i.size = size) (hby : i.bytes = bytes) (hzs : z.cells.size = size) (hsz : 0 < size) (ok : Nat → Prop)
    (v : Value) (n : Nat) (es : List Tr) (hs : a.eval s = v) (hown : Own w (fun _ => False) base e size v n es)
    (A : Option Addr) (m c : Nat) (es' : List Tr) (hx : a.eval x = .slice A m c) (hsrc : Rd w ok (.slice A m c) (.sl e size es')) (h1 : ∀ x ∈ es', x.flat)
    (h63 : n + m ≤ maxLen) (hbytes : (n + m) * bytes ≤ 140737488355328) (hbase : base ≤ w.heap.size) (H : Nat) (hH : w.heap.size = H)
    (h : ∀ A' cap w', Own w' (fun _ => False) base e size (.slice A' (n + m) cap) (n + m) (es ++ es') → w.grownBy w' v.ownBlock → (∀ g, Value.ownBlock (.slice A' (n + m) cap) = some g → v.ownBlock = some g ∨ g = H) → K (a.put o.dst (.slice A' (n + m) cap)) w') :
    if Region.wanted o (yielded ops a.tmps) = true then Oper.wp P o a w K Q else E := by
  have hw : Region.wanted o (yielded ops a.tmps) = true := by simp [Region.wanted, hgd]
  rw [if_pos hw]
  exact wp_append_flat w s x t ho base e i z size bytes ht hi hz hsize hby hzs hsz ok v n es hs hown A m c es' hx hsrc h1 h63 hbytes hbase H hH h
end

/-- The first elements of a slice. -/
theorem Rd.first {w : World} {ok : Nat → Prop} {A : Option Addr} {n c t sz i : Nat} {es : List Tr} (h : Rd w ok (.slice A n c) (.sl t sz es)) (hi : i ≤ n) : Rd w ok (.slice A i c) (.sl t sz (es.take (i * sz))) := by
  cases h with
  | nil =>
    obtain rfl : i = 0 := by omega
    simpa using Rd.nil t sz
  | emp a _ _ _ hc =>
    obtain rfl : i = 0 := by omega
    simpa using Rd.emp a c t sz hc
  | row b o _ _ _ _ cs fr us _ hb hh hnc hc hl hu hcs hr =>
    have hm : i * sz ≤ n * sz := Nat.mul_le_mul_right _ hi
    refine .row b o i c t sz cs fr (us.take (i * sz)) _ hb hh (by omega) hc (by rw [List.length_take]; omega) (by rw [List.length_take]; omega) (fun j hj => ?_) (fun j u e hu' he => ?_)
    · rw [hcs j (by omega), List.getElem?_take_of_lt hj]
    · have hj : j < i * sz := by have := (List.getElem?_eq_some_iff.1 hu').1; simp at this; omega
      rw [List.getElem?_take_of_lt hj] at hu' he
      exact hr j u e hu' he
/-- The last elements of a slice. -/
theorem Rd.last {w : World} {ok : Nat → Prop} {b o n c t sz i : Nat} {es : List Tr} (h : Rd w ok (.slice (some ⟨b, o, none⟩) n c) (.sl t sz es)) (hi : i ≤ n) (o' : Nat) (ho : i < c → o' = o + i * sz) : Rd w ok (.slice (some ⟨b, o', none⟩) (n - i) (c - i)) (.sl t sz (es.drop (i * sz))) := by
  cases h with
  | emp a _ _ _ hc => simpa using Rd.emp (w := w) (ok := ok) ⟨b, o', none⟩ (c - i) t sz (by omega)
  | row b o _ _ _ _ cs fr us _ hb hh hnc hc hl hu hcs hr =>
    have hm : i * sz ≤ n * sz := Nat.mul_le_mul_right _ hi
    refine .row b o' (n - i) (c - i) t sz cs fr (us.drop (i * sz)) _ hb hh (by omega) (by omega) (by simp [hl, Nat.sub_mul]) (by simp [hu, Nat.sub_mul]) (fun j hj => ?_) (fun j u e hu' he => ?_)
    · rw [Nat.sub_mul] at hj
      have hlt : i < c := by
        rcases Nat.lt_or_ge i c with h | h
        · exact h
        · have : i = n := by omega
          subst this; simp at hj
      rw [ho hlt, Nat.add_assoc, hcs _ (by omega), List.getElem?_drop]
    · rw [List.getElem?_drop] at hu' he
      exact hr _ u e hu' he
theorem blk_new (w : World) (a : Obj) : (w.alloc a).heap[w.heap.size]? = some a := heap_alloc_new w a
theorem blk_new1 (w : World) (a b : Obj) : ((w.alloc a).alloc b).heap[w.heap.size]? = some a := (heap_alloc_old (w.alloc a) b (by simp)).trans (heap_alloc_new w a)
theorem blk_new2 (w : World) (a b : Obj) : ((w.alloc a).alloc b).heap[w.heap.size + 1]? = some b := by
  have h := heap_alloc_new (w.alloc a) b
  simpa using h
theorem bel_alloc {w w1 : World} (h : Below w.heap.size w w1) (o : Obj) : Below w.heap.size w (w1.alloc o) := h.alloc h.size o
theorem bel_drew {w w1 : World} {B : Nat} (h : Below B w w1) : Below B w w1.drew := ⟨h.os, h.tape, h.output, h.size, h.block⟩
theorem bel_grown {w w1 w2 : World} {row : Option Nat} (h : Below w.heap.size w w1) (hg : w1.grownBy w2 row) (hr : ∀ j, row = some j → w.heap.size ≤ j) : Below w.heap.size w w2 := h.grown hg h.size hr
theorem one_rd {w : World} {ok : Nat → Prop} {g t : Nat} {v : Value} (hg : ok g) (hb : w.heap[g]? = some (.cells #[v] t (0, 0))) : Rd w ok (.slice (some ⟨g, 0, none⟩) 1 1) (.sl t 1 [.sc v]) := by
  refine .row g 0 1 1 _ 1 _ _ [v] _ hg hb (Nat.le_refl _) (by simp [maxLen]) rfl rfl (fun j hj => ?_) (fun j u e hu he => ?_)
  · obtain rfl : j = 0 := by omega
    rfl
  · cases j with
    | zero => simp at hu he; subst hu he; exact .sc _
    | succ j => simp at hu
theorem if_addr (b o i c k : Nat) : ∃ o', (if c = i then some (⟨b, o, none⟩ : Addr) else some ⟨b, o + i * k, none⟩) = some ⟨b, o', none⟩ ∧ (i < c → o' = o + i * k) := by
  by_cases h : c = i
  · exact ⟨o, by rw [if_pos h], fun h' => by omega⟩
  · exact ⟨o + i * k, by rw [if_neg h], fun h' => rfl⟩
/-- An address as make and append give it. -/
def PlainA (A : Option Addr) : Prop := ∀ a, A = some a → a.spot = none
theorem plain_none : PlainA none := fun _ h => by cases h
theorem plain_some (b o : Nat) : PlainA (some ⟨b, o, none⟩) := fun a h => by cases h; rfl
theorem plain_own {w : World} {ok : Nat → Prop} {base t sz n c m : Nat} {A : Option Addr} {es : List Tr} (h : Own w ok base t sz (.slice A n c) m es) : PlainA A := by
  rcases h.shape with ⟨h, _⟩ | ⟨g, cap, h, _⟩ <;> injection h with h _ _ <;> subst h
  · exact plain_none
  · exact plain_some _ _
theorem Own.empty {w : World} (ok : Nat → Prop) (base t sz g : Nat) (hg : base ≤ g) (hb : w.heap[g]? = some (.cells #[] t (0, 0))) : Own w ok base t sz (.slice (some ⟨g, 0, none⟩) 0 0) 0 [] :=
  ⟨[], ⟨by simp, .inr ⟨g, 0, #[], rfl, hg, hb, Nat.le_refl _, by simp, by simp, by simp⟩⟩, RdL.nil⟩
end Go.Proofs.Ytadpfhoenjodeaa
