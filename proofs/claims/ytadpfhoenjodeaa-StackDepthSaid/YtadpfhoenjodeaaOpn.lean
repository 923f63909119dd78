/- Slices that come in, of whatever elements, read as trees of cells. No program is named here. -/
import Derived.Test.YtadpfhoenjodeaaApp
import Derived.Deep.Slices
import Derived.ChangeArms
import Derived.WideShapes
set_option linter.unusedVariables false
set_option linter.unusedSimpArgs false
namespace Go.Proofs.Ytadpfhoenjodeaa
open Go.RowKit

section
variable {H : Type} {enc : TypeId × Value → H} {P : Program} {w : World} {base : Nat} {spare : Nat → Bool} {held : Bool}
theorem fld {t : TypeId} {fuel : Nat} {cs : List Value} {x : DataW H × List MemPlace} {fs : Array Field} (ht : P.underlying t = some (.struct fs)) (h : DataW.trod enc P w base spare held fuel t cs = some x) {i : Nat} {f : Field} (hf : fs[i]? = some f) :
    ∃ n y, DataW.trod enc P w base spare held n f.type ((cs.drop f.offset).take (P.cellsOf f.type)) = some y := by
  obtain ⟨xs, n, _, _, _, hl, hx⟩ := DataW.trod_struct ht h
  have hi : i < fs.size := (Array.getElem?_eq_some_iff.1 hf).1
  refine ⟨n, xs[i]'(by omega), ?_⟩
  rw [hx i f hf, List.getElem?_eq_getElem]
theorem trod_i {t : TypeId} {n : Nat} {cs : List Value} {y : DataW H × List MemPlace} {k : IntKind} {o : Nat} (hc : P.cellsOf t = 1) (ht : P.underlying t = some (.int k)) (h : DataW.trod enc P w base spare held n t ((cs.drop o).take (P.cellsOf t)) = some y) : ∃ z, cs[o]? = some (.int k z) ∧ (Lit.int k z).wf = true := by
  obtain ⟨z, h1, _, h2⟩ := DataW.trod_int ht h
  rw [hc] at h1
  exact ⟨z, WideShapes.cell_of_cut h1, h2⟩
theorem trod_s {t : TypeId} {n : Nat} {cs : List Value} {y : DataW H × List MemPlace} {o : Nat} (hc : P.cellsOf t = 1) (ht : P.underlying t = some .string) (h : DataW.trod enc P w base spare held n t ((cs.drop o).take (P.cellsOf t)) = some y) : ∃ z, cs[o]? = some (.string z) ∧ z.size ≤ maxLen := by
  obtain ⟨z, h1, _, h2⟩ := DataW.trod_string ht h
  rw [hc] at h1
  exact ⟨z, WideShapes.cell_of_cut h1, h2⟩
theorem trod_l {t e : TypeId} {n : Nat} {cs : List Value} {y : DataW H × List MemPlace} {o : Nat} (hc : P.cellsOf t = 1) (ht : P.underlying t = some (.slice e)) (h : DataW.trod enc P w base spare held n t ((cs.drop o).take (P.cellsOf t)) = some y) : ∃ A m c, cs[o]? = some (.slice A m c) := by
  rcases DataW.trod_slice ht h with ⟨h1, _⟩ | ⟨a, len, cap, _, _, _, _, h1, _⟩ <;> rw [hc] at h1 <;> exact ⟨_, _, _, WideShapes.cell_of_cut h1⟩
theorem sub_cell {cs : List Value} {o sz k : Nat} {v : Value} (h : ((cs.drop o).take sz)[k]? = some v) : cs[o + k]? = some v := by
  rw [List.getElem?_take] at h
  split at h
  · rwa [List.getElem?_drop] at h
  · cases h

theorem open_list {α : Type} [Inhabited α] {t e : TypeId} {sz : Nat} (ht : P.underlying t = some (.slice e)) (hc : P.cellsOf e = sz) (hsz : 0 < sz) (f : α → List Tr) (hf : ∀ a, (f a).length = sz) (good : α → Prop)
    (hel : ∀ fuel cs x, DataW.trod enc P w base spare held fuel e cs = some x → cs.length = sz → ∃ a, good a ∧ RdL w (fun _ => True) cs (f a))
    {fuel : Nat} {cs : List Value} {x : DataW H × List MemPlace} (h : DataW.trod enc P w base spare held fuel t cs = some x) :
    ∃ (A : Option Addr) (n c : Nat) (l : List α), cs = [.slice A n c] ∧ l.length = n ∧ (∀ a ∈ l, good a) ∧ Rd w (fun _ => True) (.slice A n c) (.sl e sz (l.flatMap f)) := by
  rcases Deep.open_slice ht h with ⟨rfl, _⟩ | ⟨a, len, cap, m, n, D, Pl, rfl, _, hl, hm, hmm, _, hx⟩
  · exact ⟨none, 0, 0, [], rfl, rfl, by simp, .nil _ _⟩
  have hlm : len ≤ m := by rw [hmm]; split <;> omega
  rw [hc] at hx
  have hch : ∀ i, i < len → ∃ p : List Value × α, p.1.length = sz ∧ (∀ k, k < sz → w.cell? (a.add (i * sz + k)) = p.1[k]?) ∧ good p.2 ∧ RdL w (fun _ => True) p.1 (f p.2) := fun i hi => by
    obtain ⟨cs', h1, h2⟩ := hx i (by omega)
    obtain ⟨_, h3, h4⟩ := World.cells?_some h1
    obtain ⟨b, hb1, hb2⟩ := hel _ _ _ h2 h3
    exact ⟨(cs', b), h3, fun k hk => by rw [← Deep.add_add]; exact h4 k hk, hb1, hb2⟩
  obtain ⟨g, hg⟩ := Deep.choose_lt hch
  refine ⟨some a, len, cap, (List.range len).map fun i => (g i).2, rfl, by simp, fun b hb => ?_, ?_⟩
  · obtain ⟨i, hi, rfl⟩ := List.mem_map.1 hb
    exact (hg i (List.mem_range.1 hi)).2.2.1
  rcases Nat.eq_zero_or_pos len with rfl | hpos
  · simpa using Rd.emp a cap e sz hm
  have h0 := (hg 0 hpos).2.1 0 hsz
  rw [List.getElem?_eq_getElem (by have := (hg 0 hpos).1; omega)] at h0
  have ha0 : a.add (0 * sz + 0) = a := by simp [Addr.add]
  rw [ha0] at h0
  obtain ⟨b, o, s⟩ := a
  unfold World.cell? at h0
  cases hb : w.heap[b]? with
  | none => rw [hb] at h0; cases h0
  | some ob =>
    rw [hb] at h0
    cases ob with
    | cells cs0 t' fr =>
      simp only at h0
      cases s with
      | some s => simp at h0
      | none =>
        have hlen : ((List.range len).map fun i => (g i).2).length = len := by simp
        have hes : (((List.range len).map fun i => (g i).2).flatMap f).length = len * sz := by rw [length_flatMap_row f sz hf, hlen]
        have hdiv : ∀ j, j < len * sz → j / sz < len ∧ j % sz < sz ∧ j / sz * sz + j % sz = j := fun j hj =>
          ⟨(Nat.div_lt_iff_lt_mul hsz).2 hj, Nat.mod_lt _ hsz, by rw [Nat.mul_comm]; exact Nat.div_add_mod j sz⟩
        refine .row b o len cap e sz cs0 fr ((List.range (len * sz)).map fun j => (g (j / sz)).1.getD (j % sz) undef) _ trivial hb hl hm hes (by simp) (fun j hj => ?_) (fun j u e' hu he => ?_)
        · obtain ⟨d1, d2, d3⟩ := hdiv j hj
          have hlj := (hg _ d1).1
          have hcell := (hg _ d1).2.1 _ d2
          rw [d3, Addr.add_lit, cell_of_row w b (o + j) cs0 t' fr hb] at hcell
          rw [hcell, List.getElem?_map, List.getElem?_range hj]
          simp only [Option.map_some]
          rw [List.getElem?_eq_getElem (by omega), List.getD_eq_getElem?_getD, List.getElem?_eq_getElem (by omega)]
          rfl
        · have hj : j < len * sz := by have := (List.getElem?_eq_some_iff.1 he).1; omega
          obtain ⟨d1, d2, d3⟩ := hdiv j hj
          have hlj := (hg _ d1).1
          rw [List.getElem?_map, List.getElem?_range hj] at hu
          simp only [Option.map_some, Option.some.injEq] at hu
          rw [← d3, getElem?_flatMap_row f sz hf _ (j / sz) (j % sz) (g (j / sz)).2 (by rw [List.getElem?_map, List.getElem?_range d1]; rfl) d2] at he
          refine (hg _ d1).2.2.2.2 (j % sz) u e' ?_ he
          rw [← hu, List.getD_eq_getElem?_getD, List.getElem?_eq_getElem (by omega)]
          rfl
    | _ => cases h0
end
end Go.Proofs.Ytadpfhoenjodeaa
