/- Slices that come in, at this program's types. -/
import Derived.Test.YtadpfhoenjodeaaOpn
import Derived.Test.YtadpfhoenjodeaaCodes
import Derived.Test.YtadpfhoenjodeaaGenS
set_option linter.unusedVariables false
set_option linter.unusedSimpArgs false
namespace Go.Proofs.Ytadpfhoenjodeaa
open Go.RowKit
theorem cells_int : Try.prog.cellsOf 3 = 1 := by kernel_rfl
theorem cells_str : Try.prog.cellsOf 9 = 1 := by kernel_rfl
theorem cells_frame : Try.prog.cellsOf 43 = 5 := by kernel_rfl
theorem cells_frames : Try.prog.cellsOf 25 = 1 := by kernel_rfl
theorem cells_vals : Try.prog.cellsOf 41 = 1 := by kernel_rfl
theorem cells_code : Try.prog.cellsOf 65 = 14 := by kernel_rfl
theorem cells_type : Try.prog.cellsOf 58 = 4 := by kernel_rfl
theorem cells_types : Try.prog.cellsOf 56 = 1 := by kernel_rfl
theorem cells_ccode : Try.prog.cellsOf 62 = 4 := by kernel_rfl
theorem cells_ints : Try.prog.cellsOf 22 = 1 := by kernel_rfl
theorem cells_instrs : Try.prog.cellsOf 59 = 1 := by kernel_rfl
theorem cells_edits : Try.prog.cellsOf 60 = 1 := by kernel_rfl
theorem cells_deps : Try.prog.cellsOf 63 = 1 := by kernel_rfl
section
variable {H : Type} {enc : TypeId × Value → H} {w : World} {base : Nat} {spare : Nat → Bool} {held : Bool}
instance : Inhabited Fr := ⟨mkF 0 0 0⟩
instance : Inhabited Cc := ⟨mkC 0 0 0 0⟩
theorem flat1 {α : Type} (l : List α) (f : α → Tr) : (l.flatMap fun a => [f a]) = l.map f := by
  induction l with
  | nil => rfl
  | cons a l ih => simp [ih]
theorem opn_ints {fuel : Nat} {cs : List Value} {x : DataW H × List MemPlace} (h : DataW.trod enc Try.prog w base spare held fuel 22 cs = some x) :
    ∃ A n c l, cs = [.slice A n c] ∧ l.length = n ∧ (∀ a ∈ l, (Lit.int .i64 a).wf = true) ∧ Rd w (fun _ => True) (.slice A n c) (intsTr l) := by
  obtain ⟨A, n, c, l, h1, h2, h3, h4⟩ := open_list (α := Int) Try.underlying22 cells_int (by omega) (fun x => [.sc (.int .i64 x)]) (fun _ => rfl) (fun a => (Lit.int .i64 a).wf = true) (fun fuel cs x hx _ => by
    obtain ⟨n, rfl, _, hw⟩ := DataW.trod_int Try.underlying3 hx
    exact ⟨n, hw, RdL.cons (.sc _) RdL.nil⟩) h
  rw [flat1] at h4
  exact ⟨A, n, c, l, h1, h2, h3, h4⟩
theorem opn_frame {fuel : Nat} {cs : List Value} {x : DataW H × List MemPlace} (h : DataW.trod enc Try.prog w base spare held fuel 43 cs = some x) (hl : cs.length = 5) :
    ∃ f : Fr, ((Lit.int .i64 f.code).wf = true ∧ (Lit.int .i64 f.world).wf = true) ∧ RdL w (fun _ => True) cs f.tr := by
  obtain ⟨_, _, f0⟩ := fld Try.underlying43 h (i := 0) rfl
  obtain ⟨_, _, f1⟩ := fld Try.underlying43 h (i := 1) rfl
  obtain ⟨_, _, f2⟩ := fld Try.underlying43 h (i := 2) rfl
  obtain ⟨_, _, f3⟩ := fld Try.underlying43 h (i := 3) rfl
  obtain ⟨_, _, f4⟩ := fld Try.underlying43 h (i := 4) rfl
  obtain ⟨z0, e0, w0⟩ := trod_i cells_int Try.underlying3 f0
  obtain ⟨z1, e1, w1⟩ := trod_i cells_int Try.underlying3 f1
  obtain ⟨z2, e2, w2⟩ := trod_i cells_int Try.underlying3 f2
  obtain ⟨z3, e3, w3⟩ := trod_i cells_int Try.underlying3 f3
  obtain ⟨A, m, c, e4⟩ := trod_l cells_vals Try.underlying41 f4
  have hcs : cs = [.int .i64 z0, .int .i64 z1, .int .i64 z2, .int .i64 z3, .slice A m c] := by
    apply List.ext_getElem?
    intro j
    rcases Nat.lt_or_ge j 5 with hj | hj
    · have hh : j = 0 ∨ j = 1 ∨ j = 2 ∨ j = 3 ∨ j = 4 := by omega
      rcases hh with rfl | rfl | rfl | rfl | rfl
      · exact e0
      · exact e1
      · exact e2
      · exact e3
      · exact e4
    · rw [List.getElem?_eq_none (by omega), List.getElem?_eq_none (by simp; omega)]
  rw [hcs]
  exact ⟨⟨z0, z1, z2, z3, A, m, c⟩, ⟨w0, w2⟩, .cons (.sc _) (.cons (.sc _) (.cons (.sc _) (.cons (.sc _) (.cons (.sc _) .nil))))⟩
set_option maxRecDepth 100000 in
theorem opn_frames {fuel : Nat} {cs : List Value} {x : DataW H × List MemPlace} (h : DataW.trod enc Try.prog w base spare held fuel 25 cs = some x) :
    ∃ A n c l, cs = [.slice A n c] ∧ l.length = n ∧ (∀ f ∈ l, (Lit.int .i64 (Fr.code f)).wf = true ∧ (Lit.int .i64 f.world).wf = true) ∧ Rd w (fun _ => True) (.slice A n c) (frsTr l) := by
  obtain ⟨A, n, c, l, h1, h2, h3, h4⟩ := open_list (α := Fr) Try.underlying25 cells_frame (by omega) Fr.tr (fun _ => rfl) (fun f => (Lit.int .i64 (Fr.code f)).wf = true ∧ (Lit.int .i64 f.world).wf = true) (fun fuel cs x hx hl => opn_frame hx hl) h
  exact ⟨A, n, c, l, h1, h2, h3, h4⟩
theorem opn_stacks {fuel : Nat} {cs : List Value} {x : DataW H × List MemPlace} (h : DataW.trod enc Try.prog w base spare held fuel 23 cs = some x) :
    ∃ A n c s, cs = [.slice A n c] ∧ s.length = n ∧ (∀ l ∈ s, ∀ f ∈ l, (Lit.int .i64 (Fr.code f)).wf = true ∧ (Lit.int .i64 f.world).wf = true) ∧ Rd w (fun _ => True) (.slice A n c) (stTr s) := by
  obtain ⟨A, n, c, l, h1, h2, h3, h4⟩ := open_list (α := List Fr) Try.underlying23 cells_frames (by omega) (fun l => [frsTr l]) (fun _ => rfl) (fun l => ∀ f ∈ l, (Lit.int .i64 (Fr.code f)).wf = true ∧ (Lit.int .i64 f.world).wf = true) (fun fuel cs x hx _ => by
    obtain ⟨A, n, c, l, rfl, _, hw, hr⟩ := opn_frames hx
    exact ⟨l, hw, RdL.cons hr RdL.nil⟩) h
  rw [flat1] at h4
  exact ⟨A, n, c, l, h1, h2, h3, h4⟩
theorem opn_code {fuel : Nat} {cs : List Value} {x : DataW H × List MemPlace} (h : DataW.trod enc Try.prog w base spare held fuel 65 cs = some x) (hl : cs.length = 14) :
    ∃ f : Cc, (Lit.int .i64 f.id).wf = true ∧ RdL w (fun _ => True) cs (f.vs.map Tr.sc) := by
  obtain ⟨_, _, f0⟩ := fld Try.underlying65 h (i := 0) rfl
  obtain ⟨_, _, f1⟩ := fld Try.underlying65 h (i := 1) rfl
  obtain ⟨_, _, f2⟩ := fld Try.underlying65 h (i := 2) rfl
  obtain ⟨_, _, f3⟩ := fld Try.underlying65 h (i := 3) rfl
  obtain ⟨_, _, f4⟩ := fld Try.underlying65 h (i := 4) rfl
  obtain ⟨_, _, f5⟩ := fld Try.underlying65 h (i := 5) rfl
  obtain ⟨_, _, f6⟩ := fld Try.underlying65 h (i := 6) rfl
  obtain ⟨_, _, f7⟩ := fld Try.underlying65 h (i := 7) rfl
  obtain ⟨_, _, g0⟩ := fld Try.underlying58 f2 (i := 0) rfl
  obtain ⟨_, _, g1⟩ := fld Try.underlying58 f2 (i := 1) rfl
  obtain ⟨_, _, g2⟩ := fld Try.underlying58 f2 (i := 2) rfl
  obtain ⟨_, _, g3⟩ := fld Try.underlying58 f2 (i := 3) rfl
  obtain ⟨_, _, k0⟩ := fld Try.underlying62 f5 (i := 0) rfl
  obtain ⟨_, _, k1⟩ := fld Try.underlying62 f5 (i := 1) rfl
  obtain ⟨_, _, k2⟩ := fld Try.underlying62 f5 (i := 2) rfl
  obtain ⟨_, _, k3⟩ := fld Try.underlying62 f5 (i := 3) rfl
  obtain ⟨z0, e0, w0⟩ := trod_i cells_int Try.underlying3 f0
  obtain ⟨z1, e1, w1⟩ := trod_i cells_int Try.underlying3 f1
  obtain ⟨z6, e6, _⟩ := trod_i cells_int Try.underlying3 f3
  obtain ⟨z7, e7, _⟩ := trod_i cells_int Try.underlying3 f4
  obtain ⟨A12, m12, c12, e12⟩ := trod_l cells_deps Try.underlying63 f6
  obtain ⟨A13, m13, c13, e13⟩ := trod_l cells_ints Try.underlying22 f7
  obtain ⟨z2, e2, _⟩ := trod_i cells_int Try.underlying3 g0
  obtain ⟨z3, e3, _⟩ := trod_s cells_str Try.underlying9 g1
  obtain ⟨z4, e4, _⟩ := trod_i cells_int Try.underlying3 g2
  obtain ⟨A5, m5, c5, e5⟩ := trod_l cells_types Try.underlying56 g3
  obtain ⟨z8, e8, _⟩ := trod_i cells_int Try.underlying3 k0
  obtain ⟨z9, e9, _⟩ := trod_i cells_int Try.underlying3 k1
  obtain ⟨A10, m10, c10, e10⟩ := trod_l cells_instrs Try.underlying59 k2
  obtain ⟨A11, m11, c11, e11⟩ := trod_l cells_edits Try.underlying60 k3
  have e2 := sub_cell e2
  have e3 := sub_cell e3
  have e4 := sub_cell e4
  have e5 := sub_cell e5
  have e8 := sub_cell e8
  have e9 := sub_cell e9
  have e10 := sub_cell e10
  have e11 := sub_cell e11
  have hcs : cs = [.int .i64 z0, .int .i64 z1, .int .i64 z2, .string z3, .int .i64 z4, .slice A5 m5 c5, .int .i64 z6, .int .i64 z7, .int .i64 z8, .int .i64 z9, .slice A10 m10 c10, .slice A11 m11 c11, .slice A12 m12 c12, .slice A13 m13 c13] := by
    apply List.ext_getElem?
    intro j
    rcases Nat.lt_or_ge j 14 with hj | hj
    · have hh : j = 0 ∨ j = 1 ∨ j = 2 ∨ j = 3 ∨ j = 4 ∨ j = 5 ∨ j = 6 ∨ j = 7 ∨ j = 8 ∨ j = 9 ∨ j = 10 ∨ j = 11 ∨ j = 12 ∨ j = 13 := by omega
      rcases hh with rfl | rfl | rfl | rfl | rfl | rfl | rfl | rfl | rfl | rfl | rfl | rfl | rfl | rfl
      · exact e0
      · exact e1
      · exact e2
      · exact e3
      · exact e4
      · exact e5
      · exact e6
      · exact e7
      · exact e8
      · exact e9
      · exact e10
      · exact e11
      · exact e12
      · exact e13
    · rw [List.getElem?_eq_none (by omega), List.getElem?_eq_none (by simp; omega)]
  refine ⟨⟨z0, z1, z2, z3, z4, A5, m5, c5, z6, z7, z8, z9, A10, m10, c10, A11, m11, c11, A12, m12, c12, A13, m13, c13⟩, w0, ?_⟩
  rw [hcs]
  refine ⟨rfl, fun j u e hu he => ?_⟩
  rw [List.getElem?_map] at he
  have hu' : (Cc.vs ⟨z0, z1, z2, z3, z4, A5, m5, c5, z6, z7, z8, z9, A10, m10, c10, A11, m11, c11, A12, m12, c12, A13, m13, c13⟩)[j]? = some u := hu
  rw [hu'] at he
  simp at he
  subst he
  exact .sc _
set_option maxRecDepth 100000 in
theorem opn_codes {fuel : Nat} {cs : List Value} {x : DataW H × List MemPlace} (h : DataW.trod enc Try.prog w base spare held fuel 24 cs = some x) :
    ∃ A n c l, cs = [.slice A n c] ∧ l.length = n ∧ (∀ f ∈ l, (Lit.int .i64 (Cc.id f)).wf = true) ∧ Rd w (fun _ => True) (.slice A n c) (ccsTr l) := by
  obtain ⟨A, n, c, l, h1, h2, h3, h4⟩ := open_list (α := Cc) Try.underlying24 cells_code (by omega) (fun x => x.vs.map Tr.sc) (fun _ => rfl) (fun f => (Lit.int .i64 (Cc.id f)).wf = true) (fun fuel cs x hx hl => opn_code hx hl) h
  exact ⟨A, n, c, l, h1, h2, h3, h4⟩
end
end Go.Proofs.Ytadpfhoenjodeaa
