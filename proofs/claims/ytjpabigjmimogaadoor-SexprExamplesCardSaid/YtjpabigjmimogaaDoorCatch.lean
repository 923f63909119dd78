/- The deferred function of Parse: it recovers the fault. -/
import Derived.Test.YtjpabigjmimogaaDoorWord
import Derived.Test.YtjpabigjmimogaaDoorSem
import Derived.Defers
import Derived.Recover
set_option linter.unusedVariables false
set_option linter.unusedSimpArgs false
namespace Go.Proofs.YtjpabigjmimogaaDoor
open Go.RowKit

structure CatchPost (w : World) (pn pf : Nat) (a b : Int) (w' : World) : Prop where
  cn : w'.cell? ⟨pn, 0, none⟩ = some (.slice none 0 0)
  c0 : w'.cell? ⟨pf, 0, none⟩ = some (.int .i64 a)
  c1 : w'.cell? ⟨pf, 1, none⟩ = some (.int .i64 b)
  kp : Kp w w' fun k => k = pn ∨ k = pf

set_option maxRecDepth 100000 in
set_option maxHeartbeats 2000000 in
theorem catch_fault (pn pf : Nat) (a b : Int) (w : World) (x0 : Value) (y0 y1 : Int) (hx : ∃ A n c, x0 = .slice A n c)
    (hn : w.cell? ⟨pn, 0, none⟩ = some x0) (hf0 : w.cell? ⟨pf, 0, none⟩ = some (.int .i64 y0)) (hf1 : w.cell? ⟨pf, 1, none⟩ = some (.int .i64 y1))
    (hz0 : w.frozen? ⟨pn, 0, none⟩ = false) (hz1 : w.frozen? ⟨pf, 0, none⟩ = false) (hz2 : w.frozen? ⟨pf, 1, none⟩ = false) (hne : ¬ pn = pf) :
    CallsD Tryd.prog 35 #[.pointer (some ⟨pn, 0, none⟩), .pointer (some ⟨pf, 0, none⟩)] (.panicking (faultV a b)) w fun e u' w' =>
      e = .returned (.tuple #[]) ∧ u' = .panicking [{ v := .iface 33 (.agg #[.int .i64 a, .int .i64 b]), recovered := true }] ∧ CatchPost w pn pf a b w' := by
  obtain ⟨A, n, c, rfl⟩ := hx
  have hl1 := World.block_lt_of_cell? w _ hn
  have hl2 := World.block_lt_of_cell? w _ hf0
  refine callsD_of_wpS Tryd.func35 rfl fun c₀ cs hu => ?_
  apply wpS_seq
  apply wpS_region
  simp [wpOpsS, go_sem, recoverD, hu, faultV, Tryd.ntmps35, Exit.thenS]
  refine wpS_of_wp ?_
  change Code.wp _ _ _ { tmps := #[.pointer (some ⟨pn, 0, none⟩), .pointer (some ⟨pf, 0, none⟩), undef, undef, undef, .iface 33 (.agg #[.int .i64 a, .int .i64 b]), undef, undef, undef, undef, undef, undef], defers := [] } w
  have hta : ∀ (v : Value) (w : World), (Instr.typeAssert (.iface 33 v) 20 33 true).run Tryd.prog w = .ok (.tuple #[v, .bool true]) w := fun v w => rfl
  go_wp2
  have hb := heap_alloc_new w (.cells #[.int .i64 a, .int .i64 b] 33)
  have d0 := (cell_of_row _ w.heap.size 0 _ _ _ hb).trans (c := some (.int .i64 a)) rfl
  have d1 := (cell_of_row _ w.heap.size 1 _ _ _ hb).trans (c := some (.int .i64 b)) rfl
  have hn' := (World.cell?_alloc_lt w (.cells #[.int .i64 a, .int .i64 b] 33) ⟨pn, 0, none⟩ hl1).trans hn
  have hf0' := (World.cell?_alloc_lt w (.cells #[.int .i64 a, .int .i64 b] 33) ⟨pf, 0, none⟩ hl2).trans hf0
  have hf1' := (World.cell?_alloc_lt w (.cells #[.int .i64 a, .int .i64 b] 33) ⟨pf, 1, none⟩ hl2).trans hf1
  have hz0' := (World.frozen?_alloc_old w (.cells #[.int .i64 a, .int .i64 b] 33) ⟨pn, 0, none⟩ (Nat.ne_of_lt hl1)).trans hz0
  have hz1' := (World.frozen?_alloc_old w (.cells #[.int .i64 a, .int .i64 b] 33) ⟨pf, 0, none⟩ (Nat.ne_of_lt hl2)).trans hz1
  have hz2' := (World.frozen?_alloc_old w (.cells #[.int .i64 a, .int .i64 b] 33) ⟨pf, 1, none⟩ (Nat.ne_of_lt hl2)).trans hz2
  have hK := Lib.hid ((Kp.refl w (fun k => k = pn ∨ k = pf)).alloc (.cells #[.int .i64 a, .int .i64 b] 33))
  have hne1 : ¬ pn = w.heap.size := by omega
  have hne2 : ¬ pf = w.heap.size := by omega
  have hne3 : ¬ pf = pn := fun e => hne e.symm
  generalize w.alloc (.cells #[.int .i64 a, .int .i64 b] 33) = W at *
  generalize w.heap.size = b0 at *
  clear hn hf0 hf1 hz0 hz1 hz2 hb hl1 hl2
  go_region
  refine ⟨rfl, _, rfl, .tuple #[], by simp [results, Tryd.results35], rfl, rfl, ?_⟩
  refine ⟨?_, ?_, ?_, ?_⟩
  · go_simp
  · go_simp
  · go_simp
  · exact (((hK.out.setCell (p := ⟨pn, 0, none⟩) (.inl (.inl rfl)) _).setCell (p := ⟨pf, 0, none⟩) (.inl (.inr rfl)) _).setCell (p := ⟨pf, 1, none⟩) (.inl (.inr rfl)) _).drew

set_option maxRecDepth 100000 in
set_option maxHeartbeats 2000000 in
theorem catch_idle (pn pf : Nat) (w : World) :
    CallsD Tryd.prog 35 #[.pointer (some ⟨pn, 0, none⟩), .pointer (some ⟨pf, 0, none⟩)] .returning w fun e u' w' => e = .returned (.tuple #[]) ∧ u' = .returning ∧ w = w' := by
  refine callsD_of_wpS Tryd.func35 rfl fun c₀ cs hu => ?_
  apply wpS_seq
  apply wpS_region
  simp [wpOpsS, go_sem, recoverD, hu, Tryd.ntmps35, Exit.thenS]
  refine wpS_of_wp ?_
  have heq : ∀ w, (binOp .eql 20 .nilIface .nilIface).run Tryd.prog w = .ok (.bool true) w := fun w => rfl
  change Code.wp _ _ _ { tmps := #[.pointer (some ⟨pn, 0, none⟩), .pointer (some ⟨pf, 0, none⟩), undef, undef, undef, .nilIface, undef, undef, undef, undef, undef, undef], defers := [] } w
  go_wp2
  refine ⟨rfl, .returning, ?_, .tuple #[], by simp [results, Tryd.results35], rfl, rfl, rfl⟩
  cases c₀
  simp_all
end Go.Proofs.YtjpabigjmimogaaDoor
