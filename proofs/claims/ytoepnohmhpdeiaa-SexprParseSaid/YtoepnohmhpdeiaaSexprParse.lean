/- tellaw1.SexprParse returns true for every string. The shell was written by the kit's program; the walk is by hand. -/
import Derived.Test.YtoepnohmhpdeiaaRows
import Derived.WalkKit
import Derived.ProofKit
import Derived.OpenShut
import Derived.ShutString
import Derived.Test.YtoepnohmhpdeiaaRParse
import Derived.Test.YtoepnohmhpdeiaaSame
import Derived.Test.YtoepnohmhpdeiaaCheckSexpr
set_option linter.unusedVariables false
set_option linter.unusedSimpArgs false
namespace Go.Proofs.Ytoepnohmhpdeiaa.sexprParse
open Go.ChangeShapes Go.WideShapes Go.ChangeAt Go.RowKit
open Go.ChangeMaps (open_string shut_string)

theorem own : ownKnob Try.prog.godebug = none := by kernel_rfl

set_option maxRecDepth 100000 in
set_option maxHeartbeats 2000000 in
theorem walk_fail (a0 : ByteArray) (a b : Int) (w : World) (h1 : ∀ W, Calls Try.prog 8 #[.string a0] W (ParsePost W (.fail a b))) (h2 : ∀ W, Calls Try.prog 9 #[.string a0] W (RParsePost W (.fail a b))) :
    Calls Try.prog 3 #[.string a0] w fun e w' => e = .returned (.bool true) ∧ Below w.heap.size w w' := by
  have H1 := Lib.hid h1
  have H2 := Lib.hid h2
  clear h1 h2
  go_enter Try.func3, Try.ntmps3
  go_wp2_with (first
    | (go_at_call 8; refine (H1.out _).mono ?_; rintro e w1 ⟨hb1, rfl⟩; have HB1 := Lib.hid hb1; clear hb1)
    | (go_at_call 9; refine (H2.out _).mono ?_; rintro e w2 ⟨hb2, rfl⟩; have HC1 := Lib.hid (show w2.heap[w1.heap.size]? = some (.cells #[.int .i64 a, .int .i64 b] 25 (0, 0)) from (hb2.block _ (by simp)).trans (heap_alloc_new w1 _)); have HB2 := Lib.hid hb2; clear hb2)
    | (go_at_call 10; refine (check_any _).mono ?_; rintro e w3 ⟨rfl, hb3⟩; have hc1 : w3.heap[w1.heap.size]? = some (.cells #[.int .i64 a, .int .i64 b] 25 (0, 0)) := (hb3.block _ (by have := lt_of_block HC1.out; simp; omega)).trans ((Below.heap_alloc _ _ _ (lt_of_block HC1.out)).trans HC1.out); have hc2 : w3.heap[w2.heap.size]? = some (.cells #[.int .i64 a, .int .i64 b] 25 (0, 0)) := (hb3.block _ (by simp)).trans (heap_alloc_new w2 _); have d0 := (cell_of_row _ _ 0 _ _ _ hc1).trans (c := some (.int .i64 a)) rfl; have d1 := (cell_of_row _ _ 1 _ _ _ hc1).trans (c := some (.int .i64 b)) rfl; have d2 := (cell_of_row _ _ 0 _ _ _ hc2).trans (c := some (.int .i64 a)) rfl; have d3 := (cell_of_row _ _ 1 _ _ _ hc2).trans (c := some (.int .i64 b)) rfl; have HB3 := Lib.hid hb3; clear hb3 hc1 hc2)
    | (go_at_call 11; refine (fault_same _ _ _).mono ?_; rintro e w4 ⟨rfl, hb4⟩; have HB4 := Lib.hid hb4; clear hb4 d0 d1 d2 d3)
    | (go_at_call 12; refine (same_any _ [] (Nat.le_refl _) _ (fun _ => True) (fun _ => True) _ _ _ _ _ _ (Rd.nil _ _) (Rd.nil _ _)).mono ?_; rintro e w5 ⟨rfl, nq, rfl⟩))
  go_ret
  have x2 := below_call (HB1.out.alloc HB1.out.size _) HB2.out
  have x3 := below_call (x2.alloc x2.size _) HB3.out
  have x4 := below_call x3 HB4.out
  exact ⟨rfl, below_drewN' x4 _⟩
set_option maxRecDepth 100000 in
set_option maxHeartbeats 2000000 in
theorem walk_ok (a0 : ByteArray) (l : List Nd) (w : World) (h1 : ∀ W, Calls Try.prog 8 #[.string a0] W (ParsePost W (.ok l))) (h2 : ∀ W, Calls Try.prog 9 #[.string a0] W (RParsePost W (.ok l))) :
    Calls Try.prog 3 #[.string a0] w fun e w' => e = .returned (.bool true) ∧ Below w.heap.size w w' := by
  have H1 := Lib.hid h1
  have H2 := Lib.hid h2
  clear h1 h2
  go_enter Try.func3, Try.ntmps3
  go_wp2_with (first
    | (go_at_call 8; refine (H1.out _).mono ?_; rintro e w1 ⟨hb1, A, n, c, rfl, hr1⟩; have HB1 := Lib.hid hb1; have HR1 := Lib.hid hr1; clear hb1 hr1)
    | (go_at_call 9; refine (H2.out _).mono ?_; rintro e w2 ⟨hb2, A2, n2, c2, rfl, hr2⟩; have HR2 := Lib.hid hr2; clear hr2; have HC1 := Lib.hid (show w2.heap[w1.heap.size]? = some (.cells #[.int .i64 0, .int .i64 0] 25 (0, 0)) from (hb2.block _ (by simp)).trans (heap_alloc_new w1 _)); have HB2 := Lib.hid hb2; clear hb2)
    | (go_at_call 10; refine (check_any _).mono ?_; rintro e w3 ⟨rfl, hb3⟩; have hc1 : w3.heap[w1.heap.size]? = some (.cells #[.int .i64 0, .int .i64 0] 25 (0, 0)) := (hb3.block _ (by have := lt_of_block HC1.out; simp; omega)).trans ((Below.heap_alloc _ _ _ (lt_of_block HC1.out)).trans HC1.out); have hc2 : w3.heap[w2.heap.size]? = some (.cells #[.int .i64 0, .int .i64 0] 25 (0, 0)) := (hb3.block _ (by simp)).trans (heap_alloc_new w2 _); have d0 := (cell_of_row _ _ 0 _ _ _ hc1).trans (c := some (.int .i64 0)) rfl; have d1 := (cell_of_row _ _ 1 _ _ _ hc1).trans (c := some (.int .i64 0)) rfl; have d2 := (cell_of_row _ _ 0 _ _ _ hc2).trans (c := some (.int .i64 0)) rfl; have d3 := (cell_of_row _ _ 1 _ _ _ hc2).trans (c := some (.int .i64 0)) rfl; have HB3 := Lib.hid hb3; clear hb3 hc1 hc2)
    | (go_at_call 11; refine (fault_same _ _ _).mono ?_; rintro e w4 ⟨rfl, hb4⟩; have HB4 := Lib.hid hb4; clear hb4 d0 d1 d2 d3)
    | (go_at_call 12; refine (same_any _ l (Nat.le_refl _) _ _ _ _ _ _ _ _ _ (((((HR1.out.alloc _).bl HB2.out).alloc _).bl HB3.out).bl HB4.out) (((HR2.out.alloc _).bl HB3.out).bl HB4.out)).mono ?_; rintro e w5 ⟨rfl, nq, rfl⟩))
  go_ret
  have x2 := below_call (HB1.out.alloc HB1.out.size _) HB2.out
  have x3 := below_call (x2.alloc x2.size _) HB3.out
  have x4 := below_call x3 HB4.out
  exact ⟨rfl, below_drewN' x4 _⟩

theorem walk (a0 : ByteArray) (w0 : a0.size ≤ maxLen) (w : World) : Calls Try.prog 3 #[.string a0] w fun e w' => e = .returned (.bool true) ∧ Below w.heap.size w w' := by
  have hs : a0.size ≤ 9223372036854775807 := by simp only [maxLen] at w0; omega
  by_cases hl : 65536 < a0.size
  · exact walk_fail a0 4 0 w (fun W => parse_any a0 hs W 1 _ (by unfold parseF; rw [if_pos hl])) (fun W => rparse_long a0 hl W)
  · obtain ⟨n, R, m, r, h1, h2, h3, h4⟩ := parse_ref a0 (by omega)
    cases r with
    | bad a b =>
      obtain rfl := h3 a b rfl
      exact walk_fail a0 a b w (fun W => parse_any a0 hs W n _ h1) (fun W => rparse_any a0 (by omega) W m _ h2)
    | at_ e l =>
      obtain rfl := h4 e l rfl
      exact walk_ok a0 l w (fun W => parse_any a0 hs W n _ h1) (fun W => rparse_any a0 (by omega) W m _ h2)

set_option maxRecDepth 100000 in
theorem lifted (os : Os) (started : os.Started) (H : Type) (enc : TypeId × Value → H) :
    ReturnsInHanded {} Try.checked os 3 .any (Rows.sexprParseSpec.pre6 enc Try.prog Try.f3 Rows.sexprParseRow.domain false) (Rows.sexprParseSpec.post enc Try.prog Try.f3 false true false false) := by
  refine returnsInHanded_of_change (C := Try.checked) own started (by kernel_rfl) Try.func3
    (ChangeSpec.witness6 (enc := enc) (C := Try.checked) false ⟨#[], #[.string ByteArray.empty], []⟩ 8 (by kernel_rfl) (by kernel_rfl) (by kernel_rfl) (by kernel_rfl)) ?_
  intro W base args ds gs before hval0 hW hcnd _
  have hval : ∀ (j : Nat) t v, Try.f3.params[j]? = some t → args[j]? = some v → Value.okWide Try.prog W .any base t v := hval0
  have hW' := hW
  obtain ⟨p, q, hA0, hV, rfl, hfz, hnd⟩ := hW
  have hA : DataW.TrodAll enc Try.prog W 0 (fun _ => true) true Try.f3.params.toList args.toList ds p := hA0
  rw [Try.params3] at hA hval
  obtain ⟨v0, vs0, d0, ds0, p0, q0, hargs, rfl, rfl, h0, r0⟩ := trodAll_cons hA
  obtain ⟨rfl, rfl, rfl⟩ := trodAll_nil r0
  obtain rfl : args = #[v0] := by cases args; simp_all
  obtain ⟨rfl, rfl⟩ := trodVars_none hV
  obtain ⟨a0, rfl, rfl, rfl, w0⟩ := open_string Try.underlying9 (hval 0 9 v0 rfl rfl) h0
  clear hA0 hval0
  simp only [List.append_nil] at hW'
  refine (walk a0 w0 W).mono fun e W' ⟨he, hg⟩ => ?_
  subst he
  exact ⟨_, rfl, _, _, _, [], [], [], hW', trodAll_cons_mk (shut_bool Try.underlying4 _) trodAll_mk0, trodAll_cons_mk (shut_string Try.underlying9 w0) trodAll_mk0, rfl, hg.frame _, fun h => by cases h⟩

theorem over : Rows.sexprParseRow.holds Try.pinned (OpenSpec.ofChange Rows.sexprParseSpec) :=
  OpenClaim.holds_of_wide 3 Try.f3 rfl rfl rfl rfl rfl rfl rfl ⟨rfl, rfl, rfl, rfl, rfl⟩ rfl rfl rfl rfl rfl (by kernel_rfl) Try.func3 (by kernel_rfl)
    (of_decide_eq_true (by kernel_rfl)) (by unfold Func.isWrapper; first | (rw [if_pos (by decide +kernel)]; kernel_rfl) | (rw [if_neg (by decide +kernel)]; exact ⟨rfl, rfl⟩))
    (fun os started H enc _ => lifted os started H enc)

theorem proved : Rows.SexprParseSaid := over
end Go.Proofs.Ytoepnohmhpdeiaa.sexprParse
