/- telgen.Within. -/
import Derived.Test.YtadpfhoenjodeaaStk4
set_option linter.unusedVariables false
set_option linter.unusedSimpArgs false
namespace Go.Proofs.Ytadpfhoenjodeaa
open Go.RowKit

set_option maxRecDepth 100000 in
set_option maxHeartbeats 2000000 in
theorem within_any (v lo hi : Int) (h0 : 0 ≤ lo) (h1 : lo < hi) (h2 : hi ≤ 1000000) (w : World) :
    Calls Try.prog 30 #[.int .i64 v, .int .i64 lo, .int .i64 hi] w fun e w' => ∃ r, e = .returned (.int .i64 r) ∧ (lo ≤ r ∧ r ≤ hi) ∧ w = w' := by
  have hm : 0 < hi - lo + 1 := by omega
  have a1 := Int.lt_tmod_of_pos v hm
  have a2 := Int.tmod_lt_of_pos v hm
  obtain ⟨t, ht⟩ : ∃ t, t = v.tmod (hi - lo + 1) := ⟨_, rfl⟩
  rw [← ht] at a1 a2
  have hle : ¬ hi ≤ lo := by omega
  have hd : decide (hi ≤ lo) = false := by simpa using hle
  have w1 : wrap64 (hi - lo) = hi - lo := by unfold wrap64; omega
  have w2 : wrap64 (hi - lo + 1) = hi - lo + 1 := by unfold wrap64; omega
  have w4 : wrap64 t = t := by unfold wrap64; omega
  have w5 : IntKind.i64.wrap t = t := wrap_i64 (by omega) (by omega)
  have hz : (hi - lo + 1 == 0) = false := by simp; omega
  have hz2 : ¬ hi - lo + 1 = 0 := by omega
  have ht' : v.tmod (hi - lo + 1) = t := ht.symm
  clear ht
  by_cases hn : t < 0
  · have w6 : wrap64 (t + hi) = t + hi := by unfold wrap64; omega
    have w7 : wrap64 (t + hi - lo) = t + hi - lo := by unfold wrap64; omega
    have w8 : wrap64 (t + hi - lo + 1) = t + hi - lo + 1 := by unfold wrap64; omega
    have w9 : wrap64 (lo + (t + hi - lo + 1)) = lo + (t + hi - lo + 1) := by unfold wrap64; omega
    have hr := Lib.hid (show lo ≤ lo + (t + hi - lo + 1) ∧ lo + (t + hi - lo + 1) ≤ hi by omega)
    go_enter Try.func30, Try.ntmps30
    go_wp2_with fail
    go_ret
    exact ⟨_, rfl, hr.out, rfl⟩
  · have w6 : wrap64 (lo + t) = lo + t := by unfold wrap64; omega
    have hr := Lib.hid (show lo ≤ lo + t ∧ lo + t ≤ hi by omega)
    go_enter Try.func30, Try.ntmps30
    go_wp2_with fail
    go_ret
    exact ⟨_, rfl, hr.out, rfl⟩
end Go.Proofs.Ytadpfhoenjodeaa
