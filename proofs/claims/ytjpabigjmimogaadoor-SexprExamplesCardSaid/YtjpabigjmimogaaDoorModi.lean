/- telmake.Mod. -/
import Derived.Test.YtjpabigjmimogaaDoorChars
set_option linter.unusedVariables false
set_option linter.unusedSimpArgs false
namespace Go.Proofs.YtjpabigjmimogaaDoor
open Go.RowKit

theorem tmod_emod (n m : Int) (hm : 0 < m) : (n.tmod m < 0 → n % m = n.tmod m + m) ∧ (¬ n.tmod m < 0 → n % m = n.tmod m) := by
  have h1 := Int.emod_nonneg n (by omega : m ≠ 0)
  have h2 := Int.emod_lt_of_pos n hm
  have h3 := Int.lt_tmod_of_pos n hm
  have h4 := Int.tmod_lt_of_pos n hm
  have h5 : (m ∣ n % m - n.tmod m) := by
    have a := Int.emod_add_mul_ediv n m
    have b := Int.tmod_add_mul_tdiv n m
    exact ⟨n.tdiv m - n / m, by rw [Int.mul_sub]; omega⟩
  obtain ⟨c, hc⟩ := h5
  constructor
  · intro h
    have : c = 1 := by
      have hc1 : 0 < c := by
        apply Int.pos_of_mul_pos_right (a := m) (by omega) (by omega)
      have hc2 : c < 2 := by
        apply Int.lt_of_mul_lt_mul_left (a := m) (by omega) (by omega)
      omega
    subst this; omega
  · intro h
    have : c = 0 := by
      have hc1 : -1 < c := by
        apply Int.lt_of_mul_lt_mul_left (a := m) (by omega) (by omega)
      have hc2 : c < 1 := by
        apply Int.lt_of_mul_lt_mul_left (a := m) (by omega) (by omega)
      omega
    subst this; omega

set_option maxHeartbeats 400000 in
theorem mod_any (n m : Int) (hm : 0 < m) (hm2 : m ≤ 1000000000) (w : World) : Calls Tryd.prog 14 #[.int .i64 n, .int .i64 m] w fun e w' => e = .returned (.int .i64 (n % m)) ∧ w = w' := by
  have h3 := Int.lt_tmod_of_pos n hm
  have h4 := Int.tmod_lt_of_pos n hm
  obtain ⟨t1, t2⟩ := tmod_emod n m hm
  have T1 := Lib.hid t1
  have T2 := Lib.hid t2
  clear t1 t2
  have hne : (m == 0) = false := by simp; omega
  by_cases h : n.tmod m < 0
  all_goals
    go_enter Tryd.func14, Tryd.ntmps14
    go_wp2
    go_ret
    refine ⟨?_, rfl⟩
    first
      | (rw [T1.out h]; rfl)
      | (rw [T2.out (by omega)]; rfl)
end Go.Proofs.YtjpabigjmimogaaDoor
