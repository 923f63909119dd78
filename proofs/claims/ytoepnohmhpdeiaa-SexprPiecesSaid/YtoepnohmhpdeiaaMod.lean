/- telmake.Mod, and what both parsers answer. -/
import Derived.Test.YtoepnohmhpdeiaaRParse
import Derived.Test.YtoepnohmhpdeiaaSame
import Derived.Test.YtoepnohmhpdeiaaCheckSexpr
set_option linter.unusedVariables false
set_option linter.unusedSimpArgs false
namespace Go.Proofs.Ytoepnohmhpdeiaa
open Go.RowKit

theorem both_any (s : ByteArray) (w0 : s.size ≤ maxLen) : ∃ R, (∀ W, Calls Try.prog 8 #[.string s] W (ParsePost W R)) ∧ (∀ W, Calls Try.prog 9 #[.string s] W (RParsePost W R)) := by
  have hs : s.size ≤ 9223372036854775807 := by simp only [maxLen] at w0; omega
  by_cases hl : 65536 < s.size
  · exact ⟨.fail 4 0, fun W => parse_any s hs W 1 _ (by unfold parseF; rw [if_pos hl]), fun W => rparse_long s hl W⟩
  · obtain ⟨n, R, m, r, h1, h2, h3, h4⟩ := parse_ref s (by omega)
    cases r with
    | bad a b =>
      obtain rfl := h3 a b rfl
      exact ⟨_, fun W => parse_any s hs W n _ h1, fun W => rparse_any s (by omega) W m _ h2⟩
    | at_ e l =>
      obtain rfl := h4 e l rfl
      exact ⟨_, fun W => parse_any s hs W n _ h1, fun W => rparse_any s (by omega) W m _ h2⟩

theorem tmod_emod (n m : Int) (hm : 0 < m) : (n.tmod m < 0 → n % m = n.tmod m + m) ∧ (¬ n.tmod m < 0 → n % m = n.tmod m) := by
  have h1 := Int.emod_nonneg n (by omega : m ≠ 0)
  have h2 := Int.emod_lt_of_pos n hm
  have h3 := Int.lt_tmod_of_pos n hm
  have h4 := Int.tmod_lt_of_pos n hm
  have h5 : (m ∣ n % m - n.tmod m) := by
    have a := Int.emod_add_mul_ediv n m
    have b := Int.tmod_add_mul_tdiv n m
    exact ⟨n.tdiv m - n / m, by rw [Int.mul_sub]; omega⟩
  obtain ⟨c, hc⟩ := h5
  constructor
  · intro h
    have : c = 1 := by
      have hc1 : 0 < c := by
        apply Int.pos_of_mul_pos_right (a := m) (by omega) (by omega)
      have hc2 : c < 2 := by
        apply Int.lt_of_mul_lt_mul_left (a := m) (by omega) (by omega)
      omega
    subst this; omega
  · intro h
    have : c = 0 := by
      have hc1 : -1 < c := by
        apply Int.lt_of_mul_lt_mul_left (a := m) (by omega) (by omega)
      have hc2 : c < 1 := by
        apply Int.lt_of_mul_lt_mul_left (a := m) (by omega) (by omega)
      omega
    subst this; omega

set_option maxHeartbeats 400000 in
theorem mod_any (n m : Int) (hm : 0 < m) (hm2 : m ≤ 1000000000) (w : World) : Calls Try.prog 13 #[.int .i64 n, .int .i64 m] w fun e w' => e = .returned (.int .i64 (n % m)) ∧ w = w' := by
  have h3 := Int.lt_tmod_of_pos n hm
  have h4 := Int.tmod_lt_of_pos n hm
  obtain ⟨t1, t2⟩ := tmod_emod n m hm
  have T1 := Lib.hid t1
  have T2 := Lib.hid t2
  clear t1 t2
  have hne : (m == 0) = false := by simp; omega
  by_cases h : n.tmod m < 0
  all_goals
    go_enter Try.func13, Try.ntmps13
    go_wp2
    go_ret
    refine ⟨?_, rfl⟩
    first
      | (rw [T1.out h]; rfl)
      | (rw [T2.out (by omega)]; rfl)
end Go.Proofs.Ytoepnohmhpdeiaa
