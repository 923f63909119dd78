/- Contracts of the functions that ask what kind a byte is. -/
import Derived.Test.YtjpabigjmimogaaProg
import Derived.Test.YtjpabigjmimogaaParseSpec
import Derived.Deep.QuietTactic
import Derived.BigQuiet
set_option linter.unusedVariables false
set_option linter.unusedSimpArgs false
namespace Go.Proofs.Ytjpabigjmimogaa
open Go.RowKit

set_option maxHeartbeats 400000 in
theorem isLetter_any (c : Int) (w : World) : Calls Try.prog 12 #[.int .u8 c] w fun e w' => e = .returned (.bool (isL c)) ∧ w = w' := by
  by_cases h1 : 97 ≤ c <;> by_cases h2 : c ≤ 122 <;> by_cases h3 : 65 ≤ c <;> by_cases h4 : c ≤ 90
  all_goals
    have hr : isL c = decide (97 ≤ c ∧ c ≤ 122 ∨ 65 ≤ c ∧ c ≤ 90) := rfl
    simp only [h1, h2, h3, h4, and_self, and_true, and_false, or_true, or_false, decide_true, decide_false] at hr
    have Hr := Lib.hid hr
    clear hr
    go_enter Try.func12, Try.ntmps12
    go_wp2
    go_ret
    exact ⟨by rw [Hr.out]; rfl, rfl⟩

set_option maxHeartbeats 400000 in
theorem isDigit_any (c : Int) (w : World) : Calls Try.prog 21 #[.int .u8 c] w fun e w' => e = .returned (.bool (isD c)) ∧ w = w' := by
  by_cases h1 : 48 ≤ c <;> by_cases h2 : c ≤ 57
  all_goals
    have hr : isD c = decide (48 ≤ c ∧ c ≤ 57) := rfl
    simp only [h1, h2, and_self, and_true, and_false, decide_true, decide_false] at hr
    have Hr := Lib.hid hr
    clear hr
    go_enter Try.func21, Try.ntmps21
    go_wp2
    go_ret
    exact ⟨by rw [Hr.out]; rfl, rfl⟩

set_option maxHeartbeats 400000 in
theorem isStringByte_any (c : Int) (w : World) : Calls Try.prog 24 #[.int .u8 c] w fun e w' => e = .returned (.bool (isS c)) ∧ w = w' := by
  by_cases h1 : 32 ≤ c <;> by_cases h2 : c ≤ 126
  all_goals
    have hr : isS c = decide (32 ≤ c ∧ c ≤ 126) := rfl
    simp only [h1, h2, and_self, and_true, and_false, decide_true, decide_false] at hr
    have Hr := Lib.hid hr
    clear hr
    go_enter Try.func24, Try.ntmps24
    go_wp2
    go_ret
    exact ⟨by rw [Hr.out]; rfl, rfl⟩

set_option maxHeartbeats 400000 in
theorem isWordByte_any (c : Int) (w : World) : Calls Try.prog 15 #[.int .u8 c] w fun e w' => e = .returned (.bool (isW c)) ∧ w = w' := by
  cases h1 : isL c <;> cases h2 : isD c <;> cases h3 : (c == 95) <;> cases h4 : (c == 45)
  all_goals
    have hr : isW c = (isL c || isD c || c == 95 || c == 45) := rfl
    simp only [h1, h2, h3, h4, Bool.or_true, Bool.or_false, Bool.true_or] at hr
    have Hr := Lib.hid hr
    clear hr
    go_enter Try.func15, Try.ntmps15
    go_wp2_with (first | (go_at_call 12; refine (isLetter_any _ _).mono ?_; rintro e w' ⟨rfl, rfl⟩) | (go_at_call 21; refine (isDigit_any _ _).mono ?_; rintro e w' ⟨rfl, rfl⟩))
    go_ret
    exact ⟨by rw [Hr.out]; rfl, rfl⟩
end Go.Proofs.Ytjpabigjmimogaa
