/- Contracts of the functions that ask what kind a byte is. -/
import Derived.Test.YtjpabigjmimogaaDoorProg
import Derived.Test.YtjpabigjmimogaaDoorParseSpec
import Derived.Deep.QuietTactic
import Derived.BigQuiet
set_option linter.unusedVariables false
set_option linter.unusedSimpArgs false
namespace Go.Proofs.YtjpabigjmimogaaDoor
open Go.RowKit

set_option maxHeartbeats 400000 in
theorem isLetter_any (c : Int) (w : World) : Calls Tryd.prog 47 #[.int .u8 c] w fun e w' => e = .returned (.bool (isL c)) ∧ w = w' := by
  by_cases h1 : 97 ≤ c <;> by_cases h2 : c ≤ 122 <;> by_cases h3 : 65 ≤ c <;> by_cases h4 : c ≤ 90
  all_goals
    have hr : isL c = decide (97 ≤ c ∧ c ≤ 122 ∨ 65 ≤ c ∧ c ≤ 90) := rfl
    simp only [h1, h2, h3, h4, and_self, and_true, and_false, or_true, or_false, decide_true, decide_false] at hr
    have Hr := Lib.hid hr
    clear hr
    go_enter Tryd.func47, Tryd.ntmps47
    go_wp2
    go_ret
    exact ⟨by rw [Hr.out]; rfl, rfl⟩

set_option maxHeartbeats 400000 in
theorem isDigit_any (c : Int) (w : World) : Calls Tryd.prog 43 #[.int .u8 c] w fun e w' => e = .returned (.bool (isD c)) ∧ w = w' := by
  by_cases h1 : 48 ≤ c <;> by_cases h2 : c ≤ 57
  all_goals
    have hr : isD c = decide (48 ≤ c ∧ c ≤ 57) := rfl
    simp only [h1, h2, and_self, and_true, and_false, decide_true, decide_false] at hr
    have Hr := Lib.hid hr
    clear hr
    go_enter Tryd.func43, Tryd.ntmps43
    go_wp2
    go_ret
    exact ⟨by rw [Hr.out]; rfl, rfl⟩

set_option maxHeartbeats 400000 in
theorem isStringByte_any (c : Int) (w : World) : Calls Tryd.prog 59 #[.int .u8 c] w fun e w' => e = .returned (.bool (isS c)) ∧ w = w' := by
  by_cases h1 : 32 ≤ c <;> by_cases h2 : c ≤ 126
  all_goals
    have hr : isS c = decide (32 ≤ c ∧ c ≤ 126) := rfl
    simp only [h1, h2, and_self, and_true, and_false, decide_true, decide_false] at hr
    have Hr := Lib.hid hr
    clear hr
    go_enter Tryd.func59, Tryd.ntmps59
    go_wp2
    go_ret
    exact ⟨by rw [Hr.out]; rfl, rfl⟩

set_option maxHeartbeats 400000 in
theorem isWordByte_any (c : Int) (w : World) : Calls Tryd.prog 49 #[.int .u8 c] w fun e w' => e = .returned (.bool (isW c)) ∧ w = w' := by
  cases h1 : isL c <;> cases h2 : isD c <;> cases h3 : (c == 95) <;> cases h4 : (c == 45)
  all_goals
    have hr : isW c = (isL c || isD c || c == 95 || c == 45) := rfl
    simp only [h1, h2, h3, h4, Bool.or_true, Bool.or_false, Bool.true_or] at hr
    have Hr := Lib.hid hr
    clear hr
    go_enter Tryd.func49, Tryd.ntmps49
    go_wp2_with (first | (go_at_call 47; refine (isLetter_any _ _).mono ?_; rintro e w' ⟨rfl, rfl⟩) | (go_at_call 43; refine (isDigit_any _ _).mono ?_; rintro e w' ⟨rfl, rfl⟩))
    go_ret
    exact ⟨by rw [Hr.out]; rfl, rfl⟩
end Go.Proofs.YtjpabigjmimogaaDoor
