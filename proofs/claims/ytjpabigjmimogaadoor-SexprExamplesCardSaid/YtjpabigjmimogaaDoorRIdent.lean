/- telref1.IsIdent. -/
import Derived.Test.YtjpabigjmimogaaDoorEvery
import Derived.Test.YtjpabigjmimogaaDoorRChars
set_option linter.unusedVariables false
set_option linter.unusedSimpArgs false
namespace Go.Proofs.YtjpabigjmimogaaDoor
open Go.RowKit

set_option maxRecDepth 100000 in
set_option maxHeartbeats 4000000 in
theorem risIdent_any (s : ByteArray) (hs : s.size ≤ maxLen) (w : World) : Calls Tryd.prog 31 #[.string s] w fun e w' => e = .returned (.bool (identB s)) ∧ w = w' := by
  unfold maxLen at hs
  by_cases h0 : s.size < 1
  · have h0I : (s.size : Int) < 1 := by omega
    rw [show identB s = false from by rw [identB, decide_eq_false (show ¬ 0 < s.size by omega)]; rfl]
    go_enter Tryd.func31, Tryd.ntmps31
    go_wp2_with fail
    go_ret
    exact ⟨rfl, rfl⟩
  · have h0I : ¬ (s.size : Int) < 1 := by omega
    by_cases h24 : 24 < s.size
    · have h24I : (24 : Int) < (s.size : Int) := by omega
      rw [show identB s = false from by rw [identB, decide_eq_false (show ¬ s.size ≤ 24 by omega)]; simp]
      go_enter Tryd.func31, Tryd.ntmps31
      go_wp2_with fail
      go_ret
      exact ⟨rfl, rfl⟩
    · have h24I : ¬ (24 : Int) < (s.size : Int) := by omega
      have hp : (0 : Int) < (s.size : Int) := by omega
      have hid : identB s = (isL (bat s 0) && allB isI s 0) := by rw [identB, decide_eq_true (show 0 < s.size by omega), decide_eq_true (show s.size ≤ 24 by omega)]; rfl
      have hat0 := bat_at s 0
      cases hl : isL (bat s 0)
      · have HL := Lib.hid hl
        rw [hid, hl]
        clear hl hid
        go_enter Tryd.func31, Tryd.ntmps31
        go_wp2_with (go_at_call 50; (with_reducible refine (risLetter_any _ _).mono ?_); rintro e w' ⟨he, rfl⟩; rw [HL.out] at he; subst he)
        go_ret
        exact ⟨rfl, rfl⟩
      · have HL := Lib.hid hl
        rw [hid, hl]
        clear hl hid
        obtain ⟨E, hE⟩ : ∃ E, E = allB isI s 0 := ⟨_, rfl⟩
        rw [← hE]
        have HE := Lib.hid hE
        clear hE
        go_enter Tryd.func31, Tryd.ntmps31
        go_wp2_with (go_at_call 50; (with_reducible refine (risLetter_any _ _).mono ?_); rintro e w' ⟨he, rfl⟩; rw [HL.out] at he; subst he)
        go_loopg [3] s.size (fun q iv wr => ∃ (i : Nat), iv = .int .i64 (i : Int) ∧ Hid (i ≤ s.size ∧ q = s.size - i ∧ E = allB isI s i ∧ w = wr))
        case atStart => exact ⟨0, rfl, Nat.zero_le _, rfl, HE.out, rfl⟩
        case round =>
          obtain ⟨i, rfl, HH⟩ := hrel
          obtain ⟨q1, q2, q3, rfl⟩ := HH.out
          have HQ := Lib.hid q2
          have HEi := Lib.hid q3
          clear HH q2 q3 hat0
          by_cases hlt : i < s.size
          · have hi' : (i : Int) < (s.size : Int) := by omega
            have hi0 : (0 : Int) ≤ (i : Int) := by omega
            have hat := bat_at s i
            have HS := Lib.hid (allB_step isI s i hlt)
            cases hv : isW (bat s i)
            · have HV := Lib.hid hv
              clear hv
              go_wp2_with (go_at_call 51; (with_reducible refine (risWordByte_any _ _).mono ?_); rintro e w' ⟨he, rfl⟩; rw [HV.out] at he; subst he)
              go_ret
              exact ⟨by rw [HEi.out, HS.out, isI, HV.out]; simp, rfl⟩
            · have HV := Lib.hid hv
              clear hv
              by_cases h45 : bat s i = 45
              · have h45b : (bat s i == 45) = true := by simpa using h45
                have H45 := Lib.hid h45
                clear h45
                go_wp2_with (go_at_call 51; (with_reducible refine (risWordByte_any _ _).mono ?_); rintro e w' ⟨he, rfl⟩; rw [HV.out] at he; subst he)
                go_ret
                exact ⟨by rw [HEi.out, HS.out, isI, H45.out]; rfl, rfl⟩
              · have h45b : (bat s i == 45) = false := by simpa using h45
                have H45 : Hid (isI (bat s i) = true) := Lib.hid (by rw [isI, HV.out]; simpa using h45)
                clear h45
                go_wp2_with (go_at_call 51; (with_reducible refine (risWordByte_any _ _).mono ?_); rintro e w' ⟨he, rfl⟩; rw [HV.out] at he; subst he)
                go_roundg (s.size - (i + 1))
                case measure => have := HQ.out; omega
                case rel => exact ⟨i + 1, by simp, by omega, rfl, by rw [HEi.out, HS.out, H45.out]; rfl, rfl⟩
          · obtain rfl : i = s.size := by omega
            have hd : decide ((s.size : Int) < (s.size : Int)) = false := by simp
            go_wp2_with fail
            go_ret
            exact ⟨by rw [HEi.out, allB_end]; rfl, rfl⟩
end Go.Proofs.YtjpabigjmimogaaDoor
