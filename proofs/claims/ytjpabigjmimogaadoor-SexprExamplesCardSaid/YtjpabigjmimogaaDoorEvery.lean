/- sexpr.every at the predicates that are handed to it; IsIdent, on both sides. -/
import Derived.Test.YtjpabigjmimogaaDoorChars
import Derived.Deep.LoopGhost
set_option linter.unusedVariables false
set_option linter.unusedSimpArgs false
namespace Go.Proofs.YtjpabigjmimogaaDoor
open Go.RowKit

/-- Whether p holds of the bytes of s from i on. -/
def allB (p : Int → Bool) (s : ByteArray) (i : Nat) : Bool := (List.range (s.size - i)).all fun j => p (bat s (i + j))
theorem allB_step (p : Int → Bool) (s : ByteArray) (i : Nat) (h : i < s.size) : allB p s i = (p (bat s i) && allB p s (i + 1)) := by
  unfold allB
  rw [show s.size - i = (s.size - (i + 1)) + 1 by omega, List.range_succ_eq_map, List.all_cons, List.all_map]
  congr 1
  congr 1
  funext j
  simp [Nat.add_assoc, Nat.add_comm 1 j]
theorem allB_end (p : Int → Bool) (s : ByteArray) : allB p s s.size = true := by simp [allB]

/-- What is asked of a predicate. -/
def PredAt (f : FuncId) (p : Int → Bool) : Prop := ∀ (c : Int) (w : World), 0 ≤ c → c ≤ 255 → Calls Tryd.prog f #[.int .u8 c] w fun e w' => e = .returned (.bool (p c)) ∧ w = w'

set_option maxHeartbeats 1000000 in
theorem every_word (s : ByteArray) (hs : s.size ≤ maxLen) (w : World) : Calls Tryd.prog 42 #[.string s, .func (.func 49) #[] #[]] w fun e w' => e = .returned (.bool (allB isW s 0)) ∧ w = w' := by
  unfold maxLen at hs
  obtain ⟨E, hE⟩ : ∃ E, E = allB isW s 0 := ⟨_, rfl⟩
  rw [← hE]
  have HE := Lib.hid hE
  clear hE
  go_enter Tryd.func42, Tryd.ntmps42
  go_wp2_with fail
  go_loopg [5] s.size (fun q iv wr => ∃ (i : Nat), iv = .int .i64 (i : Int) ∧ Hid (i ≤ s.size ∧ q = s.size - i ∧ E = allB isW s i ∧ w = wr))
  case atStart => exact ⟨0, rfl, Nat.zero_le _, rfl, HE.out, rfl⟩
  case round =>
    obtain ⟨i, rfl, HH⟩ := hrel
    obtain ⟨q1, q2, q3, rfl⟩ := HH.out
    have HQ := Lib.hid q2
    have HEi := Lib.hid q3
    clear HH q2 q3
    by_cases hlt : i < s.size
    · have hi' : (i : Int) < (s.size : Int) := by omega
      have hi0 : (0 : Int) ≤ (i : Int) := by omega
      have hat := bat_at s i
      have HS := Lib.hid (allB_step isW s i hlt)
      cases hv : isW (bat s i)
      · have HV := Lib.hid hv
        clear hv
        go_wp2_with (go_at_call 49; (with_reducible refine (isWordByte_any _ _).mono ?_); rintro e w' ⟨he, rfl⟩; rw [HV.out] at he; subst he)
        go_ret
        exact ⟨by rw [HEi.out, HS.out, HV.out]; rfl, rfl⟩
      · have HV := Lib.hid hv
        clear hv
        go_wp2_with (go_at_call 49; (with_reducible refine (isWordByte_any _ _).mono ?_); rintro e w' ⟨he, rfl⟩; rw [HV.out] at he; subst he)
        go_roundg (s.size - (i + 1))
        case measure => have := HQ.out; omega
        case rel => exact ⟨i + 1, by simp, by omega, rfl, by rw [HEi.out, HS.out, HV.out]; rfl, rfl⟩
    · obtain rfl : i = s.size := by omega
      have hd : decide ((s.size : Int) < (s.size : Int)) = false := by simp
      go_wp2_with fail
      go_ret
      exact ⟨by rw [HEi.out, allB_end]; rfl, rfl⟩

def isI (c : Int) : Bool := c != 45 && isW c
set_option maxHeartbeats 400000 in
theorem identByte_any (c : Int) (w : World) : Calls Tryd.prog 48 #[.int .u8 c] w fun e w' => e = .returned (.bool (isI c)) ∧ w = w' := by
  cases h1 : (c != 45) <;> cases h2 : isW c
  all_goals
    have hr : isI c = (c != 45 && isW c) := rfl
    rw [h1, h2] at hr
    have h3 : (c == 45) = !(c != 45) := by simp [bne]
    rw [h1] at h3
    have Hr := Lib.hid hr
    have H2 := Lib.hid h2
    clear hr h2
    go_enter Tryd.func48, Tryd.ntmps48
    go_wp2_with (go_at_call 49; (with_reducible refine (isWordByte_any _ _).mono ?_); rintro e w' ⟨he, rfl⟩; rw [H2.out] at he; subst he)
    go_ret
    exact ⟨by rw [Hr.out]; rfl, rfl⟩

set_option maxHeartbeats 1000000 in
theorem every_ident (s : ByteArray) (hs : s.size ≤ maxLen) (w : World) : Calls Tryd.prog 42 #[.string s, .func (.func 48) #[] #[]] w fun e w' => e = .returned (.bool (allB isI s 0)) ∧ w = w' := by
  unfold maxLen at hs
  obtain ⟨E, hE⟩ : ∃ E, E = allB isI s 0 := ⟨_, rfl⟩
  rw [← hE]
  have HE := Lib.hid hE
  clear hE
  go_enter Tryd.func42, Tryd.ntmps42
  go_wp2_with fail
  go_loopg [5] s.size (fun q iv wr => ∃ (i : Nat), iv = .int .i64 (i : Int) ∧ Hid (i ≤ s.size ∧ q = s.size - i ∧ E = allB isI s i ∧ w = wr))
  case atStart => exact ⟨0, rfl, Nat.zero_le _, rfl, HE.out, rfl⟩
  case round =>
    obtain ⟨i, rfl, HH⟩ := hrel
    obtain ⟨q1, q2, q3, rfl⟩ := HH.out
    have HQ := Lib.hid q2
    have HEi := Lib.hid q3
    clear HH q2 q3
    by_cases hlt : i < s.size
    · have hi' : (i : Int) < (s.size : Int) := by omega
      have hi0 : (0 : Int) ≤ (i : Int) := by omega
      have hat := bat_at s i
      have HS := Lib.hid (allB_step isI s i hlt)
      cases hv : isI (bat s i)
      · have HV := Lib.hid hv
        clear hv
        go_wp2_with (go_at_call 48; (with_reducible refine (identByte_any _ _).mono ?_); rintro e w' ⟨he, rfl⟩; rw [HV.out] at he; subst he)
        go_ret
        exact ⟨by rw [HEi.out, HS.out, HV.out]; rfl, rfl⟩
      · have HV := Lib.hid hv
        clear hv
        go_wp2_with (go_at_call 48; (with_reducible refine (identByte_any _ _).mono ?_); rintro e w' ⟨he, rfl⟩; rw [HV.out] at he; subst he)
        go_roundg (s.size - (i + 1))
        case measure => have := HQ.out; omega
        case rel => exact ⟨i + 1, by simp, by omega, rfl, by rw [HEi.out, HS.out, HV.out]; rfl, rfl⟩
    · obtain rfl : i = s.size := by omega
      have hd : decide ((s.size : Int) < (s.size : Int)) = false := by simp
      go_wp2_with fail
      go_ret
      exact ⟨by rw [HEi.out, allB_end]; rfl, rfl⟩

/-- What IsIdent answers. -/
def identB (s : ByteArray) : Bool := decide (0 < s.size) && (decide (s.size ≤ 24) && (isL (bat s 0) && allB isI s 0))
set_option maxHeartbeats 1000000 in
theorem isIdent_any (s : ByteArray) (hs : s.size ≤ maxLen) (w : World) : Calls Tryd.prog 30 #[.string s] w fun e w' => e = .returned (.bool (identB s)) ∧ w = w' := by
  by_cases h0 : 0 < s.size
  · have hl : ¬ s.toList = [] := by
      rw [ByteArray.toList_eq]
      intro e
      have h3 : s.data.toList.length = 0 := by rw [e]; rfl
      rw [Array.length_toList] at h3
      have e2 : s.size = s.data.size := rfl
      omega
    have hl2 : (s.toList == []) = false := by simpa using hl
    have hl3 : s.toList.isEmpty = false := by simpa using hl
    have hat := bat_at s 0
    have hi' : (0 : Int) < (s.size : Int) := by omega
    have HM := Lib.hid hs
    obtain ⟨E, hE⟩ : ∃ E, E = allB isI s 0 := ⟨_, rfl⟩
    have HE := Lib.hid hE
    clear hE hs
    by_cases h24 : s.size ≤ 24
    · have hi2 : (s.size : Int) ≤ 24 := by omega
      cases hv : isL (bat s 0)
      · have HV := Lib.hid hv
        clear hv
        go_enter Tryd.func30, Tryd.ntmps30
        go_wp2_with (go_at_call 47; (with_reducible refine (isLetter_any _ _).mono ?_); rintro e w' ⟨he, rfl⟩; rw [HV.out] at he; subst he)
        go_ret
        exact ⟨by simp [identB, HV.out], rfl⟩
      · have HV := Lib.hid hv
        clear hv
        cases E
        all_goals
          go_enter Tryd.func30, Tryd.ntmps30
          go_wp2_with (first | (go_at_call 47; (with_reducible refine (isLetter_any _ _).mono ?_); rintro e w' ⟨he, rfl⟩; rw [HV.out] at he; subst he) | (go_at_call 42; (with_reducible refine (every_ident _ HM.out _).mono ?_); rintro e w' ⟨he, rfl⟩; rw [← HE.out] at he; subst he))
          go_ret
          exact ⟨by simp [identB, HV.out, ← HE.out, h0, h24], rfl⟩
    · have hi2 : ¬ (s.size : Int) ≤ 24 := by omega
      go_enter Tryd.func30, Tryd.ntmps30
      go_wp2_with fail
      go_ret
      exact ⟨by simp [identB, h24], rfl⟩
  · have hz : s = ⟨#[]⟩ := by
      have e2 : s.size = s.data.size := rfl
      exact ByteArray.ext (Array.eq_empty_of_size_eq_zero (by omega))
    subst hz
    clear hs h0
    go_enter Tryd.func30, Tryd.ntmps30
    go_wp2_with fail
    go_ret
    exact ⟨rfl, rfl⟩
end Go.Proofs.YtjpabigjmimogaaDoor
