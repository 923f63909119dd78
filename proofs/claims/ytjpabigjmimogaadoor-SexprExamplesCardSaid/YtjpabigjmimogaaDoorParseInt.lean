/- sexpr.ParseInt. -/
import Derived.Test.YtjpabigjmimogaaDoorShelf2
import Derived.Test.YtjpabigjmimogaaDoorPint
import Derived.Lib.AtoiErrMem
set_option linter.unusedVariables false
set_option linter.unusedSimpArgs false
namespace Go.Proofs.YtjpabigjmimogaaDoor
open Go.RowKit

set_option maxHeartbeats 1000000 in
theorem every_dig (s : ByteArray) (hs : s.size ≤ maxLen) (w : World) : Calls Tryd.prog 42 #[.string s, .func (.func 43) #[] #[]] w fun e w' => e = .returned (.bool (allB isD s 0)) ∧ w = w' := by
  unfold maxLen at hs
  obtain ⟨E, hE⟩ : ∃ E, E = allB isD s 0 := ⟨_, rfl⟩
  rw [← hE]
  have HE := Lib.hid hE
  clear hE
  go_enter Tryd.func42, Tryd.ntmps42
  go_wp2_with fail
  go_loopg [5] s.size (fun q iv wr => ∃ (i : Nat), iv = .int .i64 (i : Int) ∧ Hid (i ≤ s.size ∧ q = s.size - i ∧ E = allB isD s i ∧ w = wr))
  case atStart => exact ⟨0, rfl, Nat.zero_le _, rfl, HE.out, rfl⟩
  case round =>
    obtain ⟨i, rfl, HH⟩ := hrel
    obtain ⟨q1, q2, q3, rfl⟩ := HH.out
    have HQ := Lib.hid q2
    have HEi := Lib.hid q3
    clear HH q2 q3
    by_cases hlt : i < s.size
    · have hi' : (i : Int) < (s.size : Int) := by omega
      have hi0 : (0 : Int) ≤ (i : Int) := by omega
      have hat := bat_at s i
      have HS := Lib.hid (allB_step isD s i hlt)
      cases hv : isD (bat s i)
      · have HV := Lib.hid hv
        clear hv
        go_wp2_with (go_at_call 43; (with_reducible refine (isDigit_any _ _).mono ?_); rintro e w' ⟨he, rfl⟩; rw [HV.out] at he; subst he)
        go_ret
        exact ⟨by rw [HEi.out, HS.out, HV.out]; rfl, rfl⟩
      · have HV := Lib.hid hv
        clear hv
        go_wp2_with (go_at_call 43; (with_reducible refine (isDigit_any _ _).mono ?_); rintro e w' ⟨he, rfl⟩; rw [HV.out] at he; subst he)
        go_roundg (s.size - (i + 1))
        case measure => have := HQ.out; omega
        case rel => exact ⟨i + 1, by simp, by omega, rfl, by rw [HEi.out, HS.out, HV.out]; rfl, rfl⟩
    · obtain rfl : i = s.size := by omega
      have hd : decide ((s.size : Int) < (s.size : Int)) = false := by simp
      go_wp2_with fail
      go_ret
      exact ⟨by rw [HEi.out, allB_end]; rfl, rfl⟩

theorem text_ne0 {s : ByteArray} (h : ¬ s.size = 0) : (s.toList == []) = false ∧ s.toList.isEmpty = false ∧ ¬ s.toList = [] := by
  have hl : ¬ s.toList = [] := by
    rw [ByteArray.toList_eq]
    intro e
    have h3 : s.data.toList.length = 0 := by rw [e]; rfl
    rw [Array.length_toList] at h3
    have e2 : s.size = s.data.size := rfl
    omega
  exact ⟨by simpa using hl, by simpa using hl, hl⟩
theorem text_empty0 {s : ByteArray} (h : s.size = 0) : s = ⟨#[]⟩ := ByteArray.ext (Array.eq_empty_of_size_eq_zero (by have e2 : s.size = s.data.size := rfl; omega))
theorem trim_at {s T : ByteArray} (hT : T = tS s) (w : World) : Calls Tryd.prog 41 #[.string s, .string ⟨#[45]⟩] w fun e w' => e = .returned (.string T) ∧ w = w' :=
  (Tryd.strings_TrimPrefix s ⟨#[45]⟩ w).mono fun e w' ⟨h1, h2⟩ => ⟨by rw [h1, hT]; rfl, h2.symm⟩
theorem tS_le (s : ByteArray) : (tS s).size ≤ s.size := by
  rcases cases_text s with ⟨-, r, h1, h2⟩ | ⟨-, h1, -⟩
  · have e1 : (tS s).data.toList.length = (tS s).size := by simp
    have e2 : s.data.toList.length = s.size := by simp
    rw [h1] at e2
    rw [h2] at e1
    simp at e2
    omega
  · rw [h1]; exact Nat.le_refl _
/-- s is the text "0". -/
theorem zero_text (s : ByteArray) (h0 : bat (tS s) 0 = 48) (hz : ¬ (tS s).size = 0) : (s.toList = [48]) ↔ ¬ ((1 < (tS s).size) ∨ negB s = true) := by
  rw [ByteArray.toList_eq]
  rcases cases_text s with ⟨hn, r, h1, h2⟩ | ⟨hn, h1, h2⟩
  · rw [hn, h1]
    simp
  · rw [h1] at h0 hz ⊢
    rw [hn]
    have e2 : s.data.toList.length = s.size := by simp
    constructor
    · intro h
      rw [h] at e2
      simp at e2
      simp
      omega
    · intro h
      have h4 : s.size = 1 := by simp at h; omega
      rw [h4] at e2
      obtain ⟨c, hc⟩ := List.length_eq_one_iff.1 e2
      rw [hc]
      have h5 := bat_list (s := s) (j := 0) (c := c) (by rw [hc]; rfl)
      rw [h5] at h0
      congr 1
      apply UInt8.toNat_inj.1
      have : (48 : UInt8).toNat = 48 := rfl
      omega
theorem int_ok {s : ByteArray} {v : Int} (hb : badT s = false) (hp : pI s = some v) (hs : s.size ≤ 140737488355328) (w : World) : Calls Tryd.prog 44 #[.string s, .int .i64 10, .int .i64 64] w fun e w' => e = .returned (.tuple #[.int .i64 v, .nilIface]) ∧ Below w.heap.size w w' := by
  refine (Tryd.strconv_ParseInt_10_at64_ok s (by omega) v (by rw [parseIntB_of hb, hp]) w).mono ?_
  rintro e w' ⟨rfl, rfl | ⟨t, rfl⟩⟩
  · exact ⟨rfl, Below.refl _ _⟩
  · exact ⟨rfl, Lib.bytesWorld_below _ _ _⟩
theorem int_range {s : ByteArray} {tp : TypeId} {p : Value} {w : World} (hv : w.var? Tryd.prog "strconv.ErrRange" = some #[.iface tp p]) (hb : badT s = false) (hp : pI s = none) (hs : s.size ≤ 140737488355328) : Calls Tryd.prog 44 #[.string s, .int .i64 10, .int .i64 64] w fun e w' => ∃ x t N, e = .returned (.tuple #[.int .i64 x, .iface t (.pointer (some ⟨N, 0, none⟩))]) ∧ Below w.heap.size w w' := by
  refine (Tryd.strconv_ParseInt_10_at64_range_var s (by omega) (by rw [parseIntB_of hb, hp]) tp p w hv).mono ?_
  rintro e w' ⟨N, rfl, -, -, hbl⟩
  exact ⟨_, _, N, rfl, hbl⟩

set_option maxRecDepth 100000 in
set_option maxHeartbeats 4000000 in
theorem parseInt_any (s : ByteArray) (hs : s.size ≤ 140737488355328) (tp : TypeId) (p : Value) (w : World) (hv : w.var? Tryd.prog "strconv.ErrRange" = some #[.iface tp p]) :
    Calls Tryd.prog 27 #[.string s] w fun e w' => e = .returned (.tuple #[.int .i64 ((pI s).getD 0), .bool (pI s).isSome]) ∧ Below w.heap.size w w' := by
  have hle := tS_le s
  have hzt := zero_text s
  obtain ⟨T, hT⟩ : ∃ T, T = tS s := ⟨_, rfl⟩
  rw [← hT] at hle hzt
  have HT := Lib.hid hT
  have HVR := Lib.hid hv
  clear hv
  by_cases ht : T.size = 0
  · have hbd : badT s = true := by simp [badT, ← hT, ht]
    rw [show pI s = none by simp [pI, hbd]]
    obtain rfl := text_empty0 ht
    clear hT hbd hzt hle ht
    go_enter Tryd.func27, Tryd.ntmps27
    go_wp2_with (first | (go_at_call 41; (with_reducible refine (trim_at HT.out _).mono ?_); rintro e w' ⟨rfl, rfl⟩) | (go_at_call 42; (with_reducible refine (every_dig T (by simp only [maxLen]; omega) _).mono ?_); rintro e w' ⟨he, rfl⟩; rw [HE.out] at he; subst he))
    go_ret2
    exact ⟨rfl, Below.refl _ _⟩
  · have hne := text_ne0 ht
    obtain ⟨hn1, hn2, hn3⟩ := hne
    cases he : allB isD T 0
    · have hbd : badT s = true := by simp [badT, ← hT, he]
      rw [show pI s = none by simp [pI, hbd]]
      have HE := Lib.hid he
      clear hT hbd hzt he
      go_enter Tryd.func27, Tryd.ntmps27
      go_wp2_with (first | (go_at_call 41; (with_reducible refine (trim_at HT.out _).mono ?_); rintro e w' ⟨rfl, rfl⟩) | (go_at_call 42; (with_reducible refine (every_dig T (by simp only [maxLen]; omega) _).mono ?_); rintro e w' ⟨he, rfl⟩; rw [HE.out] at he; subst he))
      go_ret2
      exact ⟨rfl, Below.refl _ _⟩
    · have HE := Lib.hid he
      have hat := bat_at T 0
      have hlt0 : (0 : Int) < (T.size : Int) := by omega
      by_cases hz : bat T 0 = 48
      · have hzb : (bat T 0 == 48) = true := by simpa using hz
        have hzt2 := hzt hz ht
        by_cases h0 : s.toList = [48]
        · have h0b : (s.toList == [48]) = true := by simpa using h0
          have h0c : (s.toList != [48]) = false := by simp [h0]
          have hbd : badT s = false := by
            have h7 := hzt2.1 h0
            simp only [not_or, Bool.not_eq_true] at h7
            simp [badT, ← hT, he, ht, h7.1, h7.2]
          have HBD := Lib.hid hbd
          clear hT hzt hzt2 hbd he h0 hz
          cases hp : pI s with
          | none =>
            have HPI := Lib.hid hp
            clear hp
            go_enter Tryd.func27, Tryd.ntmps27
            go_wp2_with (first | (go_at_call 41; (with_reducible refine (trim_at HT.out _).mono ?_); rintro e w' ⟨rfl, rfl⟩) | (go_at_call 42; (with_reducible refine (every_dig T (by simp only [maxLen]; omega) _).mono ?_); rintro e w' ⟨he, rfl⟩; rw [HE.out] at he; subst he) | (go_at_call 44; (with_reducible refine (int_range HVR.out HBD.out HPI.out (by omega)).mono ?_); rintro e w1 ⟨xv, t, N, rfl, hb1⟩; have HB1 := Lib.hid hb1; clear hb1))
            go_ret2
            exact ⟨rfl, HB1.out⟩
          | some v =>
            have HPI := Lib.hid hp
            clear hp
            go_enter Tryd.func27, Tryd.ntmps27
            go_wp2_with (first | (go_at_call 41; (with_reducible refine (trim_at HT.out _).mono ?_); rintro e w' ⟨rfl, rfl⟩) | (go_at_call 42; (with_reducible refine (every_dig T (by simp only [maxLen]; omega) _).mono ?_); rintro e w' ⟨he, rfl⟩; rw [HE.out] at he; subst he) | (go_at_call 44; (with_reducible refine (int_ok HBD.out HPI.out (by omega) _).mono ?_); rintro e w1 ⟨rfl, hb1⟩; have HB1 := Lib.hid hb1; clear hb1))
            go_ret2
            exact ⟨rfl, HB1.out⟩
        · have h0b : (s.toList == [48]) = false := by simpa using h0
          have h0c : (s.toList != [48]) = true := by simpa using h0
          have hbd : badT s = true := by
            have h7 : (1 < T.size) ∨ negB s = true := Decidable.byContradiction fun h => h0 (hzt2.2 h)
            rcases h7 with h7 | h7 <;> simp [badT, ← hT, h7, hz]
          rw [show pI s = none by simp [pI, hbd]]
          clear hT hzt hzt2 hbd he hz
          go_enter Tryd.func27, Tryd.ntmps27
          go_wp2_with (first | (go_at_call 41; (with_reducible refine (trim_at HT.out _).mono ?_); rintro e w' ⟨rfl, rfl⟩) | (go_at_call 42; (with_reducible refine (every_dig T (by simp only [maxLen]; omega) _).mono ?_); rintro e w' ⟨he, rfl⟩; rw [HE.out] at he; subst he))
          go_ret2
          exact ⟨rfl, Below.refl _ _⟩
      · have hzb : (bat T 0 == 48) = false := by simpa using hz
        have hbd : badT s = false := by simp [badT, ← hT, he, ht, hz]
        have HBD := Lib.hid hbd
        clear hT hzt hbd he
        cases hp : pI s with
        | none =>
          have HPI := Lib.hid hp
          clear hp
          go_enter Tryd.func27, Tryd.ntmps27
          go_wp2_with (first | (go_at_call 41; (with_reducible refine (trim_at HT.out _).mono ?_); rintro e w' ⟨rfl, rfl⟩) | (go_at_call 42; (with_reducible refine (every_dig T (by simp only [maxLen]; omega) _).mono ?_); rintro e w' ⟨he, rfl⟩; rw [HE.out] at he; subst he) | (go_at_call 44; (with_reducible refine (int_range HVR.out HBD.out HPI.out (by omega)).mono ?_); rintro e w1 ⟨xv, t, N, rfl, hb1⟩; have HB1 := Lib.hid hb1; clear hb1))
          go_ret2
          exact ⟨rfl, HB1.out⟩
        | some v =>
          have HPI := Lib.hid hp
          clear hp
          go_enter Tryd.func27, Tryd.ntmps27
          go_wp2_with (first | (go_at_call 41; (with_reducible refine (trim_at HT.out _).mono ?_); rintro e w' ⟨rfl, rfl⟩) | (go_at_call 42; (with_reducible refine (every_dig T (by simp only [maxLen]; omega) _).mono ?_); rintro e w' ⟨he, rfl⟩; rw [HE.out] at he; subst he) | (go_at_call 44; (with_reducible refine (int_ok HBD.out HPI.out (by omega) _).mono ?_); rintro e w1 ⟨rfl, hb1⟩; have HB1 := Lib.hid hb1; clear hb1))
          go_ret2
          exact ⟨rfl, HB1.out⟩
end Go.Proofs.YtjpabigjmimogaaDoor
