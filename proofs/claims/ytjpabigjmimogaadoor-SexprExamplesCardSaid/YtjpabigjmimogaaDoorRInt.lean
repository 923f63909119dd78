/- telref1.ParseInt. -/
import Derived.Test.YtjpabigjmimogaaDoorPint
import Derived.Test.YtjpabigjmimogaaDoorRChars
set_option linter.unusedVariables false
set_option linter.unusedSimpArgs false
namespace Go.Proofs.YtjpabigjmimogaaDoor
open Go.RowKit

theorem neg_cases (s : ByteArray) : (negB s = true ∧ 0 < s.size ∧ bat s 0 = 45 ∧ s.extract 1 s.size = tS s) ∨ (negB s = false ∧ tS s = s ∧ (s.size = 0 ∨ bat s 0 ≠ 45)) := by
  have e2 : s.data.toList.length = s.size := by simp
  rcases cases_text s with ⟨hn, r, h1, h2⟩ | ⟨hn, h1, h2⟩
  · have h0 : 0 < s.size := by rw [h1] at e2; simp at e2; omega
    refine .inl ⟨hn, h0, ?_, ?_⟩
    · exact bat_list (s := s) (j := 0) (c := 45) (by rw [h1]; rfl)
    · refine ByteArray.ext ?_
      apply Array.toList_inj.1
      rw [h2]
      have h4 : (s.extract 1 s.size).data.toList = (s.data.toList.drop 1).take (s.size - 1) := by
        rw [ByteArray.data_extract]
        simp [Array.toList_extract]
      rw [h4, h1]
      rw [h1] at e2
      simp only [List.length_cons] at e2
      simp only [List.drop_succ_cons, List.drop_zero]
      exact List.take_of_length_le (by omega)
  · refine .inr ⟨hn, h1, ?_⟩
    cases hs : s.data.toList with
    | nil => left; rw [hs] at e2; simpa using e2.symm
    | cons c r =>
      right
      have h5 := bat_list (s := s) (j := 0) (c := c) (by rw [hs]; rfl)
      have h6 := h2 r c hs
      rw [h5]
      omega
theorem long_none {s : ByteArray} (h : 19 < (tS s).size) : pI s = none := by
  rw [pI]
  split
  · rfl
  · rename_i hb
    have hb' : badT s = false := by simpa using hb
    obtain ⟨hd, hne, c, r, hcr, hc1, hc2⟩ := tS_digits hb'
    have hz : ¬ bat (tS s) 0 = 48 := by
      intro e
      simp [badT, e] at hb'
      omega
    have hb0 := bat_list (s := tS s) (j := 0) (c := c) (by rw [hcr]; rfl)
    have hlen : (tS s).data.toList.length = (tS s).size := by simp
    have hu : 10000000000000000000 ≤ uS s := by
      rw [uS, hcr, valB_cons]
      rw [hcr] at hlen
      simp at hlen
      have h4 := valB_low r (0 * 10 + (c.toNat - 48))
      have h5 : 10 ^ 19 ≤ 10 ^ r.length := Nat.pow_le_pow_right (by omega) (by omega)
      have h6 : 1 * 10 ^ r.length ≤ (0 * 10 + (c.toNat - 48)) * 10 ^ r.length := Nat.mul_le_mul_right _ (by omega)
      omega
    split
    · rw [if_neg (by omega)]
    · rw [if_neg (by omega)]
theorem val_take (T : ByteArray) (i : Nat) (hi : i < T.size) (hd : 48 ≤ bat T i) : valB 0 (T.data.toList.take (i + 1)) = 10 * valB 0 (T.data.toList.take i) + (bat T i - 48).toNat := by
  have hl : i < T.data.toList.length := by simpa using hi
  rw [List.take_add_one, List.getElem?_eq_getElem hl, Option.toList_some, valB_append, valB_cons, valB_nil, bat_list (List.getElem?_eq_getElem hl)]
  omega
theorem neg_wrap {V : Nat} (h : V ≤ 9223372036854775808) : IntKind.i64.wrap (IntKind.u64.wrap (-(V : Int))) = -(V : Int) := by
  have h2 : (V : Int) ≤ 9223372036854775808 := by omega
  simp only [IntKind.wrap, IntKind.bits, IntKind.signed, Bool.false_and, Bool.true_and, Bool.false_eq_true, if_false, decide_eq_true_eq]
  split <;> omega

set_option maxRecDepth 100000 in
set_option maxHeartbeats 8000000 in
theorem rparseInt_any (s : ByteArray) (hs : s.size ≤ 140737488355328) (w : World) :
    Calls Tryd.prog 28 #[.string s] w fun e w' => e = .returned (.tuple #[.int .i64 ((pI s).getD 0), .bool (pI s).isSome]) ∧ w = w' := by
  rcases neg_cases s with ⟨hn, h0, h45, hex⟩ | ⟨hn, hex, h45⟩
  · have HN := Lib.hid hn
    have h0I : (0 : Int) < (s.size : Int) := by omega
    have hat := bat_at s 0
    have h45b : (bat s 0 == 45) = true := by simpa using h45
    obtain ⟨T, hT⟩ : ∃ T, T = tS s := ⟨_, rfl⟩
    rw [← hT] at hex
    have HT := Lib.hid hT
    have hTl : T.size ≤ s.size := by rw [← hex]; simp
    clear hn h45
    by_cases ht : T.size < 1
    · have htI : (T.size : Int) < 1 := by omega
      rw [show pI s = none from by simp [pI, badT, ← hT, show T.size = 0 by omega]]
      clear hT
      go_enter Tryd.func28, Tryd.ntmps28
      go_wp2_with fail
      go_ret2
      exact ⟨rfl, rfl⟩
    · have htI : ¬ (T.size : Int) < 1 := by omega
      by_cases h19 : 19 < T.size
      · have h19I : (19 : Int) < (T.size : Int) := by omega
        rw [show pI s = none from long_none (by rw [← hT]; exact h19)]
        clear hT
        go_enter Tryd.func28, Tryd.ntmps28
        go_wp2_with fail
        go_ret2
        exact ⟨rfl, rfl⟩
      · have h19I : ¬ (19 : Int) < (T.size : Int) := by omega
        have hatT := bat_at T 0
        have htp : (0 : Int) < (T.size : Int) := by omega
        obtain ⟨R, hR⟩ : ∃ R, R = pI s := ⟨_, rfl⟩
        have HRT := Lib.hid hR
        by_cases h1 : 1 < T.size
        · have h1I : (1 : Int) < (T.size : Int) := by omega
          by_cases hz : bat T 0 = 48
          · have hzb : (bat T 0 == 48) = true := by simpa using hz
            rw [show pI s = none from by simp [pI, badT, ← hT, hz, h1]]
            clear hT hz hR
            go_enter Tryd.func28, Tryd.ntmps28
            go_wp2_with fail
            go_ret2
            exact ⟨rfl, rfl⟩
          · have hzb : (bat T 0 == 48) = false := by simpa using hz
            have hzl : Hid ((bat T 0 == 48 && (decide (1 < T.size) || negB s)) = false) := Lib.hid (by rw [hzb]; rfl)
            rw [← hR]
            clear hR hz hT
            go_enter Tryd.func28, Tryd.ntmps28
            go_wp2_with fail
            go_loopg [6, 7] T.size (fun q nv iv wr => ∃ (i V : Nat), nv = .int .u64 (V : Int) ∧ iv = .int .i64 (i : Int) ∧ Hid (i ≤ T.size ∧ q = T.size - i ∧ V = valB 0 (T.data.toList.take i) ∧ V < 10 ^ i ∧ allB isD T 0 = allB isD T i ∧ w = wr))
            case atStart => exact ⟨0, 0, rfl, rfl, Nat.zero_le _, rfl, rfl, by simp, rfl, rfl⟩
            case round =>
              obtain ⟨i, V, rfl, rfl, HH⟩ := hrel
              obtain ⟨q1, q2, q3, q4, q5, rfl⟩ := HH.out
              have HQ := Lib.hid q2
              have HVA := Lib.hid q3
              have HVB := Lib.hid q4
              have HA := Lib.hid q5
              have hV0 : (0 : Int) ≤ (V : Int) := by omega
              clear HH q2 q3 q4 q5
              by_cases hlt : i < T.size
              · have hV1 : V < 1000000000000000000 := Nat.lt_of_lt_of_le HVB.out (Nat.pow_le_pow_right (n := 10) (by omega) (show i ≤ 18 by omega))
                have hVI : (V : Int) < 1000000000000000000 := by omega
                have hi' : (i : Int) < (T.size : Int) := by omega
                have hi0 : (0 : Int) ≤ (i : Int) := by omega
                have hat := bat_at T i
                have HST := Lib.hid (allB_step isD T i hlt)
                cases hv : isD (bat T i)
                · have HV := Lib.hid hv
                  clear hv
                  have hpi : pI s = none := by
                    have h1 := HA.out
                    rw [HST.out, HV.out] at h1
                    simp [pI, badT, ← HT.out, h1]
                  have HPI := Lib.hid (HRT.out.trans hpi)
                  clear hpi
                  go_wp2_with (go_at_call 45; (with_reducible refine (risDigit_any _ _).mono ?_); rintro e w' ⟨he, rfl⟩; rw [HV.out] at he; subst he)
                  go_ret2
                  exact ⟨by rw [HPI.out]; rfl, rfl⟩
                · have HV := Lib.hid hv
                  have hd : 48 ≤ bat T i ∧ bat T i ≤ 57 := by simpa [isD] using hv
                  obtain ⟨hd1, hd2⟩ := hd
                  clear hv
                  go_wp2_with (go_at_call 45; (with_reducible refine (risDigit_any _ _).mono ?_); rintro e w' ⟨he, rfl⟩; rw [HV.out] at he; subst he)
                  go_roundg (T.size - (i + 1))
                  case measure => have := HQ.out; omega
                  case rel =>
                    have hsn := val_take T i hlt hd1
                    rw [← HVA.out] at hsn
                    refine ⟨i + 1, valB 0 (T.data.toList.take (i + 1)), ?_, by simp, by omega, rfl, rfl, ?_, by rw [HA.out, HST.out, HV.out]; rfl, rfl⟩
                    · rw [hsn]; congr 1; omega
                    · have := HVB.out; rw [Nat.pow_succ]; omega
              · obtain rfl : i = T.size := by omega
                have hdd : decide ((T.size : Int) < (T.size : Int)) = false := by simp
                have hV1 : V < 10000000000000000000 := Nat.lt_of_lt_of_le HVB.out (Nat.pow_le_pow_right (n := 10) (by omega) (show T.size ≤ 19 by omega))
                have hVI : (V : Int) < 10000000000000000000 := by omega
                have hbd : badT s = false := by
                  have h1 := HA.out
                  rw [allB_end] at h1
                  have h2 := hzl.out
                  have h3 : ¬ T.size = 0 := by omega
                  rw [badT, ← HT.out, h1, h2]
                  simp [h3]
                have hVu : V = uS s := by
                  have h1 := HVA.out
                  have h2 : T.data.toList.take T.size = T.data.toList := List.take_of_length_le (by simp)
                  rw [h2] at h1
                  rw [h1, uS, ← HT.out]
                by_cases hu : V ≤ 9223372036854775808
                · have huI : (V : Int) ≤ 9223372036854775808 := by omega
                  have hpi : pI s = some (-(V : Int)) := by rw [pI, hbd, HN.out, ← hVu, if_pos hu]; rfl
                  have hw2 := neg_wrap hu
                  have HPI := Lib.hid (HRT.out.trans hpi)
                  clear hbd hVu hpi
                  go_wp2_with fail
                  go_ret2
                  exact ⟨by rw [HPI.out]; rfl, rfl⟩
                · have huI : ¬ (V : Int) ≤ 9223372036854775808 := by omega
                  have hpi : pI s = none := by rw [pI, hbd, HN.out, ← hVu, if_neg hu]; rfl
                  have HPI := Lib.hid (HRT.out.trans hpi)
                  clear hbd hVu hpi
                  go_wp2_with fail
                  go_ret2
                  exact ⟨by rw [HPI.out]; rfl, rfl⟩
        · have h1I : ¬ (1 : Int) < (T.size : Int) := by omega
          by_cases hz : bat T 0 = 48
          · have hzb : (bat T 0 == 48) = true := by simpa using hz
            rw [show pI s = none from by simp [pI, badT, ← hT, hz, HN.out]]
            clear hT hz hR
            go_enter Tryd.func28, Tryd.ntmps28
            go_wp2_with fail
            go_ret2
            exact ⟨rfl, rfl⟩
          · have hzb : (bat T 0 == 48) = false := by simpa using hz
            have hzl : Hid ((bat T 0 == 48 && (decide (1 < T.size) || negB s)) = false) := Lib.hid (by rw [hzb]; rfl)
            rw [← hR]
            clear hR hz hT
            go_enter Tryd.func28, Tryd.ntmps28
            go_wp2_with fail
            go_loopg [6, 7] T.size (fun q nv iv wr => ∃ (i V : Nat), nv = .int .u64 (V : Int) ∧ iv = .int .i64 (i : Int) ∧ Hid (i ≤ T.size ∧ q = T.size - i ∧ V = valB 0 (T.data.toList.take i) ∧ V < 10 ^ i ∧ allB isD T 0 = allB isD T i ∧ w = wr))
            case atStart => exact ⟨0, 0, rfl, rfl, Nat.zero_le _, rfl, rfl, by simp, rfl, rfl⟩
            case round =>
              obtain ⟨i, V, rfl, rfl, HH⟩ := hrel
              obtain ⟨q1, q2, q3, q4, q5, rfl⟩ := HH.out
              have HQ := Lib.hid q2
              have HVA := Lib.hid q3
              have HVB := Lib.hid q4
              have HA := Lib.hid q5
              have hV0 : (0 : Int) ≤ (V : Int) := by omega
              clear HH q2 q3 q4 q5
              by_cases hlt : i < T.size
              · have hV1 : V < 1000000000000000000 := Nat.lt_of_lt_of_le HVB.out (Nat.pow_le_pow_right (n := 10) (by omega) (show i ≤ 18 by omega))
                have hVI : (V : Int) < 1000000000000000000 := by omega
                have hi' : (i : Int) < (T.size : Int) := by omega
                have hi0 : (0 : Int) ≤ (i : Int) := by omega
                have hat := bat_at T i
                have HST := Lib.hid (allB_step isD T i hlt)
                cases hv : isD (bat T i)
                · have HV := Lib.hid hv
                  clear hv
                  have hpi : pI s = none := by
                    have h1 := HA.out
                    rw [HST.out, HV.out] at h1
                    simp [pI, badT, ← HT.out, h1]
                  have HPI := Lib.hid (HRT.out.trans hpi)
                  clear hpi
                  go_wp2_with (go_at_call 45; (with_reducible refine (risDigit_any _ _).mono ?_); rintro e w' ⟨he, rfl⟩; rw [HV.out] at he; subst he)
                  go_ret2
                  exact ⟨by rw [HPI.out]; rfl, rfl⟩
                · have HV := Lib.hid hv
                  have hd : 48 ≤ bat T i ∧ bat T i ≤ 57 := by simpa [isD] using hv
                  obtain ⟨hd1, hd2⟩ := hd
                  clear hv
                  go_wp2_with (go_at_call 45; (with_reducible refine (risDigit_any _ _).mono ?_); rintro e w' ⟨he, rfl⟩; rw [HV.out] at he; subst he)
                  go_roundg (T.size - (i + 1))
                  case measure => have := HQ.out; omega
                  case rel =>
                    have hsn := val_take T i hlt hd1
                    rw [← HVA.out] at hsn
                    refine ⟨i + 1, valB 0 (T.data.toList.take (i + 1)), ?_, by simp, by omega, rfl, rfl, ?_, by rw [HA.out, HST.out, HV.out]; rfl, rfl⟩
                    · rw [hsn]; congr 1; omega
                    · have := HVB.out; rw [Nat.pow_succ]; omega
              · obtain rfl : i = T.size := by omega
                have hdd : decide ((T.size : Int) < (T.size : Int)) = false := by simp
                have hV1 : V < 10000000000000000000 := Nat.lt_of_lt_of_le HVB.out (Nat.pow_le_pow_right (n := 10) (by omega) (show T.size ≤ 19 by omega))
                have hVI : (V : Int) < 10000000000000000000 := by omega
                have hbd : badT s = false := by
                  have h1 := HA.out
                  rw [allB_end] at h1
                  have h2 := hzl.out
                  have h3 : ¬ T.size = 0 := by omega
                  rw [badT, ← HT.out, h1, h2]
                  simp [h3]
                have hVu : V = uS s := by
                  have h1 := HVA.out
                  have h2 : T.data.toList.take T.size = T.data.toList := List.take_of_length_le (by simp)
                  rw [h2] at h1
                  rw [h1, uS, ← HT.out]
                by_cases hu : V ≤ 9223372036854775808
                · have huI : (V : Int) ≤ 9223372036854775808 := by omega
                  have hpi : pI s = some (-(V : Int)) := by rw [pI, hbd, HN.out, ← hVu, if_pos hu]; rfl
                  have hw2 := neg_wrap hu
                  have HPI := Lib.hid (HRT.out.trans hpi)
                  clear hbd hVu hpi
                  go_wp2_with fail
                  go_ret2
                  exact ⟨by rw [HPI.out]; rfl, rfl⟩
                · have huI : ¬ (V : Int) ≤ 9223372036854775808 := by omega
                  have hpi : pI s = none := by rw [pI, hbd, HN.out, ← hVu, if_neg hu]; rfl
                  have HPI := Lib.hid (HRT.out.trans hpi)
                  clear hbd hVu hpi
                  go_wp2_with fail
                  go_ret2
                  exact ⟨by rw [HPI.out]; rfl, rfl⟩
  · have HN := Lib.hid hn
    have hT : s = tS s := hex.symm
    have HT := Lib.hid hT
    have hsplit : (¬ (0 : Int) < (s.size : Int)) ∨ ((0 : Int) < (s.size : Int) ∧ (bat s 0 == 45) = false) := by
      rcases h45 with h | h
      · left; omega
      · by_cases h1 : 0 < s.size
        · right; exact ⟨by omega, by simpa using h⟩
        · left; omega
    have hat := bat_at s 0
    clear hn hex h45
    rcases hsplit with h0I | ⟨h0I, h45b⟩
    · have ht : s.size < 1 := by omega
      have htI : (s.size : Int) < 1 := by omega
      rw [show pI s = none from by simp [pI, badT, ← hT, show s.size = 0 by omega]]
      clear hT
      go_enter Tryd.func28, Tryd.ntmps28
      go_wp2_with fail
      go_ret2
      exact ⟨rfl, rfl⟩
    · by_cases ht : s.size < 1
      · exfalso; omega
      · have htI : ¬ (s.size : Int) < 1 := by omega
        by_cases h19 : 19 < s.size
        · have h19I : (19 : Int) < (s.size : Int) := by omega
          rw [show pI s = none from long_none (by rw [← hT]; exact h19)]
          clear hT
          go_enter Tryd.func28, Tryd.ntmps28
          go_wp2_with fail
          go_ret2
          exact ⟨rfl, rfl⟩
        · have h19I : ¬ (19 : Int) < (s.size : Int) := by omega
          have hatT := bat_at s 0
          have htp : (0 : Int) < (s.size : Int) := by omega
          obtain ⟨R, hR⟩ : ∃ R, R = pI s := ⟨_, rfl⟩
          have HRT := Lib.hid hR
          by_cases h1 : 1 < s.size
          · have h1I : (1 : Int) < (s.size : Int) := by omega
            by_cases hz : bat s 0 = 48
            · have hzb : (bat s 0 == 48) = true := by simpa using hz
              rw [show pI s = none from by simp [pI, badT, ← hT, hz, h1]]
              clear hT hz hR
              go_enter Tryd.func28, Tryd.ntmps28
              go_wp2_with fail
              go_ret2
              exact ⟨rfl, rfl⟩
            · have hzb : (bat s 0 == 48) = false := by simpa using hz
              have hzl : Hid ((bat s 0 == 48 && (decide (1 < s.size) || negB s)) = false) := Lib.hid (by rw [hzb]; rfl)
              rw [← hR]
              clear hR hz hT
              go_enter Tryd.func28, Tryd.ntmps28
              go_wp2_with fail
              go_loopg [6, 7] s.size (fun q nv iv wr => ∃ (i V : Nat), nv = .int .u64 (V : Int) ∧ iv = .int .i64 (i : Int) ∧ Hid (i ≤ s.size ∧ q = s.size - i ∧ V = valB 0 (s.data.toList.take i) ∧ V < 10 ^ i ∧ allB isD s 0 = allB isD s i ∧ w = wr))
              case atStart => exact ⟨0, 0, rfl, rfl, Nat.zero_le _, rfl, rfl, by simp, rfl, rfl⟩
              case round =>
                obtain ⟨i, V, rfl, rfl, HH⟩ := hrel
                obtain ⟨q1, q2, q3, q4, q5, rfl⟩ := HH.out
                have HQ := Lib.hid q2
                have HVA := Lib.hid q3
                have HVB := Lib.hid q4
                have HA := Lib.hid q5
                have hV0 : (0 : Int) ≤ (V : Int) := by omega
                clear HH q2 q3 q4 q5
                by_cases hlt : i < s.size
                · have hV1 : V < 1000000000000000000 := Nat.lt_of_lt_of_le HVB.out (Nat.pow_le_pow_right (n := 10) (by omega) (show i ≤ 18 by omega))
                  have hVI : (V : Int) < 1000000000000000000 := by omega
                  have hi' : (i : Int) < (s.size : Int) := by omega
                  have hi0 : (0 : Int) ≤ (i : Int) := by omega
                  have hat := bat_at s i
                  have HST := Lib.hid (allB_step isD s i hlt)
                  cases hv : isD (bat s i)
                  · have HV := Lib.hid hv
                    clear hv
                    have hpi : pI s = none := by
                      have h1 := HA.out
                      rw [HST.out, HV.out] at h1
                      simp [pI, badT, ← HT.out, h1]
                    have HPI := Lib.hid (HRT.out.trans hpi)
                    clear hpi
                    go_wp2_with (go_at_call 45; (with_reducible refine (risDigit_any _ _).mono ?_); rintro e w' ⟨he, rfl⟩; rw [HV.out] at he; subst he)
                    go_ret2
                    exact ⟨by rw [HPI.out]; rfl, rfl⟩
                  · have HV := Lib.hid hv
                    have hd : 48 ≤ bat s i ∧ bat s i ≤ 57 := by simpa [isD] using hv
                    obtain ⟨hd1, hd2⟩ := hd
                    clear hv
                    go_wp2_with (go_at_call 45; (with_reducible refine (risDigit_any _ _).mono ?_); rintro e w' ⟨he, rfl⟩; rw [HV.out] at he; subst he)
                    go_roundg (s.size - (i + 1))
                    case measure => have := HQ.out; omega
                    case rel =>
                      have hsn := val_take s i hlt hd1
                      rw [← HVA.out] at hsn
                      refine ⟨i + 1, valB 0 (s.data.toList.take (i + 1)), ?_, by simp, by omega, rfl, rfl, ?_, by rw [HA.out, HST.out, HV.out]; rfl, rfl⟩
                      · rw [hsn]; congr 1; omega
                      · have := HVB.out; rw [Nat.pow_succ]; omega
                · obtain rfl : i = s.size := by omega
                  have hdd : decide ((s.size : Int) < (s.size : Int)) = false := by simp
                  have hV1 : V < 10000000000000000000 := Nat.lt_of_lt_of_le HVB.out (Nat.pow_le_pow_right (n := 10) (by omega) (show s.size ≤ 19 by omega))
                  have hVI : (V : Int) < 10000000000000000000 := by omega
                  have hbd : badT s = false := by
                    have h1 := HA.out
                    rw [allB_end] at h1
                    have h2 := hzl.out
                    have h3 : ¬ s.size = 0 := by omega
                    rw [badT, ← HT.out, h1, h2]
                    simp [h3]
                  have hVu : V = uS s := by
                    have h1 := HVA.out
                    have h2 : s.data.toList.take s.size = s.data.toList := List.take_of_length_le (by simp)
                    rw [h2] at h1
                    rw [h1, uS, ← HT.out]
                  by_cases hu : V < 9223372036854775808
                  · have huI : (V : Int) < 9223372036854775808 := by omega
                    have hpi : pI s = some (V : Int) := by rw [pI, hbd, HN.out, ← hVu, if_neg (by simp), if_neg (by simp), if_pos hu]
                    have HPI := Lib.hid (HRT.out.trans hpi)
                    clear hbd hVu hpi
                    go_wp2_with fail
                    go_ret2
                    exact ⟨by rw [HPI.out]; rfl, rfl⟩
                  · have huI : ¬ (V : Int) < 9223372036854775808 := by omega
                    have hpi : pI s = none := by rw [pI, hbd, HN.out, ← hVu, if_neg (by simp), if_neg (by simp), if_neg hu]
                    have HPI := Lib.hid (HRT.out.trans hpi)
                    clear hbd hVu hpi
                    go_wp2_with fail
                    go_ret2
                    exact ⟨by rw [HPI.out]; rfl, rfl⟩
          · have h1I : ¬ (1 : Int) < (s.size : Int) := by omega
            by_cases hz : bat s 0 = 48
            · have hzb : (bat s 0 == 48) = true := by simpa using hz
              have hzl : Hid ((bat s 0 == 48 && (decide (1 < s.size) || negB s)) = false) := Lib.hid (by rw [HN.out]; simp [h1])
              rw [← hR]
              clear hR hz hT
              go_enter Tryd.func28, Tryd.ntmps28
              go_wp2_with fail
              go_loopg [6, 7] s.size (fun q nv iv wr => ∃ (i V : Nat), nv = .int .u64 (V : Int) ∧ iv = .int .i64 (i : Int) ∧ Hid (i ≤ s.size ∧ q = s.size - i ∧ V = valB 0 (s.data.toList.take i) ∧ V < 10 ^ i ∧ allB isD s 0 = allB isD s i ∧ w = wr))
              case atStart => exact ⟨0, 0, rfl, rfl, Nat.zero_le _, rfl, rfl, by simp, rfl, rfl⟩
              case round =>
                obtain ⟨i, V, rfl, rfl, HH⟩ := hrel
                obtain ⟨q1, q2, q3, q4, q5, rfl⟩ := HH.out
                have HQ := Lib.hid q2
                have HVA := Lib.hid q3
                have HVB := Lib.hid q4
                have HA := Lib.hid q5
                have hV0 : (0 : Int) ≤ (V : Int) := by omega
                clear HH q2 q3 q4 q5
                by_cases hlt : i < s.size
                · have hV1 : V < 1000000000000000000 := Nat.lt_of_lt_of_le HVB.out (Nat.pow_le_pow_right (n := 10) (by omega) (show i ≤ 18 by omega))
                  have hVI : (V : Int) < 1000000000000000000 := by omega
                  have hi' : (i : Int) < (s.size : Int) := by omega
                  have hi0 : (0 : Int) ≤ (i : Int) := by omega
                  have hat := bat_at s i
                  have HST := Lib.hid (allB_step isD s i hlt)
                  cases hv : isD (bat s i)
                  · have HV := Lib.hid hv
                    clear hv
                    have hpi : pI s = none := by
                      have h1 := HA.out
                      rw [HST.out, HV.out] at h1
                      simp [pI, badT, ← HT.out, h1]
                    have HPI := Lib.hid (HRT.out.trans hpi)
                    clear hpi
                    go_wp2_with (go_at_call 45; (with_reducible refine (risDigit_any _ _).mono ?_); rintro e w' ⟨he, rfl⟩; rw [HV.out] at he; subst he)
                    go_ret2
                    exact ⟨by rw [HPI.out]; rfl, rfl⟩
                  · have HV := Lib.hid hv
                    have hd : 48 ≤ bat s i ∧ bat s i ≤ 57 := by simpa [isD] using hv
                    obtain ⟨hd1, hd2⟩ := hd
                    clear hv
                    go_wp2_with (go_at_call 45; (with_reducible refine (risDigit_any _ _).mono ?_); rintro e w' ⟨he, rfl⟩; rw [HV.out] at he; subst he)
                    go_roundg (s.size - (i + 1))
                    case measure => have := HQ.out; omega
                    case rel =>
                      have hsn := val_take s i hlt hd1
                      rw [← HVA.out] at hsn
                      refine ⟨i + 1, valB 0 (s.data.toList.take (i + 1)), ?_, by simp, by omega, rfl, rfl, ?_, by rw [HA.out, HST.out, HV.out]; rfl, rfl⟩
                      · rw [hsn]; congr 1; omega
                      · have := HVB.out; rw [Nat.pow_succ]; omega
                · obtain rfl : i = s.size := by omega
                  have hdd : decide ((s.size : Int) < (s.size : Int)) = false := by simp
                  have hV1 : V < 10000000000000000000 := Nat.lt_of_lt_of_le HVB.out (Nat.pow_le_pow_right (n := 10) (by omega) (show s.size ≤ 19 by omega))
                  have hVI : (V : Int) < 10000000000000000000 := by omega
                  have hbd : badT s = false := by
                    have h1 := HA.out
                    rw [allB_end] at h1
                    have h2 := hzl.out
                    have h3 : ¬ s.size = 0 := by omega
                    rw [badT, ← HT.out, h1, h2]
                    simp [h3]
                  have hVu : V = uS s := by
                    have h1 := HVA.out
                    have h2 : s.data.toList.take s.size = s.data.toList := List.take_of_length_le (by simp)
                    rw [h2] at h1
                    rw [h1, uS, ← HT.out]
                  by_cases hu : V < 9223372036854775808
                  · have huI : (V : Int) < 9223372036854775808 := by omega
                    have hpi : pI s = some (V : Int) := by rw [pI, hbd, HN.out, ← hVu, if_neg (by simp), if_neg (by simp), if_pos hu]
                    have HPI := Lib.hid (HRT.out.trans hpi)
                    clear hbd hVu hpi
                    go_wp2_with fail
                    go_ret2
                    exact ⟨by rw [HPI.out]; rfl, rfl⟩
                  · have huI : ¬ (V : Int) < 9223372036854775808 := by omega
                    have hpi : pI s = none := by rw [pI, hbd, HN.out, ← hVu, if_neg (by simp), if_neg (by simp), if_neg hu]
                    have HPI := Lib.hid (HRT.out.trans hpi)
                    clear hbd hVu hpi
                    go_wp2_with fail
                    go_ret2
                    exact ⟨by rw [HPI.out]; rfl, rfl⟩
            · have hzb : (bat s 0 == 48) = false := by simpa using hz
              have hzl : Hid ((bat s 0 == 48 && (decide (1 < s.size) || negB s)) = false) := Lib.hid (by rw [hzb]; rfl)
              rw [← hR]
              clear hR hz hT
              go_enter Tryd.func28, Tryd.ntmps28
              go_wp2_with fail
              go_loopg [6, 7] s.size (fun q nv iv wr => ∃ (i V : Nat), nv = .int .u64 (V : Int) ∧ iv = .int .i64 (i : Int) ∧ Hid (i ≤ s.size ∧ q = s.size - i ∧ V = valB 0 (s.data.toList.take i) ∧ V < 10 ^ i ∧ allB isD s 0 = allB isD s i ∧ w = wr))
              case atStart => exact ⟨0, 0, rfl, rfl, Nat.zero_le _, rfl, rfl, by simp, rfl, rfl⟩
              case round =>
                obtain ⟨i, V, rfl, rfl, HH⟩ := hrel
                obtain ⟨q1, q2, q3, q4, q5, rfl⟩ := HH.out
                have HQ := Lib.hid q2
                have HVA := Lib.hid q3
                have HVB := Lib.hid q4
                have HA := Lib.hid q5
                have hV0 : (0 : Int) ≤ (V : Int) := by omega
                clear HH q2 q3 q4 q5
                by_cases hlt : i < s.size
                · have hV1 : V < 1000000000000000000 := Nat.lt_of_lt_of_le HVB.out (Nat.pow_le_pow_right (n := 10) (by omega) (show i ≤ 18 by omega))
                  have hVI : (V : Int) < 1000000000000000000 := by omega
                  have hi' : (i : Int) < (s.size : Int) := by omega
                  have hi0 : (0 : Int) ≤ (i : Int) := by omega
                  have hat := bat_at s i
                  have HST := Lib.hid (allB_step isD s i hlt)
                  cases hv : isD (bat s i)
                  · have HV := Lib.hid hv
                    clear hv
                    have hpi : pI s = none := by
                      have h1 := HA.out
                      rw [HST.out, HV.out] at h1
                      simp [pI, badT, ← HT.out, h1]
                    have HPI := Lib.hid (HRT.out.trans hpi)
                    clear hpi
                    go_wp2_with (go_at_call 45; (with_reducible refine (risDigit_any _ _).mono ?_); rintro e w' ⟨he, rfl⟩; rw [HV.out] at he; subst he)
                    go_ret2
                    exact ⟨by rw [HPI.out]; rfl, rfl⟩
                  · have HV := Lib.hid hv
                    have hd : 48 ≤ bat s i ∧ bat s i ≤ 57 := by simpa [isD] using hv
                    obtain ⟨hd1, hd2⟩ := hd
                    clear hv
                    go_wp2_with (go_at_call 45; (with_reducible refine (risDigit_any _ _).mono ?_); rintro e w' ⟨he, rfl⟩; rw [HV.out] at he; subst he)
                    go_roundg (s.size - (i + 1))
                    case measure => have := HQ.out; omega
                    case rel =>
                      have hsn := val_take s i hlt hd1
                      rw [← HVA.out] at hsn
                      refine ⟨i + 1, valB 0 (s.data.toList.take (i + 1)), ?_, by simp, by omega, rfl, rfl, ?_, by rw [HA.out, HST.out, HV.out]; rfl, rfl⟩
                      · rw [hsn]; congr 1; omega
                      · have := HVB.out; rw [Nat.pow_succ]; omega
                · obtain rfl : i = s.size := by omega
                  have hdd : decide ((s.size : Int) < (s.size : Int)) = false := by simp
                  have hV1 : V < 10000000000000000000 := Nat.lt_of_lt_of_le HVB.out (Nat.pow_le_pow_right (n := 10) (by omega) (show s.size ≤ 19 by omega))
                  have hVI : (V : Int) < 10000000000000000000 := by omega
                  have hbd : badT s = false := by
                    have h1 := HA.out
                    rw [allB_end] at h1
                    have h2 := hzl.out
                    have h3 : ¬ s.size = 0 := by omega
                    rw [badT, ← HT.out, h1, h2]
                    simp [h3]
                  have hVu : V = uS s := by
                    have h1 := HVA.out
                    have h2 : s.data.toList.take s.size = s.data.toList := List.take_of_length_le (by simp)
                    rw [h2] at h1
                    rw [h1, uS, ← HT.out]
                  by_cases hu : V < 9223372036854775808
                  · have huI : (V : Int) < 9223372036854775808 := by omega
                    have hpi : pI s = some (V : Int) := by rw [pI, hbd, HN.out, ← hVu, if_neg (by simp), if_neg (by simp), if_pos hu]
                    have HPI := Lib.hid (HRT.out.trans hpi)
                    clear hbd hVu hpi
                    go_wp2_with fail
                    go_ret2
                    exact ⟨by rw [HPI.out]; rfl, rfl⟩
                  · have huI : ¬ (V : Int) < 9223372036854775808 := by omega
                    have hpi : pI s = none := by rw [pI, hbd, HN.out, ← hVu, if_neg (by simp), if_neg (by simp), if_neg hu]
                    have HPI := Lib.hid (HRT.out.trans hpi)
                    clear hbd hVu hpi
                    go_wp2_with fail
                    go_ret2
                    exact ⟨by rw [HPI.out]; rfl, rfl⟩
end Go.Proofs.YtjpabigjmimogaaDoor
