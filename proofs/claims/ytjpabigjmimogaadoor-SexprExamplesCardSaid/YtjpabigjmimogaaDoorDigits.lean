/- telref1.Digits, and what ParseInt makes of it. -/
import Derived.Test.YtjpabigjmimogaaDoorPint
import Derived.Test.YtjpabigjmimogaaDoorFmt
set_option linter.unusedVariables false
set_option linter.unusedSimpArgs false
namespace Go.Proofs.YtjpabigjmimogaaDoor
open Go.RowKit

/-- The decimal digits of u, of which there are at most k + 1. -/
def dF : Nat → Nat → List Int
  | 0, u => [48 + ((u % 10 : Nat) : Int)]
  | k + 1, u => if u < 10 then [48 + ((u % 10 : Nat) : Int)] else dF k (u / 10) ++ [48 + ((u % 10 : Nat) : Int)]
theorem dF_digit (k : Nat) : ∀ u, ∀ c ∈ dF k u, 48 ≤ c ∧ c ≤ 57 := by
  induction k with
  | zero => intro u c hc; simp [dF] at hc; omega
  | succ k ih =>
    intro u c hc
    unfold dF at hc
    split at hc
    · simp at hc; omega
    · rw [List.mem_append] at hc
      rcases hc with hc | hc
      · exact ih _ c hc
      · simp at hc; omega
theorem dF_len (k : Nat) : ∀ u, 1 ≤ (dF k u).length ∧ (dF k u).length ≤ k + 1 := by
  induction k with
  | zero => intro u; simp [dF]
  | succ k ih =>
    intro u
    unfold dF
    split
    · simp
    · have := ih (u / 10)
      simp
      omega
theorem strOf_list (L : List Int) : (strOfNums L).data.toList = L.map fun n => UInt8.ofNat n.toNat := by simp [strOfNums]
theorem byte_nat {c : Int} (h : 48 ≤ c ∧ c ≤ 57) : (UInt8.ofNat c.toNat).toNat = c.toNat := by
  simp only [UInt8.toNat_ofNat']
  omega
theorem dF_val (k : Nat) : ∀ u, u < 10 ^ (k + 1) → valB 0 ((dF k u).map fun n => UInt8.ofNat n.toNat) = u := by
  have one : ∀ u, u < 10 → valB 0 ([48 + ((u % 10 : Nat) : Int)].map fun n => UInt8.ofNat n.toNat) = u := by
    intro u hu
    simp only [List.map_cons, List.map_nil]
    rw [valB_cons, valB_nil, byte_nat (by omega)]
    omega
  induction k with
  | zero => intro u hu; exact one u (by simpa using hu)
  | succ k ih =>
    intro u hu
    unfold dF
    split
    · exact one u (by assumption)
    · have h1 := ih (u / 10) (by rw [Nat.pow_succ] at hu; omega)
      rw [List.map_append, valB_append, h1]
      simp only [List.map_cons, List.map_nil]
      rw [valB_cons, valB_nil, byte_nat (by omega)]
      omega
/-- The first digit is 0 for 0 alone. -/
theorem dF_head (k : Nat) : ∀ u, u < 10 ^ (k + 1) → ∃ c r, dF k u = c :: r ∧ (c = 48 → u = 0 ∧ r = []) := by
  have one : ∀ u, u < 10 → ∃ c r, [48 + ((u % 10 : Nat) : Int)] = c :: r ∧ (c = 48 → u = 0 ∧ r = []) := fun u hu => ⟨_, [], rfl, fun h => ⟨by omega, rfl⟩⟩
  induction k with
  | zero => intro u hu; exact one u (by simpa using hu)
  | succ k ih =>
    intro u hu
    unfold dF
    split
    · exact one u (by assumption)
    · obtain ⟨c, r, h1, h2⟩ := ih (u / 10) (by rw [Nat.pow_succ] at hu; omega)
      rw [h1]
      exact ⟨c, r ++ _, rfl, fun h => by have := h2 h; omega⟩
theorem own_one (w : World) (c : Int) : (w.alloc (.cells #[.int .u8 c] 5)).ownsRow w.heap.size 5 1 (.slice (some ⟨w.heap.size, 0, none⟩) 1 1) 1 (bytesV [c]) := by
  refine ⟨rfl, .inr ⟨w.heap.size, 1, #[.int .u8 c], rfl, Nat.le_refl _, heap_alloc_new w _, ?_⟩⟩
  exact ⟨Nat.le_refl _, by decide, rfl, rfl⟩
set_option maxRecDepth 100000 in
set_option maxHeartbeats 4000000 in
theorem udigits_any : ∀ (k u : Nat) (w : World), u < 10 ^ (k + 1) → u ≤ 18446744073709551615 → k ≤ 30 →
    Calls Tryd.prog 46 #[.int .u64 (u : Int)] w fun e w' => e = .returned (.string (strOfNums (dF k u))) ∧ Below w.heap.size w w' := by
  intro k
  induction k with
  | zero =>
    intro u w hu hu2 hk
    have hu9 : u < 10 := by simpa using hu
    have hu10 : (u : Int) < 10 := by omega
    have hu0 : (0 : Int) ≤ (u : Int) := by omega
    have hr : (u : Int).tmod 10 = ((u % 10 : Nat) : Int) := by rw [Int.tmod_eq_emod_of_nonneg hu0]; omega
    have hm : (u % 10 : Nat) < 10 := by omega
    obtain ⟨m, hme⟩ : ∃ m, m = u % 10 := ⟨_, rfl⟩
    rw [← hme] at hr hm
    have HM := Lib.hid hme
    have hcv := bytes_string (own_one w (48 + (m : Int)))
    clear hme
    go_enter Tryd.func46, Tryd.ntmps46
    go_wp2_with fail
    go_ret
    exact ⟨by rw [dF, ← HM.out]; rfl, (Below.refl _ _).alloc (Nat.le_refl _) _⟩
  | succ k ih =>
    intro u w hu hu2 hk
    by_cases hu9 : u < 10
    · skip
      have hu10 : (u : Int) < 10 := by omega
      have hu0 : (0 : Int) ≤ (u : Int) := by omega
      have hr : (u : Int).tmod 10 = ((u % 10 : Nat) : Int) := by rw [Int.tmod_eq_emod_of_nonneg hu0]; omega
      have hm : (u % 10 : Nat) < 10 := by omega
      obtain ⟨m, hme⟩ : ∃ m, m = u % 10 := ⟨_, rfl⟩
      rw [← hme] at hr hm
      have HM := Lib.hid hme
      have hcv := bytes_string (own_one w (48 + (m : Int)))
      clear hme
      go_enter Tryd.func46, Tryd.ntmps46
      go_wp2_with fail
      go_ret
      exact ⟨by rw [dF, if_pos hu9, ← HM.out]; rfl, (Below.refl _ _).alloc (Nat.le_refl _) _⟩
    · have hu10 : ¬ (u : Int) < 10 := by omega
      have hu0 : (0 : Int) ≤ (u : Int) := by omega
      have hr : (u : Int).tmod 10 = ((u % 10 : Nat) : Int) := by rw [Int.tmod_eq_emod_of_nonneg hu0]; omega
      have hq : (u : Int).tdiv 10 = ((u / 10 : Nat) : Int) := by rw [Int.tdiv_eq_ediv_of_nonneg hu0]; omega
      have hm : (u % 10 : Nat) < 10 := by omega
      have hq1 : u / 10 < 10 ^ (k + 1) := by rw [Nat.pow_succ] at hu; omega
      have hq2 : u / 10 ≤ 18446744073709551615 := by omega
      have hdf : dF (k + 1) u = dF k (u / 10) ++ [48 + ((u % 10 : Nat) : Int)] := by rw [dF, if_neg hu9]
      obtain ⟨m, hme⟩ : ∃ m, m = u % 10 := ⟨_, rfl⟩
      obtain ⟨q, hqe⟩ : ∃ q, q = u / 10 := ⟨_, rfl⟩
      rw [← hme] at hr hm hdf
      rw [← hqe] at hq hq1 hq2 hdf
      have hq2I : (q : Int) ≤ 18446744073709551615 := by omega
      have hlen := (dF_len k q).2
      have hadd : ∀ W, (Op.stringOp .add (strOfNums (dF k q)) (strOfNums [48 + (m : Int)])).run Tryd.prog W = .ok (.string (strOfNums (dF (k + 1) u))) W := fun W => add_run Tryd.prog _ _ _ hdf (by rw [hdf]; simp; omega) W
      have hcv := bytes_string (own_one w (48 + (m : Int)))
      have IH := Lib.hid ih
      have HQ1 := Lib.hid hq1
      have HDF := Lib.hid hdf
      obtain ⟨S1, hS1⟩ : ∃ S1, S1 = strOfNums (dF k q) := ⟨_, rfl⟩
      obtain ⟨S2, hS2⟩ : ∃ S2, S2 = strOfNums (dF (k + 1) u) := ⟨_, rfl⟩
      rw [← hS1, ← hS2] at hadd
      rw [← hS2]
      have HS1 := Lib.hid hS1
      clear ih hq1 hdf hme hqe hS1 hS2 hlen hu
      go_enter Tryd.func46, Tryd.ntmps46
      go_wp2_with (go_at_call 46; (with_reducible refine (IH.out q _ HQ1.out hq2 (by omega)).mono ?_); rintro e w2 ⟨he, hb2⟩; rw [← HS1.out] at he; subst he; have HB2 := Lib.hid hb2; clear hb2)
      go_ret
      exact ⟨rfl, below_call ((Below.refl _ _).alloc (Nat.le_refl _) _) HB2.out⟩
/-- The text of n. -/
def digL (n : Int) : List Int := if n < 0 then 45 :: dF 19 n.natAbs else dF 19 n.natAbs
set_option maxRecDepth 100000 in
set_option maxHeartbeats 4000000 in
theorem digits_any (n : Int) (h1 : -9223372036854775808 ≤ n) (h2 : n < 9223372036854775808) (w : World) :
    Calls Tryd.prog 29 #[.int .i64 n] w fun e w' => e = .returned (.string (strOfNums (digL n))) ∧ Below w.heap.size w w' := by
  obtain ⟨u, hu⟩ : ∃ u, u = n.natAbs := ⟨_, rfl⟩
  have hu1 : u < 10 ^ (19 + 1) := Nat.lt_of_le_of_lt (show u ≤ 9223372036854775808 by omega) (by decide)
  have HU1 := Lib.hid hu1
  have hlen := (dF_len 19 u).2
  by_cases hn : n < 0
  · have hd : digL n = 45 :: dF 19 u := by rw [digL, if_pos hn, hu]
    have hadd : ∀ W, (Op.stringOp .add ⟨#[45]⟩ (strOfNums (dF 19 u))).run Tryd.prog W = .ok (.string (strOfNums (digL n))) W := fun W => add_run Tryd.prog [45] _ _ hd (by rw [hd]; simp; omega) W
    obtain ⟨S1, hS1⟩ : ∃ S1, S1 = strOfNums (dF 19 u) := ⟨_, rfl⟩
    obtain ⟨S2, hS2⟩ : ∃ S2, S2 = strOfNums (digL n) := ⟨_, rfl⟩
    rw [← hS1, ← hS2] at hadd
    rw [← hS2]
    have HS1 := Lib.hid hS1
    obtain rfl : n = -(u : Int) := by omega
    have hw1 : IntKind.u64.wrap (-(u : Int)) = 18446744073709551616 - (u : Int) := by
      simp only [IntKind.wrap, IntKind.bits, IntKind.signed, Bool.false_and, Bool.false_eq_true, if_false]
      omega
    have hw2 : IntKind.u64.wrap (-(18446744073709551616 - (u : Int))) = (u : Int) := by
      simp only [IntKind.wrap, IntKind.bits, IntKind.signed, Bool.false_and, Bool.false_eq_true, if_false]
      omega
    clear hd hS1 hS2 hu hu1 hlen
    go_enter Tryd.func29, Tryd.ntmps29
    go_wp2_with (go_at_call 46; (with_reducible refine (udigits_any 19 u _ HU1.out (by omega) (by omega)).mono ?_); rintro e w2 ⟨he, hb2⟩; rw [← HS1.out] at he; subst he; have HB2 := Lib.hid hb2; clear hb2)
    go_ret
    exact ⟨rfl, HB2.out⟩
  · have hd : digL n = dF 19 u := by rw [digL, if_neg hn, hu]
    rw [hd]
    obtain ⟨S1, hS1⟩ : ∃ S1, S1 = strOfNums (dF 19 u) := ⟨_, rfl⟩
    rw [← hS1]
    have HS1 := Lib.hid hS1
    obtain rfl : n = (u : Int) := by omega
    clear hd hS1 hu hu1 hlen
    go_enter Tryd.func29, Tryd.ntmps29
    go_wp2_with (go_at_call 46; (with_reducible refine (udigits_any 19 u _ HU1.out (by omega) (by omega)).mono ?_); rintro e w2 ⟨he, hb2⟩; rw [← HS1.out] at he; subst he; have HB2 := Lib.hid hb2; clear hb2)
    go_ret
    exact ⟨rfl, HB2.out⟩
theorem bat_str (c : Int) (r : List Int) (h : 0 ≤ c ∧ c ≤ 255) : bat (strOfNums (c :: r)) 0 = c := by
  rw [bat_list (s := strOfNums (c :: r)) (j := 0) (c := UInt8.ofNat c.toNat) (by rw [strOf_list]; rfl)]
  simp only [UInt8.toNat_ofNat']
  omega
theorem allB_dF (k u : Nat) : allB isD (strOfNums (dF k u)) 0 = true := by
  unfold allB
  rw [List.all_eq_true]
  intro j hj
  rw [List.mem_range, strOfNums_size] at hj
  have hj' : j < (dF k u).length := by omega
  have hd := dF_digit k u _ (List.getElem_mem hj')
  rw [Nat.zero_add, bat_list (s := strOfNums (dF k u)) (j := j) (c := UInt8.ofNat ((dF k u)[j]).toNat) (by rw [strOf_list, List.getElem?_map, List.getElem?_eq_getElem hj']; rfl), byte_nat hd]
  simp [isD]
  omega
theorem uS_dF {s : ByteArray} {u : Nat} (h : tS s = strOfNums (dF 19 u)) (hu : u < 10 ^ (19 + 1)) : uS s = u := by rw [uS, h, strOf_list, dF_val 19 u hu]
theorem pI_digits (n : Int) (h1 : -9223372036854775808 ≤ n) (h2 : n < 9223372036854775808) : pI (strOfNums (digL n)) = some n := by
  obtain ⟨u, hu⟩ : ∃ u, u = n.natAbs := ⟨_, rfl⟩
  have hu1 : u < 10 ^ (19 + 1) := Nat.lt_of_le_of_lt (show u ≤ 9223372036854775808 by omega) (by decide)
  obtain ⟨c, r, hcr, hz⟩ := dF_head 19 u hu1
  have hcd := dF_digit 19 u c (by rw [hcr]; simp)
  have hb0 : bat (strOfNums (dF 19 u)) 0 = c := by rw [hcr]; exact bat_str c r (by omega)
  have hsz : (strOfNums (dF 19 u)).size = (dF 19 u).length := strOfNums_size _
  have hl := (dF_len 19 u).1
  have hA := allB_dF 19 u
  by_cases hn : n < 0
  · have hd : digL n = 45 :: dF 19 u := by rw [digL, if_pos hn, hu]
    rw [hd]
    obtain ⟨s, hs⟩ : ∃ s, s = strOfNums (45 :: dF 19 u) := ⟨_, rfl⟩
    rw [← hs]
    have hls : s.data.toList = 45 :: (strOfNums (dF 19 u)).data.toList := by rw [hs, strOf_list, strOf_list]; rfl
    rcases cases_text s with ⟨hng, r', h3, h4⟩ | ⟨-, -, h5⟩
    · have hts : tS s = strOfNums (dF 19 u) := by
        refine ByteArray.ext (Array.toList_inj.1 ?_)
        rw [h4]
        rw [hls] at h3
        injection h3 with _ h6
        exact h6.symm
      have hbad : badT s = false := by
        have h7 : ¬ c = 48 := fun h => by have := hz h; omega
        rw [badT, hts, hA, hb0]
        have h8 : (c == 48) = false := by simpa using h7
        rw [h8, decide_eq_false (show ¬ (strOfNums (dF 19 u)).size = 0 by omega)]
        rfl
      rw [pI, hbad, hng, uS_dF hts hu1]
      have h9 : u ≤ 9223372036854775808 := by omega
      simp [h9]
      omega
    · exact absurd rfl (h5 _ 45 hls)
  · have hd : digL n = dF 19 u := by rw [digL, if_neg hn, hu]
    rw [hd]
    obtain ⟨s, hs⟩ : ∃ s, s = strOfNums (dF 19 u) := ⟨_, rfl⟩
    rw [← hs]
    rcases cases_text s with ⟨-, r', h3, -⟩ | ⟨hng, hts, -⟩
    · have h6 := bat_list (s := s) (j := 0) (c := 45) (by rw [h3]; rfl)
      rw [hs, hb0] at h6
      have : (45 : UInt8).toNat = 45 := rfl
      omega
    · rw [hs] at hts
      rw [← hs] at hts
      have hts2 : tS s = strOfNums (dF 19 u) := by rw [hts, hs]
      have hbad : badT s = false := by
        rw [badT, hts2, hA, hb0, hng]
        by_cases h7 : c = 48
        · have h8 := hz h7
          rw [hcr, h8.2] at hsz ⊢
          simp [strOfNums_size]
        · have h8 : (c == 48) = false := by simpa using h7
          rw [h8, decide_eq_false (show ¬ (strOfNums (dF 19 u)).size = 0 by omega)]
          rfl
      rw [pI, hbad, hng, uS_dF hts2 hu1]
      have h9 : u < 9223372036854775808 := by omega
      simp [h9]
      omega
end Go.Proofs.YtjpabigjmimogaaDoor
