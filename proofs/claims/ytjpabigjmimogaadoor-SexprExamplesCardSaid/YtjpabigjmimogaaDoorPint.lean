/- The integers of ParseInt, on both sides: one answer, pI. No program is named here. -/
import Derived.Test.YtjpabigjmimogaaDoorEvery
import Derived.Test.YtjpabigjmimogaaDoorTxt
import Derived.Lib.ParseIntB
import Derived.Lib.Strings
set_option linter.unusedVariables false
set_option linter.unusedSimpArgs false
namespace Go.Proofs.YtjpabigjmimogaaDoor
open Go.RowKit

def stepB (a : Nat) (c : UInt8) : Nat := a * 10 + (c.toNat - 48)
def valB (acc : Nat) (l : List UInt8) : Nat := l.foldl stepB acc
theorem valB_nil (acc : Nat) : valB acc [] = acc := by simp only [valB, List.foldl_nil]
theorem valB_cons (acc : Nat) (c : UInt8) (r : List UInt8) : valB acc (c :: r) = valB (acc * 10 + (c.toNat - 48)) r := by simp only [valB, List.foldl_cons, stepB]
def digB (c : UInt8) : Bool := decide (48 ≤ c.toNat ∧ c.toNat ≤ 57)
theorem valB_ge (l : List UInt8) : ∀ (acc : Nat), acc ≤ valB acc l := by
  induction l with
  | nil => intro acc; exact Nat.le_refl _
  | cons c r ih => intro acc; have := ih (acc * 10 + (c.toNat - 48)); rw [valB_cons]; omega
theorem parseUintM_dig (l : List UInt8) : ∀ (acc : Nat), l.all digB = true → acc ≤ 18446744073709551615 →
    Lib.parseUintM 18446744073709551615 acc l = if valB acc l ≤ 18446744073709551615 then .ok (valB acc l) else .range := by
  induction l with
  | nil => intro acc _ ha; rw [valB_nil, if_pos ha, Lib.parseUintM]
  | cons c r ih =>
    intro acc h ha
    simp only [List.all_cons, Bool.and_eq_true] at h
    obtain ⟨h1, h2⟩ := h
    have h3 : 48 ≤ c.toNat ∧ c.toNat ≤ 57 := by simpa [digB] using h1
    have hg := valB_ge r (acc * 10 + (c.toNat - 48))
    rw [Lib.parseUintM, if_pos h3, valB_cons]
    by_cases h4 : 1844674407370955162 ≤ acc
    · rw [if_pos h4, if_neg (by omega)]
    · rw [if_neg h4]
      by_cases h5 : 18446744073709551615 < acc * 10 + (c.toNat - 48)
      · rw [if_pos h5, if_neg (by omega)]
      · rw [if_neg h5]
        exact ih _ h2 (by omega)
theorem valB_append (l m : List UInt8) (acc : Nat) : valB acc (l ++ m) = valB (valB acc l) m := by simp [valB]
theorem valB_lt (l : List UInt8) : ∀ (acc : Nat), l.all digB = true → valB acc l < (acc + 1) * 10 ^ l.length := by
  induction l with
  | nil => intro acc _; simp [valB_nil]
  | cons c r ih =>
    intro acc h
    simp only [List.all_cons, Bool.and_eq_true] at h
    have h3 : 48 ≤ c.toNat ∧ c.toNat ≤ 57 := by simpa [digB] using h.1
    have h4 := ih (acc * 10 + (c.toNat - 48)) h.2
    rw [valB_cons, List.length_cons, Nat.pow_succ]
    refine Nat.lt_of_lt_of_le h4 ?_
    rw [Nat.mul_comm (10 ^ r.length) 10, ← Nat.mul_assoc]
    exact Nat.mul_le_mul_right _ (by omega)
theorem valB_low (l : List UInt8) : ∀ (acc : Nat), acc * 10 ^ l.length ≤ valB acc l := by
  induction l with
  | nil => intro acc; simp [valB_nil]
  | cons c r ih =>
    intro acc
    have h4 := ih (acc * 10 + (c.toNat - 48))
    rw [valB_cons, List.length_cons, Nat.pow_succ]
    refine Nat.le_trans ?_ h4
    rw [Nat.mul_comm (10 ^ r.length) 10, ← Nat.mul_assoc]
    exact Nat.mul_le_mul_right _ (by omega)
/-- Whether s begins with a minus sign; what stands behind it. -/
def negB (s : ByteArray) : Bool := Lib.hasPrefix s.data.toList [45]
def tS (s : ByteArray) : ByteArray := ⟨(Lib.trimPrefix s.data.toList [45]).toArray⟩
/-- The value of the digits. -/
def uS (s : ByteArray) : Nat := valB 0 (tS s).data.toList
def badT (s : ByteArray) : Bool := decide ((tS s).size = 0) || (!allB isD (tS s) 0 || (bat (tS s) 0 == 48 && (decide (1 < (tS s).size) || negB s)))
def pI (s : ByteArray) : Option Int := if badT s then none else if negB s then (if uS s ≤ 9223372036854775808 then some (-(uS s : Int)) else none) else (if uS s < 9223372036854775808 then some (uS s : Int) else none)

theorem bat_list {s : ByteArray} {j : Nat} {c : UInt8} (h : s.data.toList[j]? = some c) : bat s j = (c.toNat : Int) := by
  have hj := (List.getElem?_eq_some_iff.1 h).1
  have hs : j < s.size := by simpa using hj
  have h2 := nums_at s j hs
  simp only [nums, List.getElem?_map, h, Option.map_some, Option.some.injEq] at h2
  exact h2.symm
theorem allB_dig {s : ByteArray} (h : allB isD s 0 = true) : s.data.toList.all digB = true := by
  rw [List.all_eq_true]
  intro c hc
  obtain ⟨j, hj, rfl⟩ := List.getElem_of_mem hc
  unfold allB at h
  rw [List.all_eq_true] at h
  have hs : j < s.size := by simpa using hj
  have h2 := h j (by rw [List.mem_range]; omega)
  rw [Nat.zero_add, bat_list (List.getElem?_eq_getElem hj)] at h2
  simp only [isD, decide_eq_true_eq] at h2
  simp only [digB, decide_eq_true_eq]
  omega
/-- A text, by its first byte. -/
theorem cases_text (s : ByteArray) : (negB s = true ∧ ∃ r, s.data.toList = 45 :: r ∧ (tS s).data.toList = r) ∨ (negB s = false ∧ tS s = s ∧ ∀ r c, s.data.toList = c :: r → c.toNat ≠ 45) := by
  cases hs : s.data.toList with
  | nil =>
    refine .inr ⟨by simp [negB, Lib.hasPrefix, hs], ?_, fun r c h => by cases h⟩
    simp only [tS, Lib.trimPrefix, hs, Lib.hasPrefix]
    refine ByteArray.ext ?_
    have : s.data = s.data.toList.toArray := by simp
    rw [this, hs]; rfl
  | cons c r =>
    by_cases h : c = 45
    · subst h
      exact .inl ⟨by simp [negB, Lib.hasPrefix, hs], r, rfl, by simp [tS, Lib.trimPrefix, Lib.hasPrefix, hs]⟩
    · have hn : ((45 : UInt8) == c) = false := by simpa using fun e => h e.symm
      refine .inr ⟨by simp [negB, Lib.hasPrefix, hs, List.isPrefixOf, hn], ?_, fun r' c' h' e => ?_⟩
      · refine ByteArray.ext ?_
        simp [tS, Lib.trimPrefix, Lib.hasPrefix, hs, List.isPrefixOf, hn]
        rw [← hs]
      · injection h' with h1 h2
        subst h1
        exact h (by apply UInt8.toNat_inj.1; simpa using e)
theorem tS_digits {s : ByteArray} (h : badT s = false) : (tS s).data.toList.all digB = true ∧ (tS s).data.toList ≠ [] ∧ ∃ c r, (tS s).data.toList = c :: r ∧ 48 ≤ c.toNat ∧ c.toNat ≤ 57 := by
  simp only [badT, Bool.or_eq_false_iff, decide_eq_false_iff_not, Bool.not_eq_false'] at h
  obtain ⟨h1, h2, h3⟩ := h
  have h4 := allB_dig h2
  cases hl : (tS s).data.toList with
  | nil => exact absurd (show (tS s).size = 0 by have h6 : (tS s).data.toList.length = 0 := by rw [hl]; rfl
                                                 simpa using h6) h1
  | cons c r =>
    rw [hl] at h4
    refine ⟨h4, by simp, c, r, rfl, ?_⟩
    simp only [List.all_cons, Bool.and_eq_true] at h4
    simpa [digB] using h4.1
theorem parseIntB_of {s : ByteArray} (h : badT s = false) : Lib.parseIntB 64 s.data.toList = match pI s with | some v => .ok v | none => .range := by
  obtain ⟨hd, hne, c, r, hcr, hc1, hc2⟩ := tS_digits h
  have hM := parseUintM_dig (tS s).data.toList 0 hd (by omega)
  have hU : Lib.parseUintB 64 (tS s).data.toList = if uS s ≤ 18446744073709551615 then .ok (uS s) else .range := by
    rw [Lib.parseUintB, if_neg hne]
    exact hM
  rw [pI, h]
  rcases cases_text s with ⟨hn, r', hs, ht⟩ | ⟨hn, ht, hx⟩
  · rw [hn, hs, Lib.parseIntB]
    rw [ht] at hU
    have h45 : (45 : UInt8).toNat = 45 := rfl
    rw [if_pos (Or.inr h45), hU]
    by_cases h1 : uS s ≤ 18446744073709551615
    · rw [if_pos h1]
      by_cases h2 : uS s ≤ 9223372036854775808
      · have h3 : ¬ (2 ^ (64 - 1) < uS s) := by simpa using h2
        simp [h2, h3]
      · have h3 : 2 ^ (64 - 1) < uS s := by simpa using h2
        simp [h2, h3]
    · have h2 : ¬ uS s ≤ 9223372036854775808 := by omega
      simp [h1, h2]
  · rw [ht] at hcr hU
    rw [hn, hcr, Lib.parseIntB]
    have hx2 := hx r c hcr
    have hx3 : ¬ (c.toNat = 43 ∨ c.toNat = 45) := by omega
    rw [hcr] at hU
    rw [if_neg hx3, hU]
    by_cases h1 : uS s ≤ 18446744073709551615
    · rw [if_pos h1]
      by_cases h2 : uS s < 9223372036854775808
      · have h3 : ¬ (2 ^ (64 - 1) ≤ uS s) := by simpa using h2
        simp [h2, h3, hx2]
      · have h3 : 2 ^ (64 - 1) ≤ uS s := by simpa using h2
        simp [h2, h3, hx2]
    · have h2 : ¬ uS s < 9223372036854775808 := by omega
      simp [h1, h2]
end Go.Proofs.YtjpabigjmimogaaDoor
