/- (*parser).skipComment. -/
import Derived.Test.YtjpabigjmimogaaDoorWord
import Derived.Test.YtjpabigjmimogaaDoorShelf
import Derived.Lib.IndexBytes
set_option linter.unusedVariables false
set_option linter.unusedSimpArgs false
namespace Go.Proofs.YtjpabigjmimogaaDoor
open Go.RowKit

theorem byte_bat (s : ByteArray) (k : Nat) (h : k < s.size) (n : Nat) (hn : n < 256) : (s[k] == (UInt8.ofNat n)) = decide (bat s k = n) := by
  have e := bat_at s k h
  rw [← e]
  rw [Bool.eq_iff_iff]
  simp only [beq_iff_eq, decide_eq_true_eq]
  constructor
  · intro h'
    rw [h']
    simp
    omega
  · intro h'
    apply UInt8.toNat_inj.1
    simp
    omega
theorem drop_bytes (s : ByteArray) (k : Nat) (h : k < s.size) : s.data.toList.drop k = s[k] :: s.data.toList.drop (k + 1) := by
  rw [List.drop_eq_getElem_cons (by simpa using h)]
  rfl
theorem ib_cEnd (s : ByteArray) : ∀ n k, s.size - k ≤ n → k ≤ s.size → Lib.indexByte (s.data.toList.drop k) 10 = if cEnd s n k < s.size then ((cEnd s n k - k : Nat) : Int) else -1 := by
  intro n
  induction n with
  | zero =>
    intro k hn hk
    have : k = s.size := by omega
    subst this
    rw [List.drop_of_length_le (by simp)]
    simp [cEnd, Lib.indexByte]
  | succ n ih =>
    intro k hn hk
    by_cases hlt : k < s.size
    · have hb := byte_bat s k hlt 10 (by omega)
      by_cases h10 : bat s k = 10
      · have hc : cEnd s (n + 1) k = k := by unfold cEnd; rw [if_neg (by simp [h10])]
        have hb' : (s[k] == (10 : UInt8)) = true := by rw [show (10 : UInt8) = UInt8.ofNat 10 from rfl, hb]; simp [h10]
        rw [hc, drop_bytes s k hlt, if_pos hlt]
        unfold Lib.indexByte
        rw [if_pos hb']
        simp
      · have hc : cEnd s (n + 1) k = cEnd s n (k + 1) := by
          show (if k < s.size ∧ bat s k ≠ 10 then cEnd s n (k + 1) else k) = _
          rw [if_pos ⟨hlt, h10⟩]
        have hb' : ¬ (s[k] == (10 : UInt8)) = true := by rw [show (10 : UInt8) = UInt8.ofNat 10 from rfl, hb]; simpa using h10
        have hge := (cEnd_spec s n (k + 1) (by omega) (by omega)).1
        rw [hc, drop_bytes s k hlt]
        unfold Lib.indexByte
        rw [if_neg hb', ih (k + 1) (by omega) (by omega)]
        by_cases hE : cEnd s n (k + 1) < s.size
        · rw [if_pos hE, if_neg (by simp), if_pos hE]
          omega
        · rw [if_neg hE, if_neg hE]; simp
    · have : k = s.size := by omega
      subst this
      rw [List.drop_of_length_le (by simp)]
      simp [cEnd, Lib.indexByte]

theorem lf_yes (s : ByteArray) (k E : Nat) (hk : k ≤ s.size) (hE : E = cEnd s (s.size - k) k) (h : E < s.size) (w : World) :
    Calls Tryd.prog 63 #[.string (s.extract k s.size), .int .u8 10] w fun e w' => e = .returned (.int .i64 ((E : Int) - (k : Int))) ∧ w = w' := by
  refine (Tryd.strings_IndexByte _ _ _).mono ?_
  rintro e w' ⟨rfl, rfl⟩
  have hib := ib_cEnd s (s.size - k) k (Nat.le_refl _) hk
  have hge := (cEnd_spec s (s.size - k) k (Nat.le_refl _) hk).1
  rw [← hE] at hib hge
  rw [Lib.extract_to_end]
  rw [show (Int.toNat 10).toUInt8 = (10 : UInt8) from rfl, hib, if_pos h]
  exact ⟨by congr 2; omega, rfl⟩
theorem lf_no (s : ByteArray) (k E : Nat) (hk : k ≤ s.size) (hE : E = cEnd s (s.size - k) k) (h : ¬ E < s.size) (w : World) :
    Calls Tryd.prog 63 #[.string (s.extract k s.size), .int .u8 10] w fun e w' => e = .returned (.int .i64 (-1)) ∧ w = w' := by
  refine (Tryd.strings_IndexByte _ _ _).mono ?_
  rintro e w' ⟨rfl, rfl⟩
  have hib := ib_cEnd s (s.size - k) k (Nat.le_refl _) hk
  rw [← hE] at hib
  rw [Lib.extract_to_end]
  rw [show (Int.toNat 10).toUInt8 = (10 : UInt8) from rfl, hib, if_neg h]
  exact ⟨rfl, rfl⟩
section
variable {w : World} {base g o cap k : Nat} {s : ByteArray} {fs : List Fr} {vs : List Value}
def StepPost (w : World) (base g o cap : Nat) (s : ByteArray) (E : Nat) (fs : List Fr) (vs : List Value) (e : Ending) (w' : World) : Prop :=
  e = .returned (.tuple #[]) ∧ PInv 39 67 w' base g o cap s E fs vs ∧ Below base w w'

set_option maxRecDepth 100000 in
set_option maxHeartbeats 2000000 in
theorem comment_any (h : PInv 39 67 w base g o cap s k fs vs) (hk : k ≤ s.size) (hs : s.size ≤ 65536) (E : Nat) (hE : E = cEnd s (s.size - k) k) :
    Calls Tryd.prog 53 #[.pointer (some ⟨g, 0, none⟩)] w (StepPost w base g o cap s E fs vs) := by
  obtain ⟨h1, h2, -, -⟩ := cEnd_spec s (s.size - k) k (Nat.le_refl _) hk
  rw [← hE] at h1 h2
  have HI := Lib.hid h
  have HE := Lib.hid hE
  have HB := Lib.hid (Below.refl base w)
  obtain ⟨c0, c1, c2, f0, f1, f2⟩ := h.cells
  have hb2 : (k : Int) ≤ (s.size : Int) := by omega
  have hb3 : (0 : Int) ≤ (k : Int) := by omega
  have hb4 : (k : Int) ≤ (E : Int) := by omega
  clear h hE
  by_cases hlt : E < s.size
  · have hb5 : (0 : Int) ≤ (E : Int) - (k : Int) := by omega
    go_enter Tryd.func53, Tryd.ntmps53
    go_wp2_with fail
    go_quiet (((go_at_call 63; first | exact quiet_left (lf_yes _ _ _ hk HE.out hlt _) | exact quiet_add_left (lf_yes _ _ _ hk HE.out hlt _))))
    go_wp2_with fail
    refine bodyPost_ret (results_none rfl _ _ _) rfl ⟨rfl, ?_, (below_drewN' HB.out nq).setCell (p := ⟨g, 1, none⟩) HI.out.bg _⟩
    have hq := (HI.out.drewN nq).setPos E
    have e : (k : Int) + ((E : Int) - (k : Int)) = (E : Int) := by omega
    rw [e]
    exact hq
  · have hE' : E = s.size := by omega
    have HE' := Lib.hid hE'
    clear hE'
    go_enter Tryd.func53, Tryd.ntmps53
    go_wp2_with fail
    go_quiet (((go_at_call 63; first | exact quiet_left (lf_no _ _ _ hk HE.out hlt _) | exact quiet_add_left (lf_no _ _ _ hk HE.out hlt _))))
    go_wp2_with fail
    go_end0
    refine ⟨rfl, ?_, (below_drewN' HB.out nq).setCell (p := ⟨g, 1, none⟩) HI.out.bg _⟩
    rw [HE'.out]
    exact (HI.out.drewN nq).setPos s.size
end
end Go.Proofs.YtjpabigjmimogaaDoor
