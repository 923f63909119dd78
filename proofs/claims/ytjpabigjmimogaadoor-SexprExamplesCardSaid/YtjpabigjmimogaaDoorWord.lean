/- (*parser).word and fail. -/
import Derived.Test.YtjpabigjmimogaaDoorAdd
import Derived.Deep.LoopGhost
import Derived.StillTailTactics
set_option linter.unusedVariables false
set_option linter.unusedSimpArgs false
namespace Go.Proofs.YtjpabigjmimogaaDoor
open Go.RowKit

def faultV (k p : Int) : List PanicEntry := [{ v := .iface 33 (.agg #[.int .i64 k, .int .i64 p]), recovered := false }]
set_option maxHeartbeats 400000 in
theorem fail_any (a b : Int) (w : World) : Calls Tryd.prog 52 #[.int .i64 a, .int .i64 b] w fun e w' => e = .panicked (faultV a b) ∧ w = w' := by
  go_enter Tryd.func52, Tryd.ntmps52
  go_wp2
  exact ⟨rfl, rfl, rfl⟩

section
variable {w : World} {base g o cap k : Nat} {s : ByteArray} {pre : List Fr} {top : Fr} {vpre : List Value} {v : Value}
def FailPost (w : World) (base : Nat) (k p : Int) (e : Ending) (w' : World) : Prop := e = .panicked (faultV k p) ∧ Below base w w'
def GoPost (w : World) (base g o cap : Nat) (s : ByteArray) (E : Nat) (fs : List Fr) (vpre : List Value) (e : Ending) (w' : World) : Prop :=
  e = .returned (.tuple #[]) ∧ AddPost w base g o cap s E fs vpre w'

set_option maxRecDepth 100000 in
set_option maxHeartbeats 2000000 in
theorem word_loop (h : PInv 39 67 w base g o cap s k (pre ++ [top]) (vpre ++ [v])) (hk : k < s.size) (hs : s.size ≤ 65536) (hm : pre.length ≤ 1000) (hK : top.kids.length ≤ 100000)
    (E : Nat) (hE : E = wEnd s (s.size - k) k) (hlong : 24 < E - k) :
    Calls Tryd.prog 56 #[.pointer (some ⟨g, 0, none⟩)] w (FailPost w base 4 k) := by
  obtain ⟨h1, h2, h3, h4⟩ := wEnd_spec s (s.size - k) k (Nat.le_refl _) (Nat.le_of_lt hk)
  rw [← hE] at h1 h2 h3 h4
  have H3 := Lib.hid h3
  have H4 := Lib.hid h4
  have HI := Lib.hid h
  have HB := Lib.hid (Below.refl base w)
  obtain ⟨c0, c1, c2, f0, f1, f2⟩ := h.cells
  clear h h3 h4 hE
  go_enter Tryd.func56, Tryd.ntmps56
  go_wp2
  clear c0 c1 c2 f0 f1 f2
  go_loopg [] (E - k) (fun q wr => ∃ j, Hid (k ≤ j ∧ j ≤ E ∧ q = E - j ∧ PInv 39 67 wr base g o cap s j (pre ++ [top]) (vpre ++ [v]) ∧ Below base w wr))
  case atStart => exact ⟨k, Nat.le_refl _, h1, rfl, HI.out, HB.out⟩
  case round =>
    obtain ⟨j, HR⟩ := hrel
    obtain ⟨r1, r2, r3, r4, r5⟩ := HR.out
    obtain ⟨c0, c1, c2, f0, f1, f2⟩ := r4.cells
    have H5 := Lib.hid r5
    have H6 := Lib.hid r4
    have H7 := Lib.hid r3
    clear HR r3 r4 r5
    have hat := bat_at s j
    by_cases hj : j < E
    · have hw := H3.out j r1 hj
      have hjs : j < s.size := by omega
      have hjs' : (j : Int) < (s.size : Int) := by omega
      go_wp2_with fail
      go_quiet (((go_at_call 49; first | exact quiet_left (isWordByte_any _ _) | exact quiet_add_left (isWordByte_any _ _))))
      go_wp2_with fail
      go_roundg (E - (j + 1))
      case measure => have := H7.out; omega
      case rel =>
        refine ⟨j + 1, by omega, by omega, rfl, ?_, ?_⟩
        · have := (H6.out.drewN nq).setPos (j + 1)
          simpa using this
        · exact (below_drewN' H5.out nq).setCell (p := ⟨g, 1, none⟩) H6.out.bg _
    · obtain rfl : j = E := by omega
      have hlong' : (24 : Int) < (j : Int) - (k : Int) := by omega
      by_cases hjs : j < s.size
      · have hjs' : (j : Int) < (s.size : Int) := by omega
        have hw := H4.out hjs
        go_wp2_with fail
        go_quiet (((go_at_call 49; first | exact quiet_left (isWordByte_any _ _) | exact quiet_add_left (isWordByte_any _ _))))
        go_wp2_with (go_at_call 52; refine (fail_any _ _ _).mono ?_; rintro e w' ⟨rfl, rfl⟩)
        exact ⟨rfl, rfl, below_drewN' H5.out nq⟩
      · have hd : decide ((j : Int) < (s.size : Int)) = false := by simp; omega
        go_wp2_with fail
        go_quiet (fail)
        go_wp2_with (go_at_call 52; refine (fail_any _ _ _).mono ?_; rintro e w' ⟨rfl, rfl⟩)
        exact ⟨rfl, rfl, below_drewN' H5.out nq⟩

set_option maxRecDepth 100000 in
set_option maxHeartbeats 2000000 in
theorem word_any (h : PInv 39 67 w base g o cap s k (pre ++ [top]) (vpre ++ [v])) (hk : k < s.size) (hs : s.size ≤ 65536) (hm : pre.length ≤ 1000) (hK : top.kids.length ≤ 100000)
    (E : Nat) (hE : E = wEnd s (s.size - k) k) (hlong : ¬ 24 < E - k) :
    Calls Tryd.prog 56 #[.pointer (some ⟨g, 0, none⟩)] w (GoPost w base g o cap s E (pre ++ [top.add (.mk 1 (s.extract k E) [] k)]) vpre) := by
  obtain ⟨h1, h2, h3, h4⟩ := wEnd_spec s (s.size - k) k (Nat.le_refl _) (Nat.le_of_lt hk)
  rw [← hE] at h1 h2 h3 h4
  have H3 := Lib.hid h3
  have H4 := Lib.hid h4
  have HI := Lib.hid h
  have HB := Lib.hid (Below.refl base w)
  obtain ⟨c0, c1, c2, f0, f1, f2⟩ := h.cells
  clear h h3 h4 hE
  go_enter Tryd.func56, Tryd.ntmps56
  go_wp2
  clear c0 c1 c2 f0 f1 f2
  go_loopg [] (E - k) (fun q wr => ∃ j, Hid (k ≤ j ∧ j ≤ E ∧ q = E - j ∧ PInv 39 67 wr base g o cap s j (pre ++ [top]) (vpre ++ [v]) ∧ Below base w wr))
  case atStart => exact ⟨k, Nat.le_refl _, h1, rfl, HI.out, HB.out⟩
  case round =>
    obtain ⟨j, HR⟩ := hrel
    obtain ⟨r1, r2, r3, r4, r5⟩ := HR.out
    obtain ⟨c0, c1, c2, f0, f1, f2⟩ := r4.cells
    have H5 := Lib.hid r5
    have H6 := Lib.hid r4
    have H7 := Lib.hid r3
    clear HR r3 r4 r5
    have hat := bat_at s j
    by_cases hj : j < E
    · have hw := H3.out j r1 hj
      have hjs : j < s.size := by omega
      have hjs' : (j : Int) < (s.size : Int) := by omega
      go_wp2_with fail
      go_quiet (((go_at_call 49; first | exact quiet_left (isWordByte_any _ _) | exact quiet_add_left (isWordByte_any _ _))))
      go_wp2_with fail
      go_roundg (E - (j + 1))
      case measure => have := H7.out; omega
      case rel =>
        refine ⟨j + 1, by omega, by omega, rfl, ?_, ?_⟩
        · have := (H6.out.drewN nq).setPos (j + 1)
          simpa using this
        · exact (below_drewN' H5.out nq).setCell (p := ⟨g, 1, none⟩) H6.out.bg _
    · obtain rfl : j = E := by omega
      have hlong' : ¬ (24 : Int) < (j : Int) - (k : Int) := by omega
      have hb1 : (k : Int) ≤ (j : Int) := by omega
      have hb2 : (j : Int) ≤ (s.size : Int) := by omega
      have hb3 : (0 : Int) ≤ (k : Int) := by omega
      by_cases hjs : j < s.size
      · have hjs' : (j : Int) < (s.size : Int) := by omega
        have hw := H4.out hjs
        go_wp2_with fail
        go_quiet (((go_at_call 49; first | exact quiet_left (isWordByte_any _ _) | exact quiet_add_left (isWordByte_any _ _))))
        go_wp2_with fail
        obtain ⟨W, hW⟩ : ∃ W, W = wr.drewN nq := ⟨_, rfl⟩
        rw [← hW]
        have HW : PInv 39 67 W base g o cap s j (pre ++ [top]) (vpre ++ [v]) := by rw [hW]; exact H6.out.drewN nq
        have HBW : Below base w W := by rw [hW]; exact below_drewN' H5.out nq
        clear hW c0 c1 c2 f0 f1 f2
        obtain ⟨c0, c1, c2, f0, f1, f2⟩ := HW.cells
        have H8 := Lib.hid HW
        have H9 := Lib.hid HBW
        clear HW HBW
        go_still_tail 13, (by kernel_rfl)
        change wpList _ _ _ _ _ W.drew
        go_wp2_with fail
        refine (add_any (x := .mk 1 (s.extract k j) [] k) H8.out.drew hm hK (Rd.nil _ _)).mono ?_
        rintro e w' ⟨rfl, hq⟩
        go_wp2_with fail
        go_end0
        exact ⟨rfl, hq.1, H9.out.drew.trans hq.2⟩
      · have hd : decide ((j : Int) < (s.size : Int)) = false := by simp; omega
        go_wp2_with fail
        go_quiet (fail)
        go_wp2_with fail
        obtain ⟨W, hW⟩ : ∃ W, W = wr.drewN nq := ⟨_, rfl⟩
        rw [← hW]
        have HW : PInv 39 67 W base g o cap s j (pre ++ [top]) (vpre ++ [v]) := by rw [hW]; exact H6.out.drewN nq
        have HBW : Below base w W := by rw [hW]; exact below_drewN' H5.out nq
        clear hW c0 c1 c2 f0 f1 f2
        obtain ⟨c0, c1, c2, f0, f1, f2⟩ := HW.cells
        have H8 := Lib.hid HW
        have H9 := Lib.hid HBW
        clear HW HBW
        go_still_tail 13, (by kernel_rfl)
        change wpList _ _ _ _ _ W.drew
        go_wp2_with fail
        refine (add_any (x := .mk 1 (s.extract k j) [] k) H8.out.drew hm hK (Rd.nil _ _)).mono ?_
        rintro e w' ⟨rfl, hq⟩
        go_wp2_with fail
        go_end0
        exact ⟨rfl, hq.1, H9.out.drew.trans hq.2⟩
end
end Go.Proofs.YtjpabigjmimogaaDoor
