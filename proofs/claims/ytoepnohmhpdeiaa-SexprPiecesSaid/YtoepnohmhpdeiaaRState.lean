/- The reference parser: its state, fail and skip. -/
import Derived.Test.YtoepnohmhpdeiaaRChars
import Derived.Test.YtoepnohmhpdeiaaRSpec
import Derived.Test.YtoepnohmhpdeiaaPInv
import Derived.Test.YtoepnohmhpdeiaaSem
import Derived.Deep.LoopGhost
import Derived.StillTailTactics
set_option linter.unusedVariables false
set_option linter.unusedSimpArgs false
namespace Go.Proofs.Ytoepnohmhpdeiaa
open Go.RowKit

/-- The reference parser at g. -/
structure RS (w : World) (g : Nat) (s : ByteArray) (k fk fo : Int) : Prop where
  row : w.heap[g]? = some (.cells #[.string s, .int .i64 k, .int .i64 fk, .int .i64 fo] 77 (0, 0))
section
variable {w w' : World} {g : Nat} {s : ByteArray} {k fk fo : Int}
theorem RS.cells (h : RS w g s k fk fo) : w.cell? ⟨g, 0, none⟩ = some (.string s) ∧ w.cell? ⟨g, 1, none⟩ = some (.int .i64 k) ∧ w.cell? ⟨g, 2, none⟩ = some (.int .i64 fk) ∧ w.cell? ⟨g, 3, none⟩ = some (.int .i64 fo) ∧
    w.frozen? ⟨g, 1, none⟩ = false ∧ w.frozen? ⟨g, 2, none⟩ = false ∧ w.frozen? ⟨g, 3, none⟩ = false :=
  ⟨(cell_of_row _ _ 0 _ _ _ h.row).trans rfl, (cell_of_row _ _ 1 _ _ _ h.row).trans rfl, (cell_of_row _ _ 2 _ _ _ h.row).trans rfl, (cell_of_row _ _ 3 _ _ _ h.row).trans rfl, blk_frozen h.row 1, blk_frozen h.row 2, blk_frozen h.row 3⟩
theorem RS.lt (h : RS w g s k fk fo) : g < w.heap.size := lt_of_block h.row
theorem RS.setPos (h : RS w g s k fk fo) (k' : Int) : RS (w.setCell ⟨g, 1, none⟩ (.int .i64 k')) g s k' fk fo := ⟨by simpa using blk_set h.row 1 (.int .i64 k')⟩
theorem RS.toPos (h : RS w g s k fk fo) {k' k2 : Int} (e : k2 = k') : RS (w.setCell ⟨g, 1, none⟩ (.int .i64 k2)) g s k' fk fo := e ▸ h.setPos k2
theorem RS.drewN (h : RS w g s k fk fo) (n : Nat) : RS (w.drewN n) g s k fk fo := ⟨h.row⟩
theorem RS.setFault (h : RS w g s k fk fo) (a b : Int) : RS ((w.setCell ⟨g, 2, none⟩ (.int .i64 a)).setCell ⟨g, 3, none⟩ (.int .i64 b)) g s k a b :=
  ⟨by simpa using blk_set (blk_set h.row 2 (.int .i64 a)) 3 (.int .i64 b)⟩
theorem RS.kp {S : Nat → Prop} (h : RS w g s k fk fo) (q : Kp w w' S) (hn : ¬ S g) : RS w' g s k fk fo := ⟨q.blk h.row hn⟩
end

/-- Only the parser is written. -/
abbrev KG (w w' : World) (g : Nat) : Prop := Kp w w' fun b => b = g
theorem KG.rfl' (w : World) (g : Nat) : KG w w g := Kp.refl w _
theorem KG.set {w w' : World} {g : Nat} (h : KG w w' g) (i : Nat) (u : Value) : KG w (w'.setCell ⟨g, i, none⟩ u) g := Kp.setCell h (.inl rfl) u
theorem KG.drewN {w w' : World} {g : Nat} (h : KG w w' g) (n : Nat) : KG w (w'.drewN n) g := Kp.drewN h n
def RP (w : World) (g : Nat) (s : ByteArray) (k a b : Int) (w' : World) : Prop := RS w' g s k a b ∧ KG w w' g ∧ w'.heap.size = w.heap.size

set_option maxHeartbeats 400000 in
theorem rfail_any {w : World} {g : Nat} {s : ByteArray} {k : Int} (h : RS w g s k 0 0) (a b : Int) :
    Calls Try.prog 63 #[.pointer (some ⟨g, 0, none⟩), .int .i64 a, .int .i64 b] w fun e w' => e = .returned (.tuple #[]) ∧ RP w g s k a b w' := by
  obtain ⟨c0, c1, c2, c3, f1, f2, f3⟩ := h.cells
  have HI := Lib.hid h
  clear h
  go_enter Try.func63, Try.ntmps63
  go_wp2
  go_end0
  exact ⟨rfl, HI.out.setFault a b, ((KG.rfl' w g).set _ _).set _ _, by simp⟩

section
variable {w : World} {g : Nat} {s : ByteArray}
set_option maxRecDepth 100000 in
set_option maxHeartbeats 2000000 in
theorem rskip_any {k : Nat} (h : RS w g s k 0 0) (hk : k ≤ s.size) (hs : s.size ≤ 65536) (n : Nat) (hn : s.size - k ≤ n) :
    Calls Try.prog 62 #[.pointer (some ⟨g, 0, none⟩)] w fun e w' => e = .returned (.tuple #[]) ∧ RP w g s (sk s n k : Nat) 0 0 w' := by
  have HI := Lib.hid h
  have HK := Lib.hid (KG.rfl' w g)
  clear h
  obtain ⟨E, hE⟩ : ∃ E, E = sk s n k := ⟨_, rfl⟩
  rw [← hE]
  have HE := Lib.hid hE
  clear hE
  go_enter Try.func62, Try.ntmps62
  go_wp2_with fail
  go_loopg [] n (fun q wr => ∃ j, Hid (j ≤ s.size ∧ s.size - j ≤ q ∧ sk s q j = E ∧ RS wr g s (j : Nat) 0 0 ∧ KG w wr g ∧ wr.heap.size = w.heap.size))
  case atStart => exact ⟨k, hk, hn, HE.out.symm, HI.out, HK.out, rfl⟩
  case round =>
    obtain ⟨j, HR⟩ := hrel
    obtain ⟨r1, r2, r3, r4, r5, r6⟩ := HR.out
    obtain ⟨c0, c1, c2, c3, f1, f2, f3⟩ := r4.cells
    have H4 := Lib.hid r4
    have H5 := Lib.hid r5
    have H6 := Lib.hid r6
    have H3 := Lib.hid r3
    clear HR r3 r4 r5 r6 c2 c3 f2 f3
    have hat := bat_at s j
    have hk2 : j ≤ s.size := r1
    by_cases hj : j < s.size
    · have hj' : (j : Int) < (s.size : Int) := by omega
      obtain ⟨q, rfl⟩ : ∃ q, gk = q + 1 := ⟨gk - 1, by omega⟩
      have e3 := H3.out
      simp only [sk, if_pos hj] at e3
      by_cases h32 : bat s j = 32
      · rw [if_pos (.inl h32)] at e3
        have b32 : (bat s j == 32) = true := by simpa using h32
        have H3' := Lib.hid e3
        clear e3 h32
        go_wp2_with fail
        go_quiet (fail)
        go_wp2_with fail
        go_quiet (fail)
        go_wp2_with fail
        go_roundg q
        case measure => omega
        case rel =>
          refine ⟨j + 1, by omega, by omega, H3'.out, ?_, ?_, ?_⟩
          · exact (H4.out.drewN _).toPos (by simp)
          · exact (H5.out.drewN _).set _ _
          · simpa using H6.out
      · have b32 : (bat s j == 32) = false := by simpa using h32
        by_cases h10 : bat s j = 10
        · rw [if_pos (.inr h10)] at e3
          have b10 : (bat s j == 10) = true := by simpa using h10
          have H3' := Lib.hid e3
          clear e3 h32 h10
          go_wp2_with fail
          go_quiet (fail)
          go_wp2_with fail
          go_quiet (fail)
          go_wp2_with fail
          go_roundg q
          case measure => omega
          case rel =>
            refine ⟨j + 1, by omega, by omega, H3'.out, ?_, ?_, ?_⟩
            · exact (H4.out.drewN _).toPos (by simp)
            · exact (H5.out.drewN _).set _ _
            · simpa using H6.out
        · rw [if_neg (by omega)] at e3
          have b10 : (bat s j == 10) = false := by simpa using h10
          by_cases h59 : bat s j = 59
          · rw [if_pos h59] at e3
            have b59 : (bat s j == 59) = true := by simpa using h59
            have hlt := cEnd_after s j hj h10
            obtain ⟨E1, hE1⟩ : ∃ E1, E1 = cEnd s (s.size - j) j := ⟨_, rfl⟩
            obtain ⟨p1, p2, p3, p4⟩ := cEnd_spec s (s.size - j) j (Nat.le_refl _) hk2
            rw [← hE1] at e3 hlt p1 p2 p3 p4
            have H3' := Lib.hid e3
            have P3 := Lib.hid p3
            have P4 := Lib.hid p4
            clear e3 h32 h10 h59 hE1 p3 p4
            go_wp2_with fail
            go_quiet (fail)
            go_wp2_with fail
            go_quiet (fail)
            go_wp2_with fail
            go_loopg [] (E1 - j) (fun q2 wr2 => ∃ i, Hid (j ≤ i ∧ i ≤ E1 ∧ q2 = E1 - i ∧ RS wr2 g s (i : Nat) 0 0 ∧ KG w wr2 g ∧ wr2.heap.size = w.heap.size))
            case atStart => exact ⟨j, Nat.le_refl _, by omega, rfl, H4.out.drewN _, H5.out.drewN _, by simpa using H6.out⟩
            case round =>
              obtain ⟨i, HR⟩ := hrel
              obtain ⟨r1, r2, r3, r4, r5, r6⟩ := HR.out
              obtain ⟨c0, c1, c2, c3, f1, f2, f3⟩ := r4.cells
              have G4 := Lib.hid r4
              have G5 := Lib.hid r5
              have G6 := Lib.hid r6
              have G3 := Lib.hid r3
              clear HR r3 r4 r5 r6 c2 c3 f2 f3
              have hat := bat_at s i
              by_cases hi : i < E1
              · have g10 : (bat s i != 10) = true := by simpa using P3.out i r1 hi
                have hi' : (i : Int) < (s.size : Int) := by omega
                have hi2 : i < s.size := by omega
                go_wp2_with fail
                go_quiet (fail)
                go_wp2_with fail
                go_roundg (E1 - (i + 1))
                case measure => have := G3.out; omega
                case rel =>
                  refine ⟨i + 1, by omega, by omega, rfl, ?_, ?_, ?_⟩
                  · exact (G4.out.drewN _).toPos (by simp)
                  · exact (G5.out.drewN _).set _ _
                  · simpa using G6.out
              · obtain rfl : i = E1 := by omega
                by_cases his : i < s.size
                · have his' : (i : Int) < (s.size : Int) := by omega
                  have g10 : (bat s i != 10) = false := by simpa using P4.out his
                  go_wp2_with fail
                  go_quiet (fail)
                  go_wp2_with fail
                  go_roundg q
                  case measure => omega
                  case rel => exact ⟨i, by omega, by omega, H3'.out, G4.out.drewN _, G5.out.drewN _, by simpa using G6.out⟩
                · have his' : decide ((i : Int) < (s.size : Int)) = false := by simp; omega
                  go_wp2_with fail
                  go_quiet (fail)
                  go_wp2_with fail
                  go_roundg q
                  case measure => omega
                  case rel => exact ⟨i, by omega, by omega, H3'.out, G4.out.drewN _, G5.out.drewN _, by simpa using G6.out⟩
          · rw [if_neg h59] at e3
            have b59 : (bat s j == 59) = false := by simpa using h59
            subst e3
            clear h32 h10 h59
            go_wp2_with fail
            go_quiet (fail)
            go_wp2_with fail
            go_quiet (fail)
            go_wp2_with fail
            refine bodyPost_ret (results_none rfl _ _ _) rfl ⟨rfl, H4.out.drewN _, H5.out.drewN _, by simpa using H6.out⟩
    · have hd : decide ((j : Int) < (s.size : Int)) = false := by simp; omega
      have hE2 : j = E := by
        rw [← H3.out]
        cases gk with
        | zero => rfl
        | succ q => simp only [sk, if_neg hj]
      clear H3
      subst hE2
      go_wp2_with fail
      go_quiet (fail)
      go_wp2_with fail
      go_end0
      exact ⟨rfl, H4.out.drewN _, H5.out.drewN _, by simpa using H6.out⟩
end
end Go.Proofs.Ytoepnohmhpdeiaa
