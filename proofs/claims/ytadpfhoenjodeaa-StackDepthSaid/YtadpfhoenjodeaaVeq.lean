/- telref1.ValueEqual and telgen.EqualValues at values without elements. -/
import Derived.Test.YtadpfhoenjodeaaRoots2
set_option linter.unusedVariables false
set_option linter.unusedSimpArgs false
namespace Go.Proofs.Ytadpfhoenjodeaa
open Go.RowKit

theorem bel_undrew6 {w w2 : World} (h : Below w.drew.heap.size w.drew w2) : Below w.heap.size w w2 := ⟨h.os, h.tape, h.output, h.size, h.block⟩
set_option maxRecDepth 100000 in
set_option maxHeartbeats 2000000 in
theorem valEq_any (k n : Int) (s : ByteArray) (w : World) (A A' : Option Addr) (c c' : Nat) :
    Calls Try.prog 24 #[.agg #[.int .i64 k, .int .i64 n, .string s, .slice A 0 c], .agg #[.int .i64 k, .int .i64 n, .string s, .slice A' 0 c']] w fun e w' => e = .returned (.bool true) ∧ Below w.heap.size w w' := by
  have h1 : (k != k) = false := by simp
  have h2 : (n != n) = false := by simp
  have HB := Lib.hid (fun o o' => bel_alloc (bel_alloc (Below.refl w.heap.size w) o) o')
  go_enter Try.func24, Try.ntmps24
  go_wp2_with fail
  go_loopg [5] 0 (fun q iv wr => iv = .int .i64 0 ∧ Hid (wr.cell? ⟨w.heap.size, 3, none⟩ = some (.slice A 0 c) ∧ Below w.heap.size w wr))
  case atStart => exact ⟨rfl, (cell_of_row _ _ 3 _ _ _ (blk_new1 w _ _)).trans rfl, HB.out _ _⟩
  case round =>
    obtain ⟨rfl, HH⟩ := hrel
    obtain ⟨q1, q2⟩ := HH.out
    have HB2 := Lib.hid q2
    clear HH q2
    go_wp2_with fail
    go_ret
    exact ⟨rfl, HB2.out⟩
set_option maxRecDepth 100000 in
set_option maxHeartbeats 4000000 in
theorem eqLeaves_any (l : List Vl) (hl : ∀ x ∈ l, Vl.elems x = []) (w : World) (ok ok' : Nat → Prop) (A A' : Option Addr) (n n' c c' : Nat) (h : Rd w ok (.slice A n c) (vlsTr l)) (h' : Rd w ok' (.slice A' n' c') (vlsTr l)) :
    Calls Try.prog 50 #[.slice A n c, .slice A' n' c'] w fun e w' => e = .returned (.bool true) ∧ Below w.heap.size w w' := by
  obtain ⟨rfl, hn1, hn2⟩ := vls_len h
  obtain ⟨rfl, hm1, hm2⟩ := vls_len h'
  simp only [maxLen] at hn2 hm2
  have HL := Lib.hid h
  have HM := Lib.hid h'
  have HE := Lib.hid hl
  have hnn : ((l.length : Int) != (l.length : Int)) = false := by simp
  clear h h' hl
  go_enter Try.func50, Try.ntmps50
  go_wp2_with fail
  go_loopg [5] l.length (fun q iv wr => ∃ (i : Nat), iv = .int .i64 (i : Int) ∧ Hid (i ≤ l.length ∧ q = l.length - i ∧ Below w.heap.size w wr))
  case atStart => exact ⟨0, rfl, Nat.zero_le _, rfl, Below.refl _ _⟩
  case round =>
    obtain ⟨i, rfl, HH⟩ := hrel
    obtain ⟨q1, q2, q3⟩ := HH.out
    have HQ := Lib.hid q2
    have HBR := Lib.hid q3
    clear HH q2 q3
    by_cases hlt : i < l.length
    · have hi' : (i : Int) < (l.length : Int) := by omega
      have hi0 : (0 : Int) ≤ (i : Int) := by omega
      obtain ⟨x, hxe⟩ : ∃ x, x = l[i] := ⟨_, rfl⟩
      have hx : l[i]? = some x := by rw [hxe]; exact List.getElem?_eq_getElem hlt
      have hxl := HE.out x (List.mem_of_getElem? hx)
      obtain ⟨b, o, KA, KN, KC, rfl, hb1, p0, p1, p2, p3, p4⟩ := vls_at (HL.out.bl HBR.out) hx
      obtain ⟨b', o', JA, JN, JC, rfl, hb2, r0, r1, r2, r3, r4⟩ := vls_at (HM.out.bl HBR.out) hx
      rw [hxl] at p4 r4
      obtain ⟨rfl, -, -⟩ := vls_len p4
      obtain ⟨rfl, -, -⟩ := vls_len r4
      simp only [List.length_nil] at p3 r3
      clear hxe hx hxl p4 r4
      go_wp2_with fail
      go_region_law ((go_simp; go_at_call 24; (with_reducible refine (valEq_any x.kind x.num x.str _ KA JA KC JC).mono ?_); rintro e w2 ⟨rfl, hb⟩; have HB2 : Hid (Below w.heap.size w w2) := Lib.hid (below_call HBR.out (bel_undrew6 hb)); clear hb))
      all_goals go_wp2_with fail
      all_goals
        go_roundg (l.length - (i + 1))
        case measure => have := HQ.out; omega
        case rel => exact ⟨i + 1, by simp, by omega, rfl, HB2.out⟩
    · obtain rfl : i = l.length := by omega
      have hd : decide ((l.length : Int) < (l.length : Int)) = false := by simp
      go_wp2_with fail
      go_ret
      exact ⟨rfl, HBR.out⟩
end Go.Proofs.Ytadpfhoenjodeaa
