/- Slices of integers that read: telgen.EqualInts, telref31.contains. -/
import Derived.Test.YtadpfhoenjodeaaCore
import Derived.Test.YtadpfhoenjodeaaIntSet
import Derived.Test.YtadpfhoenjodeaaProg
import Derived.Deep.LoopGhost
import Derived.Lib.Hide
import Derived.Deep.QuietTactic
import Derived.BigQuiet
set_option linter.unusedVariables false
set_option linter.unusedSimpArgs false
namespace Go.Proofs.Ytadpfhoenjodeaa
open Go.RowKit

theorem int_info : (Try.prog.info? 3).map (fun i => (i.zero, i.size, i.bytes)) = some (some (.int .i64 0), 1, 8) := by kernel_rfl
/-- How a slice of integers reads. -/
def intsTr (l : List Int) : Tr := .sl 3 1 (l.map fun x => .sc (.int .i64 x))
theorem ints_len {w : World} {ok : Nat → Prop} {A : Option Addr} {n c : Nat} {l : List Int} (h : Rd w ok (.slice A n c) (intsTr l)) : n = l.length ∧ n ≤ c ∧ c ≤ maxLen := by
  have := h.len
  rw [List.length_map] at this
  exact ⟨by omega, this.2⟩
theorem ints_at {w : World} {ok : Nat → Prop} {A : Option Addr} {n c i : Nat} {l : List Int} {x : Int} (h : Rd w ok (.slice A n c) (intsTr l)) (hx : l[i]? = some x) :
    ∃ b o, A = some ⟨b, o, none⟩ ∧ w.cell? ⟨b, o + i, none⟩ = some (.int .i64 x) := by
  have hi := (List.getElem?_eq_some_iff.1 hx).1
  have hn := (ints_len h).1
  obtain ⟨b, o, rfl, -, -, hc⟩ := h.at_ (by omega)
  obtain ⟨u, e, he, hu, hr⟩ := hc i (by omega)
  rw [List.getElem?_map, hx] at he
  simp at he
  subst he
  obtain rfl := hr.sc_inv
  exact ⟨b, o, rfl, hu⟩

theorem take_next {l m : List Int} {i : Nat} (h : l.take i = m.take i) (hl : i < l.length) (hm : i < m.length) (he : l[i] = m[i]) : l.take (i + 1) = m.take (i + 1) := by
  rw [List.take_add_one, List.take_add_one, h, List.getElem?_eq_getElem hl, List.getElem?_eq_getElem hm, he]
set_option maxRecDepth 100000 in
set_option maxHeartbeats 2000000 in
theorem equalInts_any (l m : List Int) (w : World) (ok ok' : Nat → Prop) (A A' : Option Addr) (n n' c c' : Nat) (hl : Rd w ok (.slice A n c) (intsTr l)) (hm : Rd w ok' (.slice A' n' c') (intsTr m)) :
    Calls Try.prog 13 #[.slice A n c, .slice A' n' c'] w fun e w' => e = .returned (.bool (decide (l = m))) ∧ Below w.heap.size w w' := by
  obtain ⟨hn, hn1, hn2⟩ := ints_len hl
  obtain ⟨hm0, hm1, hm2⟩ := ints_len hm
  simp only [maxLen] at hn2 hm2
  have HL := Lib.hid hl
  have HM := Lib.hid hm
  have HN := Lib.hid hn
  have HMN := Lib.hid hm0
  have HB := Lib.hid (Below.refl w.heap.size w)
  by_cases he : n = n'
  · subst he
    obtain ⟨E, hE⟩ : ∃ E, E = decide (l = m) := ⟨_, rfl⟩
    rw [← hE]
    have HEE := Lib.hid hE
    have hnn : ((n : Int) != (n : Int)) = false := by simp
    clear hE hl hm hn hm0
    go_enter Try.func13, Try.ntmps13
    go_wp2_with fail
    go_loopg [5] n (fun q iv wr => ∃ (i : Nat), iv = .int .i64 (i : Int) ∧ Hid (i ≤ n ∧ q = n - i ∧ l.take i = m.take i ∧ Below w.heap.size w wr))
    case atStart => exact ⟨0, rfl, Nat.zero_le _, rfl, rfl, HB.out⟩
    case round =>
      obtain ⟨i, rfl, HH⟩ := hrel
      obtain ⟨q1, q2, q3, q4⟩ := HH.out
      have HQ := Lib.hid q2
      have HP := Lib.hid q3
      have HBR := Lib.hid q4
      clear HH q2 q3 q4
      by_cases hlt : i < n
      · have hi' : (i : Int) < (n : Int) := by omega
        have hi0 : (0 : Int) ≤ (i : Int) := by omega
        have hl1 : i < l.length := by have := HN.out; omega
        have hm1' : i < m.length := by have := HMN.out; omega
        obtain ⟨b, o, rfl, p0⟩ := ints_at (HL.out.bl HBR.out) (List.getElem?_eq_getElem hl1)
        obtain ⟨b', o', rfl, p1⟩ := ints_at (HM.out.bl HBR.out) (List.getElem?_eq_getElem hm1')
        obtain ⟨x, hx⟩ : ∃ x, x = l[i] := ⟨_, rfl⟩
        obtain ⟨y, hy⟩ : ∃ y, y = m[i] := ⟨_, rfl⟩
        rw [← hx] at p0
        rw [← hy] at p1
        have HX := Lib.hid hx
        have HY := Lib.hid hy
        clear hx hy
        by_cases hxy : x = y
        · subst hxy
          have hxx : (x != x) = false := by simp
          go_wp2_with fail
          go_quiet (fail)
          go_wp2_with fail
          go_roundg (n - (i + 1))
          case measure => have := HQ.out; omega
          case rel => exact ⟨i + 1, by simp, by omega, rfl, take_next HP.out hl1 hm1' (HX.out.symm.trans HY.out), below_drewN' HBR.out _⟩
        · have hxb : (x != y) = true := by simpa using hxy
          have HXY := Lib.hid hxy
          clear hxy
          go_wp2_with fail
          go_quiet (fail)
          go_wp2_with fail
          go_ret
          refine ⟨?_, below_drewN' HBR.out _⟩
          have hne : ¬ l = m := fun e => by
            subst e
            exact HXY.out (HX.out.trans HY.out.symm)
          rw [HEE.out, decide_eq_false hne]
          rfl
      · obtain rfl : i = n := by omega
        have hd : decide ((i : Int) < (i : Int)) = false := by simp
        go_wp2_with fail
        go_ret
        refine ⟨?_, HBR.out⟩
        have h1 := HP.out
        rw [List.take_of_length_le (by have := HN.out; omega), List.take_of_length_le (by have := HMN.out; omega)] at h1
        rw [HEE.out, decide_eq_true h1]
        rfl
  · have heI : ¬ (n : Int) = (n' : Int) := by omega
    have hb2 : ((n : Int) != (n' : Int)) = true := by simpa using heI
    have hd : decide (l = m) = false := decide_eq_false fun h => he (by rw [hn, hm0, h])
    rw [hd]
    clear hl hm he hd hn hm0
    go_enter Try.func13, Try.ntmps13
    go_wp2_with fail
    go_ret
    exact ⟨rfl, HB.out⟩
set_option maxRecDepth 100000 in
set_option maxHeartbeats 2000000 in
theorem contains_any (l : List Int) (x : Int) (w : World) (ok : Nat → Prop) (A : Option Addr) (n c : Nat) (hl : Rd w ok (.slice A n c) (intsTr l)) :
    Calls Try.prog 42 #[.slice A n c, .int .i64 x] w fun e w' => e = .returned (.bool (decide (x ∈ l))) ∧ w = w' := by
  obtain ⟨hn, hn1, hn2⟩ := ints_len hl
  simp only [maxLen] at hn2
  have HL := Lib.hid hl
  have HN := Lib.hid hn
  obtain ⟨E, hE⟩ : ∃ E, E = decide (x ∈ l) := ⟨_, rfl⟩
  rw [← hE]
  have HEE := Lib.hid hE
  clear hE hl hn
  go_enter Try.func42, Try.ntmps42
  go_wp2_with fail
  go_loopg [5] n (fun q iv wr => ∃ (i : Nat), iv = .int .i64 (i : Int) ∧ Hid (i ≤ n ∧ q = n - i ∧ x ∉ l.take i ∧ w = wr))
  case atStart => exact ⟨0, rfl, Nat.zero_le _, rfl, by simp, rfl⟩
  case round =>
    obtain ⟨i, rfl, HH⟩ := hrel
    obtain ⟨q1, q2, q3, rfl⟩ := HH.out
    have HQ := Lib.hid q2
    have HP := Lib.hid q3
    clear HH q2 q3
    by_cases hlt : i < n
    · have hi' : (i : Int) < (n : Int) := by omega
      have hi0 : (0 : Int) ≤ (i : Int) := by omega
      have hl1 : i < l.length := by have := HN.out; omega
      obtain ⟨b, o, rfl, p0⟩ := ints_at HL.out (List.getElem?_eq_getElem hl1)
      obtain ⟨y, hy⟩ : ∃ y, y = l[i] := ⟨_, rfl⟩
      rw [← hy] at p0
      have HY := Lib.hid hy
      clear hy
      by_cases hxy : y = x
      · have hxb : (y == x) = true := by simpa using hxy
        have HXY := Lib.hid hxy
        clear hxy
        go_wp2_with fail
        go_ret
        refine ⟨?_, rfl⟩
        have hmem : x ∈ l := by
          rw [← HXY.out, HY.out]
          exact List.getElem_mem hl1
        rw [HEE.out, decide_eq_true hmem]
        rfl
      · have hxb : (y == x) = false := by simpa using hxy
        have HXY := Lib.hid hxy
        clear hxy
        go_wp2_with fail
        go_roundg (n - (i + 1))
        case measure => have := HQ.out; omega
        case rel =>
          refine ⟨i + 1, by simp, by omega, rfl, ?_, rfl⟩
          rw [List.take_add_one, List.getElem?_eq_getElem hl1, ← HY.out]
          simp only [Option.toList_some, List.mem_append, List.mem_singleton, not_or]
          exact ⟨HP.out, fun e => HXY.out e.symm⟩
    · obtain rfl : i = n := by omega
      have hd : decide ((i : Int) < (i : Int)) = false := by simp
      go_wp2_with fail
      go_ret
      refine ⟨?_, rfl⟩
      have h1 := HP.out
      rw [List.take_of_length_le (by have := HN.out; omega)] at h1
      rw [HEE.out, decide_eq_false h1]
      rfl
end Go.Proofs.Ytadpfhoenjodeaa
