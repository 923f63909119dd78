/- Fault and SameNodes: what compares the two results. -/
import Derived.Test.YtoepnohmhpdeiaaRState
set_option linter.unusedVariables false
set_option linter.unusedSimpArgs false
namespace Go.Proofs.Ytoepnohmhpdeiaa
open Go.RowKit

set_option maxHeartbeats 400000 in
theorem fault_same (a b : Int) (w : World) : Calls Try.prog 11 #[.agg #[.int .i64 a, .int .i64 b], .agg #[.int .i64 a, .int .i64 b]] w fun e w' => e = .returned (.bool true) ∧ Below w.heap.size w w' := by
  have HB := Lib.hid (Below.refl w.heap.size w)
  go_enter Try.func11, Try.ntmps11
  go_wp2
  go_ret
  exact ⟨rfl, (HB.out.alloc (Nat.le_refl _) _).alloc (by simp) _⟩

theorem rd_nil_of {w : World} {ok : Nat → Prop} {A : Option Addr} {n c T : Nat} (h : Rd w ok (.slice A n c) (.sl T 4 (ndsTr T []))) : n = 0 := by
  have := h.len.1
  simp [ndsTr] at this
  omega

set_option maxRecDepth 100000 in
set_option maxHeartbeats 4000000 in
theorem same_any : ∀ (m : Nat) (l : List Nd), SizeOf.sizeOf l ≤ m → ∀ (w : World) (ok ok' : Nat → Prop) (A A' : Option Addr) (n n' c c' : Nat),
    Rd w ok (.slice A n c) (.sl 72 4 (ndsTr 72 l)) → Rd w ok' (.slice A' n' c') (.sl 80 4 (ndsTr 80 l)) →
    Calls Try.prog 12 #[.slice A n c, .slice A' n' c'] w fun e w' => e = .returned (.bool true) ∧ ∃ q, w' = w.drewN q := by
  intro m
  induction m with
  | zero =>
    intro l hl
    exfalso
    cases l with
    | nil => simp at hl
    | cons x l => simp at hl
  | succ m ih =>
    intro l hl w ok ok' A A' n n' c c' h1 h2
    have e1 := h1.len
    have e2 := h2.len
    rw [ndsTr_length] at e1 e2
    obtain rfl : n = l.length := by omega
    obtain rfl : n' = l.length := by omega
    have hc := e1.2.2
    simp only [maxLen] at hc
    have hL : (l.length : Int) ≤ 9223372036854775807 := by omega
    have H1 := Lib.hid h1
    have H2 := Lib.hid h2
    have IH := Lib.hid ih
    clear h1 h2 ih e1 e2
    go_enter Try.func12, Try.ntmps12
    go_wp2_with fail
    go_loopg [5] (l.length) (fun q iv wr => ∃ i d, iv = .int .i64 ((i : Nat) : Int) ∧ Hid (wr = w.drewN d ∧ i ≤ l.length ∧ q = l.length - i))
    case atStart => exact ⟨0, 0, rfl, rfl, Nat.zero_le _, rfl⟩
    case round =>
      obtain ⟨i, d, rfl, HR⟩ := hrel
      obtain ⟨rfl, r1, r2⟩ := HR.out
      have HQ := Lib.hid r2
      clear HR r2
      by_cases hi : i < l.length
      · have hx : l[i]? = some l[i] := List.getElem?_eq_getElem hi
        obtain ⟨x, hxe⟩ : ∃ x, x = l[i] := ⟨_, rfl⟩
        rw [← hxe] at hx
        have hsz : SizeOf.sizeOf x.kids ≤ m := by
          have h3 : SizeOf.sizeOf l[i] < SizeOf.sizeOf l := List.sizeOf_lt_of_mem (List.getElem_mem hi)
          rw [← hxe] at h3
          have h4 : SizeOf.sizeOf x.kids < SizeOf.sizeOf x := by cases x; simp [Nd.kids]; omega
          omega
        obtain ⟨b, o, KA, KN, KC, rfl, -, -, p0, p1, p2, p3, p4⟩ := nd_at H1.out hx
        obtain ⟨b', o', KA', KN', KC', rfl, -, -, p0', p1', p2', p3', p4'⟩ := nd_at H2.out hx
        have P3 := Lib.hid p3
        have P3' := Lib.hid p3'
        have HSZ := Lib.hid hsz
        clear p3 p3' hsz hx hxe
        have hi' : (i : Int) < (l.length : Int) := by omega
        have hi0 : (0 : Int) ≤ (i : Int) := by omega
        go_wp2_with fail
        go_quiet (((go_at_call 12; first | exact quiet_draws (IH.out x.kids HSZ.out _ _ _ _ _ _ _ _ _ (P3.out.drewN _) (P3'.out.drewN _)) | exact quiet_add_draws (IH.out x.kids HSZ.out _ _ _ _ _ _ _ _ _ (P3.out.drewN _) (P3'.out.drewN _)))))
        go_wp2_with fail
        go_roundg (l.length - (i + 1))
        case measure => have := HQ.out; omega
        case rel => exact ⟨i + 1, d + nq, by simp, rfl, by omega, rfl⟩
      · have hd : decide ((i : Int) < (l.length : Int)) = false := by simp; omega
        go_wp2_with fail
        go_ret
        exact ⟨rfl, d, rfl⟩
end Go.Proofs.Ytoepnohmhpdeiaa
