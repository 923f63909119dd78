/- telref31.Inserted. -/
import Derived.Test.YtadpfhoenjodeaaInts
import Derived.Test.YtadpfhoenjodeaaApp
import Derived.Test.YtadpfhoenjodeaaSem
import Derived.Laws.Rows
set_option linter.unusedVariables false
set_option linter.unusedSimpArgs false
namespace Go.Proofs.Ytadpfhoenjodeaa
open Go.RowKit

theorem ints_flat (l : List Int) : ∀ e ∈ l.map (fun x => Tr.sc (.int .i64 x)), e.flat := by
  intro e he
  obtain ⟨x, _, rfl⟩ := List.mem_map.1 he
  exact ⟨_, rfl, rfl⟩
theorem above_int {l : List Int} {x : Int} {i : Nat} (hu : Up l) (hi : i < l.length) (h : x < l[i]) : ∀ y ∈ l.drop i, x < y := by
  intro y hy
  rw [List.drop_eq_getElem_cons hi, List.mem_cons] at hy
  rcases hy with rfl | hy
  · exact h
  · unfold Up at hu
    rw [← List.take_append_drop i l, List.pairwise_append, List.drop_eq_getElem_cons hi, List.pairwise_cons] at hu
    have := hu.2.1.1 y hy
    omega

set_option maxRecDepth 100000 in
set_option maxHeartbeats 4000000 in
theorem inserted_any (p : Int → Prop) (l : List Int) (x : Int) (w : World) (ok : Nat → Prop) (A : Option Addr) (n c : Nat) (hl : Rd w ok (.slice A n c) (intsTr l)) (hp : Lists p l) (hpl : PlainA A) (hsz : l.length ≤ 600000) :
    Calls Try.prog 40 #[.slice A n c, .int .i64 x] w fun e w' => ∃ A' c' Z, e = .returned (.slice A' Z.length c') ∧ Lists (fun y => p y ∨ y = x) Z ∧ PlainA A' ∧ Z.length ≤ l.length + 1 ∧ Rd w' (fun b => ok b ∨ w.heap.size ≤ b) (.slice A' Z.length c') (intsTr Z) ∧ Below w.heap.size w w' := by
  obtain ⟨i0, hi, hz0, hz1, hz2⟩ := info_parts int_info
  obtain ⟨hn, hn1, hn2⟩ := ints_len hl
  simp only [maxLen] at hn2
  have HL := Lib.hid hl
  have HN := Lib.hid hn
  have HP := Lib.hid hp
  have hns : n ≤ 600000 := by omega
  clear hl hn hp
  go_enter Try.func40, Try.ntmps40
  go_wp2_with fail
  go_loopg [5] n (fun q iv wr => ∃ (i : Nat), iv = .int .i64 (i : Int) ∧ Hid (i ≤ n ∧ q = n - i ∧ (∀ y ∈ l.take i, y < x) ∧ w = wr))
  case atStart => exact ⟨0, rfl, Nat.zero_le _, rfl, by simp, rfl⟩
  case round =>
    obtain ⟨i, rfl, HH⟩ := hrel
    obtain ⟨q1, q2, q3, rfl⟩ := HH.out
    have HQ := Lib.hid q2
    have HT := Lib.hid q3
    clear HH q2 q3
    by_cases hlt : i < n
    · have hi' : (i : Int) < (n : Int) := by omega
      have hi0 : (0 : Int) ≤ (i : Int) := by omega
      have hil : i < l.length := by have := HN.out; omega
      obtain ⟨b, o, rfl, p0⟩ := ints_at HL.out (List.getElem?_eq_getElem hil)
      obtain ⟨y, hy⟩ : ∃ y, y = l[i] := ⟨_, rfl⟩
      rw [← hy] at p0
      have HY := Lib.hid hy
      clear hy
      by_cases hyx : y < x
      · have HYX := Lib.hid hyx
        go_wp2_with fail
        go_roundg (n - (i + 1))
        case measure => have := HQ.out; omega
        case rel =>
          refine ⟨i + 1, by simp, by omega, rfl, fun z hz => ?_, rfl⟩
          rw [List.take_add_one, List.getElem?_eq_getElem hil, ← HY.out] at hz
          simp only [Option.toList_some, List.mem_append, List.mem_singleton] at hz
          rcases hz with hz | rfl
          · exact HT.out z hz
          · exact HYX.out
      · by_cases hyx2 : y = x
        · have hyb : (y == x) = true := by simpa using hyx2
          have HYX := Lib.hid hyx2
          clear hyx2
          go_wp2_with fail
          go_ret
          have hmem : x ∈ l := by rw [← HYX.out, HY.out]; exact List.getElem_mem hil
          exact ⟨some ⟨b, o, none⟩, c, l, by rw [← HN.out]; rfl, HP.out.have hmem, plain_some _ _, by omega, by rw [← HN.out]; exact HL.out.mono (fun b hb _ => .inl hb), Below.refl _ _⟩
        · have hyb : (y == x) = false := by simpa using hyx2
          have HAB := Lib.hid (above_int (x := x) HP.out.1 hil (by rw [← HY.out]; omega))
          clear hyx2
          have hic : (i : Int) ≤ (c : Int) := by omega
          have hin : (i : Int) ≤ (n : Int) := by omega
          have hf := HL.out.first (i := i) q1
          rw [Nat.mul_one, ← List.map_take] at hf
          obtain ⟨o', hif, ho'⟩ := if_addr b o i c 1
          have hs := HL.out.last q1 o' ho'
          simp only [← hif, Nat.mul_one, ← List.map_drop] at hs
          have HF := Lib.hid hf
          have HS := Lib.hid hs
          clear hf hs hif ho'
          go_wp2_with fail
          go_region_law (first
            | (refine step_append_flat _ rfl (.tmp 33) (.tmp 36) 22 rfl w.heap.size 3 i0 (.int .i64 0) 1 8 Try.underlying22 hi hz0 hz1 hz2 rfl (by omega) ok (.slice (some ⟨_, 0, none⟩) 0 0) 0 [] rfl (Own.empty _ _ _ _ _ (by simp) (by first | exact blk_new w _ | exact blk_new1 w _ _ | exact blk_new2 w _ _)) _ _ _ _ rfl (by first | exact (HF.out.alloc _).drew | exact ((HF.out.alloc _).alloc _).drew) (ints_flat _) (by simp only [maxLen]; omega) (by omega) (by simp <;> omega) _ rfl ?_; intro A1 c1 w1 hown1 hgrow1 hat1; rw [Nat.zero_add, List.nil_append] at hown1; have HB1 : Hid (Below w.heap.size w w1) := Lib.hid (by (first | exact bel_grown (bel_drew (bel_alloc (Below.refl _ _) _)) hgrow1 (by intro j hj; simp [Value.ownBlock] at hj; omega) | exact bel_grown (bel_drew (bel_alloc (bel_alloc (Below.refl _ _) _) _)) hgrow1 (by intro j hj; simp [Value.ownBlock] at hj; omega))))
            | (refine step_append_flat _ rfl (.tmp 37) (.tmp 39) 22 rfl w.heap.size 3 i0 (.int .i64 0) 1 8 Try.underlying22 hi hz0 hz1 hz2 rfl (by omega) (fun _ => True) (.slice A1 i c1) i _ rfl (by first | exact hown1 | exact hown1.alloc _) _ 1 _ [.sc (.int .i64 x)] rfl (one_rd trivial (by (first | exact heap_alloc_new w1 _ | exact (hgrow1.block (w.heap.size + 1) (by simp) (by simp [Value.ownBlock])).trans (blk_new2 w _ _) | exact (hgrow1.block w.heap.size (by simp; omega) (by simp [Value.ownBlock])).trans (blk_new1 w _ _)))) (ints_flat [x]) (by simp only [maxLen]; omega) (by omega) (by have := hgrow1.size; simp at this ⊢; omega) _ rfl ?_; intro A2 c2 w2 hown2 hgrow2 hat2; have HB2 : Hid (Below w.heap.size w w2) := Lib.hid (by first | exact bel_grown HB1.out hgrow2 (fun j hj => (hown1.lt j hj).1) | exact bel_grown (bel_alloc HB1.out _) hgrow2 (fun j hj => (hown1.lt j hj).1)))
            | (refine step_append_flat _ rfl (.tmp 40) (.tmp 43) 22 rfl w.heap.size 3 i0 (.int .i64 0) 1 8 Try.underlying22 hi hz0 hz1 hz2 rfl (by omega) ok (.slice A2 (i + 1) c2) (i + 1) _ rfl hown2 _ _ _ _ rfl (HS.out.bl HB2.out) (ints_flat _) (by simp only [maxLen]; omega) (by omega) (by have := hgrow1.size; have := hgrow2.size; simp at *; omega) _ rfl ?_; intro A3 c3 w3 hown3 hgrow3 hat3; have HB3 : Hid (Below w.heap.size w w3) := Lib.hid (bel_grown HB2.out hgrow3 (fun j hj => (hown2.lt j hj).1))))
          all_goals go_wp2_with fail
          all_goals
            go_ret
            have hu := HP.out.insert (k := i) (n := x) (by have := HN.out; omega) HT.out HAB.out
            have hlen : (l.take i ++ x :: l.drop i).length = i + 1 + (n - i) := by have := HN.out; rw [List.length_append, List.length_cons, List.length_take, List.length_drop]; omega
            refine ⟨A3, c3, l.take i ++ x :: l.drop i, by rw [hlen]; rfl, hu, plain_own hown3, by rw [hlen]; have := HN.out; omega, ?_, HB3.out⟩
            rw [hlen]
            have hr := hown3.rd (ok' := fun b => ok b ∨ w.heap.size ≤ b) (fun _ h => h.elim) (fun k hk => .inr (hown3.lt k hk).1)
            unfold intsTr
            simpa using hr
    · have hd : decide ((i : Int) < (n : Int)) = false := by simp; omega
      have HAB : Hid (∀ y ∈ l.drop i, x < y) := Lib.hid (by rw [List.drop_of_length_le (by have := HN.out; omega)]; simp)
      rcases HL.out.cells with ⟨rfl, rfl, rfl, hnil⟩ | ⟨a, us, rfl, -⟩
      · skip
        have hf : Rd w ok (.slice none 0 0) (.sl 3 1 ((l.take i).map fun x => Tr.sc (.int .i64 x))) := by
          obtain rfl : i = 0 := by omega
          exact .nil _ _
        have hs : Rd w ok (.slice none 0 0) (.sl 3 1 ((l.drop i).map fun x => Tr.sc (.int .i64 x))) := by
          have : l = [] := List.eq_nil_of_length_eq_zero (by have := HN.out; omega)
          rw [this, List.drop_nil]
          exact .nil _ _
        obtain rfl : i = 0 := by omega
        have HF := Lib.hid hf
        have HS := Lib.hid hs
        clear hf hs hnil hlt
        go_wp2_with fail
        go_region_law (first
          | (refine step_append_flat _ rfl (.tmp 33) (.tmp 36) 22 rfl w.heap.size 3 i0 (.int .i64 0) 1 8 Try.underlying22 hi hz0 hz1 hz2 rfl (by omega) ok (.slice (some ⟨_, 0, none⟩) 0 0) 0 [] rfl (Own.empty _ _ _ _ _ (by simp) (by first | exact blk_new w _ | exact blk_new1 w _ _ | exact blk_new2 w _ _)) _ _ _ _ rfl (by first | exact (HF.out.alloc _).drew | exact ((HF.out.alloc _).alloc _).drew) (ints_flat _) (by simp only [maxLen]; omega) (by omega) (by simp <;> omega) _ rfl ?_; intro A1 c1 w1 hown1 hgrow1 hat1; rw [Nat.zero_add, List.nil_append] at hown1; have HB1 : Hid (Below w.heap.size w w1) := Lib.hid (by (first | exact bel_grown (bel_drew (bel_alloc (Below.refl _ _) _)) hgrow1 (by intro j hj; simp [Value.ownBlock] at hj; omega) | exact bel_grown (bel_drew (bel_alloc (bel_alloc (Below.refl _ _) _) _)) hgrow1 (by intro j hj; simp [Value.ownBlock] at hj; omega))))
          | (refine step_append_flat _ rfl (.tmp 37) (.tmp 39) 22 rfl w.heap.size 3 i0 (.int .i64 0) 1 8 Try.underlying22 hi hz0 hz1 hz2 rfl (by omega) (fun _ => True) (.slice A1 0 c1) 0 _ rfl (by first | exact hown1 | exact hown1.alloc _) _ 1 _ [.sc (.int .i64 x)] rfl (one_rd trivial (by (first | exact heap_alloc_new w1 _ | exact (hgrow1.block (w.heap.size + 1) (by simp) (by simp [Value.ownBlock])).trans (blk_new2 w _ _) | exact (hgrow1.block w.heap.size (by simp; omega) (by simp [Value.ownBlock])).trans (blk_new1 w _ _)))) (ints_flat [x]) (by simp only [maxLen]; omega) (by omega) (by have := hgrow1.size; simp at this ⊢; omega) _ rfl ?_; intro A2 c2 w2 hown2 hgrow2 hat2; have HB2 : Hid (Below w.heap.size w w2) := Lib.hid (by first | exact bel_grown HB1.out hgrow2 (fun j hj => (hown1.lt j hj).1) | exact bel_grown (bel_alloc HB1.out _) hgrow2 (fun j hj => (hown1.lt j hj).1)))
          | (refine step_append_flat _ rfl (.tmp 40) (.tmp 43) 22 rfl w.heap.size 3 i0 (.int .i64 0) 1 8 Try.underlying22 hi hz0 hz1 hz2 rfl (by omega) ok (.slice A2 1 c2) 1 _ rfl hown2 _ _ _ _ rfl (HS.out.bl HB2.out) (ints_flat _) (by simp only [maxLen]; omega) (by omega) (by have := hgrow1.size; have := hgrow2.size; simp at *; omega) _ rfl ?_; intro A3 c3 w3 hown3 hgrow3 hat3; have HB3 : Hid (Below w.heap.size w w3) := Lib.hid (bel_grown HB2.out hgrow3 (fun j hj => (hown2.lt j hj).1))))
        all_goals go_wp2_with fail
        all_goals
          go_ret
          have hu := HP.out.insert (k := 0) (n := x) (by have := HN.out; omega) HT.out HAB.out
          have hlen : (l.take 0 ++ x :: l.drop 0).length = 1 := by have := HN.out; rw [List.length_append, List.length_cons, List.length_take, List.length_drop]; omega
          refine ⟨A3, c3, l.take 0 ++ x :: l.drop 0, by rw [hlen]; rfl, hu, plain_own hown3, by rw [hlen]; have := HN.out; omega, ?_, HB3.out⟩
          rw [hlen]
          have hr := hown3.rd (ok' := fun b => ok b ∨ w.heap.size ≤ b) (fun _ h => h.elim) (fun k hk => .inr (hown3.lt k hk).1)
          unfold intsTr
          simpa using hr
      · obtain ⟨b, o, rfl⟩ : ∃ b o, a = ⟨b, o, none⟩ := ⟨a.block, a.off, by cases a; have := hpl _ rfl; simp at this; subst this; rfl⟩
        have hlt2 : ¬ (i : Int) < (n : Int) := by omega
        have hlt3 : (n : Int) ≤ (i : Int) := by omega
        clear hlt
        have hic : (i : Int) ≤ (c : Int) := by omega
        have hin : (i : Int) ≤ (n : Int) := by omega
        have hf := HL.out.first (i := i) q1
        rw [Nat.mul_one, ← List.map_take] at hf
        obtain ⟨o', hif, ho'⟩ := if_addr b o i c 1
        have hs := HL.out.last q1 o' ho'
        simp only [← hif, Nat.mul_one, ← List.map_drop] at hs
        have HF := Lib.hid hf
        have HS := Lib.hid hs
        clear hf hs hif ho'
        go_wp2_with fail
        go_region_law (first
          | (refine step_append_flat _ rfl (.tmp 33) (.tmp 36) 22 rfl w.heap.size 3 i0 (.int .i64 0) 1 8 Try.underlying22 hi hz0 hz1 hz2 rfl (by omega) ok (.slice (some ⟨_, 0, none⟩) 0 0) 0 [] rfl (Own.empty _ _ _ _ _ (by simp) (by first | exact blk_new w _ | exact blk_new1 w _ _ | exact blk_new2 w _ _)) _ _ _ _ rfl (by first | exact (HF.out.alloc _).drew | exact ((HF.out.alloc _).alloc _).drew) (ints_flat _) (by simp only [maxLen]; omega) (by omega) (by simp <;> omega) _ rfl ?_; intro A1 c1 w1 hown1 hgrow1 hat1; rw [Nat.zero_add, List.nil_append] at hown1; have HB1 : Hid (Below w.heap.size w w1) := Lib.hid (by (first | exact bel_grown (bel_drew (bel_alloc (Below.refl _ _) _)) hgrow1 (by intro j hj; simp [Value.ownBlock] at hj; omega) | exact bel_grown (bel_drew (bel_alloc (bel_alloc (Below.refl _ _) _) _)) hgrow1 (by intro j hj; simp [Value.ownBlock] at hj; omega))))
          | (refine step_append_flat _ rfl (.tmp 37) (.tmp 39) 22 rfl w.heap.size 3 i0 (.int .i64 0) 1 8 Try.underlying22 hi hz0 hz1 hz2 rfl (by omega) (fun _ => True) (.slice A1 i c1) i _ rfl (by first | exact hown1 | exact hown1.alloc _) _ 1 _ [.sc (.int .i64 x)] rfl (one_rd trivial (by (first | exact heap_alloc_new w1 _ | exact (hgrow1.block (w.heap.size + 1) (by simp) (by simp [Value.ownBlock])).trans (blk_new2 w _ _) | exact (hgrow1.block w.heap.size (by simp; omega) (by simp [Value.ownBlock])).trans (blk_new1 w _ _)))) (ints_flat [x]) (by simp only [maxLen]; omega) (by omega) (by have := hgrow1.size; simp at this ⊢; omega) _ rfl ?_; intro A2 c2 w2 hown2 hgrow2 hat2; have HB2 : Hid (Below w.heap.size w w2) := Lib.hid (by first | exact bel_grown HB1.out hgrow2 (fun j hj => (hown1.lt j hj).1) | exact bel_grown (bel_alloc HB1.out _) hgrow2 (fun j hj => (hown1.lt j hj).1)))
          | (refine step_append_flat _ rfl (.tmp 40) (.tmp 43) 22 rfl w.heap.size 3 i0 (.int .i64 0) 1 8 Try.underlying22 hi hz0 hz1 hz2 rfl (by omega) ok (.slice A2 (i + 1) c2) (i + 1) _ rfl hown2 _ _ _ _ rfl (HS.out.bl HB2.out) (ints_flat _) (by simp only [maxLen]; omega) (by omega) (by have := hgrow1.size; have := hgrow2.size; simp at *; omega) _ rfl ?_; intro A3 c3 w3 hown3 hgrow3 hat3; have HB3 : Hid (Below w.heap.size w w3) := Lib.hid (bel_grown HB2.out hgrow3 (fun j hj => (hown2.lt j hj).1))))
        all_goals go_wp2_with fail
        all_goals
          go_ret
          have hu := HP.out.insert (k := i) (n := x) (by have := HN.out; omega) HT.out HAB.out
          have hlen : (l.take i ++ x :: l.drop i).length = i + 1 + (n - i) := by have := HN.out; rw [List.length_append, List.length_cons, List.length_take, List.length_drop]; omega
          refine ⟨A3, c3, l.take i ++ x :: l.drop i, by rw [hlen]; rfl, hu, plain_own hown3, by rw [hlen]; have := HN.out; omega, ?_, HB3.out⟩
          rw [hlen]
          have hr := hown3.rd (ok' := fun b => ok b ∨ w.heap.size ≤ b) (fun _ h => h.elim) (fun k hk => .inr (hown3.lt k hk).1)
          unfold intsTr
          simpa using hr
end Go.Proofs.Ytadpfhoenjodeaa
