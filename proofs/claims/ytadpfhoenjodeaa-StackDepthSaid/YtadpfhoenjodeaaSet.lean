/- own.Set[int]: a set in memory; Sorted. -/
import Derived.Test.YtadpfhoenjodeaaInts
import Derived.Test.YtadpfhoenjodeaaShelf
import Derived.Maps.RangeWalk
import Derived.Maps.OwnSet
import Derived.Sort.OwnSortedInts
import Derived.Deep.AppendLies
set_option linter.unusedVariables false
set_option linter.unusedSimpArgs false
namespace Go.Proofs.Ytadpfhoenjodeaa
open Go.RowKit Go.Maps

theorem lawI : Keyed Try.prog 3 := int_keyed Try.underlying3
/-- A set of integers at block B. -/
def ST (w : World) (B n : Nat) (p : Int → Prop) : Prop := ∃ D : DataW Unit, w.ownsMap Try.prog 3 (plainElem Try.prog 4) B n D ∧ ∀ x, (Lit.int .i64 x).wf = true → ((Maps.has D (.int .i64 x) = true ↔ p x) ∧ D.atKey (.int .i64 x) (.lit (.bool false)) = .lit (.bool (Maps.has D (.int .i64 x))))
set_option maxRecDepth 100000 in
theorem bool_inv {v : Value} {y : DataW Unit × List MemPlace} (h : plainElem Try.prog 4 v = some y) : ∃ c, v = .bool c := by
  have hu := Try.underlying4
  unfold plainElem at h
  rw [hu] at h
  cases v <;> simp at h
  exact ⟨_, rfl⟩
def intsV (l : List Int) : List Value := l.map (Value.int .i64)
/-- What a loop over a set has met. -/
def Met (D : DataW Unit) (left : Lit → Bool) (ks : List Int) : Prop := ks.Nodup ∧ (∀ x ∈ ks, (Lit.int .i64 x).wf = true) ∧ ∀ x, (Lit.int .i64 x).wf = true → (x ∈ ks ↔ Maps.has D (.int .i64 x) = true ∧ left (.int .i64 x) = false)
theorem Met.start (D : DataW Unit) : Met D (Maps.has D) [] := ⟨List.nodup_nil, fun x h => (by cases h), fun x _ => (by cases Maps.has D (.int .i64 x) <;> simp)⟩
theorem Met.step {D : DataW Unit} {left : Lit → Bool} {ks : List Int} (h : Met D left ks) {x : Int} (hw : (Lit.int .i64 x).wf = true) (hl : left (.int .i64 x) = true) (hh : Maps.has D (.int .i64 x) = true) : Met D (fun z => left z && !z.sameKey (.int .i64 x)) (ks ++ [x]) := by
  obtain ⟨h1, h2, h3⟩ := h
  have hx : x ∉ ks := fun hx => by
    have := ((h3 x hw).1 hx).2
    rw [hl] at this
    cases this
  refine ⟨?_, fun y hy => ?_, fun y hy => ?_⟩
  · rw [List.nodup_append]
    exact ⟨h1, by simp, fun a ha b hb => by simp at hb; subst hb; exact fun e => hx (e ▸ ha)⟩
  · rw [List.mem_append] at hy
    rcases hy with hy | hy
    · exact h2 y hy
    · simp at hy; subst hy; exact hw
  · rw [List.mem_append, h3 y hy]
    have hs : (Lit.int .i64 y).sameKey (.int .i64 x) = decide (y = x) := by simp [Lit.sameKey]
    simp only [hs]
    by_cases e : y = x
    · subst e; simp [hh]
    · simp [e]

theorem rd_ints {w : World} {base B g cap n : Nat} {Z : List Int} (hB : B ≤ base) (h : w.ownsRow base 3 1 (.slice (some ⟨g, 0, none⟩) n cap) n (Z.map (Value.int .i64))) (hn : Z.length = n) : Rd w (fun b => B ≤ b) (.slice (some ⟨g, 0, none⟩) n cap) (intsTr Z) := by
  rcases h.2 with ⟨h, _⟩ | ⟨g', cap', cur, hsl, hbase, hb, h1, h2, h3, h4⟩
  · injection h with h; cases h
  · injection hsl with e1 _ e3
    injection e1 with e1
    injection e1 with e1
    subst e1 e3
    refine .row g 0 n cap _ 1 cur (0, 0) (Z.map (Value.int .i64)) _ (by omega) hb h1 h2 (by simp [hn]) (by simp [hn]) (fun j hj => ?_) (fun j u e hu he => ?_)
    · rw [← h4, Nat.zero_add, List.getElem?_take_of_lt (by omega), Array.getElem?_toList]
    · rw [List.getElem?_map] at hu he
      cases hz : Z[j]? with
      | none => rw [hz] at hu; cases hu
      | some z =>
        rw [hz] at hu he
        simp at hu he
        subst hu he
        exact .sc _
set_option maxRecDepth 100000 in
set_option maxHeartbeats 4000000 in
theorem sorted_any (B n : Nat) (p : Int → Prop) (w : World) (h : ST w B n p) (hn : n ≤ 1000000) :
    Calls Try.prog 41 #[.map (some B)] w fun e w' => ∃ A c Z, e = .returned (.slice A Z.length c) ∧ (∀ x ∈ Z, (Lit.int .i64 x).wf = true) ∧ Up Z ∧ (∀ x, (Lit.int .i64 x).wf = true → (x ∈ Z ↔ p x)) ∧ Rd w' (fun b => w.heap.size ≤ b) (.slice A Z.length c) (intsTr Z) ∧ Below w.heap.size w w' := by
  obtain ⟨D, hown, hD⟩ := h
  obtain ⟨i0, hi, hz0, hz1, hz2⟩ := info_parts int_info
  have hsz := hown.size_le
  have HD := Lib.hid hD
  have hBlt := hown.lt
  clear hD
  go_enter Try.func41, Try.ntmps41
  go_wp2_with (first
    | (at_range; refine wpList_range_own _ rfl _ 85 rfl 3 4 lawI Try.underlying85 _ B n _ rfl hown ?_; intro w0 hrg0 hg0 hs0)
    | go_in)
  go_frame
  go_loopg [3] (Maps.size D) (fun q lv wr => ∃ (A : Option Addr) (m C : Nat) (ks : List Int) (left : Lit → Bool), lv = .slice A m C ∧ Hid (ks.length = m ∧ m + q ≤ Maps.size D ∧ Met D left ks ∧ wr.ranges Try.prog 3 (plainElem Try.prog 4) B w.heap.size n D left q ∧ wr.ownsRow (w.heap.size + 1) 3 1 (.slice A m C) m (intsV ks) ∧ Below w.heap.size w wr ∧ w.heap.size + 1 ≤ wr.heap.size))
  case atStart => exact ⟨none, 0, 0, [], _, rfl, rfl, by omega, Met.start D, hrg0, ⟨rfl, .inl ⟨rfl, rfl⟩⟩, (Below.refl _ _).grown hg0 (Nat.le_refl _) (fun j hj => by cases hj), by omega⟩
  case round =>
    obtain ⟨A, m, C, ks, left, rfl, HH⟩ := hrel
    obtain ⟨q1, q2, q3, hrg, hrow, hbel, hs1⟩ := HH.out
    go_wp2_with (first
      | (at_next; refine wpList_next_ranges _ rfl _ rfl 3 lawI _ (Value.int .i64) (fun v : Value => v) (fun key kl hk => by obtain ⟨x, rfl, _⟩ := Maps.keyOf_int_inv Try.underlying3 hk; exact ⟨x, rfl⟩) (fun v y hv => ⟨v, rfl⟩) B w.heap.size n _ _ _ rfl hrg ?_ ?_)
      | go_in)
    · intro hc0 hl0
      obtain rfl := hc0
      have hnd := q3.1
      have hZ : ∀ x, (Lit.int .i64 x).wf = true → (x ∈ ks.mergeSort (fun x y => decide (x ≤ y)) ↔ p x) := fun x hx => by
        rw [(List.mergeSort_perm ks _).mem_iff, q3.2.2 x hx, (HD.out x hx).1, hl0]
        simp
      have hW : ∀ x ∈ ks.mergeSort (fun x y => decide (x ≤ y)), (Lit.int .i64 x).wf = true := fun x hx => q3.2.1 x ((List.mergeSort_perm ks _).mem_iff.1 hx)
      have hU := up_sort hnd
      rcases hrow.2 with ⟨hnil, h0⟩ | ⟨g, cap, cur, hsl, hbase, hb, h1, h2, h3, h4⟩
      · injection hnil with e1 e2 e3
        subst e1 e2 e3
        have hks : ks = [] := List.length_eq_zero_iff.1 q1
        subst hks
        go_wp2_with (go_at_call 54; (with_reducible refine (Try.slices_Sort_int_none _ _ _).mono ?_); rintro e w' ⟨rfl, rfl⟩)
        go_ret
        exact ⟨none, 0, [], rfl, by simp, List.Pairwise.nil, by simpa using hZ, .nil _ _, hbel⟩
      · injection hsl with e1 e2 e3
        subst e1 e3
        have hglt := lt_of_block hb
        have hH := holds_of_blockI (ss := ks) hb (by rw [q1]; simpa [intsV] using h4)
        have hlen : (ks.mergeSort fun x y => decide (x ≤ y)).length = ks.length := List.length_mergeSort _
        subst q1
        go_wp2_with (go_at_call 54; (with_reducible refine (Try.slices_Sort_int g 0 C ks wr hH hglt (by omega)).mono ?_); rintro e w' ⟨rfl, nn, os, rfl⟩)
        go_ret
        refine ⟨some ⟨g, 0, none⟩, C, _, (by rw [hlen]; rfl), hW, hU, hZ, ?_, hbel.grown (grownBy_sortedI _) hbel.size (fun j hj => by cases hj; omega)⟩
        rw [hlen]
        exact rd_ints (base := w.heap.size + 1) (by omega) (ownsRow_sortedI hlen hbase hb h1 h2 h3) hlen
    · intro x c kl yd yp w1 cnt1 hkey hlk hv hat hrg1 hlt hg1 hs2 hen
      obtain ⟨x', ex, rfl, hwx⟩ := Maps.keyOf_int_inv Try.underlying3 hkey
      cases ex
      have hg1s := hg1.size
      clear hs2
      have hrow1 := hrow.kept hg1 (.inr fun e => by have := (hrow.lt _ e).1; omega)
      have hhas := has_true_of_atKey hat
      have hmet := q3.step hwx hlk hhas
      go_wp2_with (at_builtin; refine wpList_append_lies _ rfl (.tmp 11) (.tmp 13) 22 rfl (w.heap.size + 1) 3 i0 (.int .i64 0) 1 8 Try.underlying22 hi hz0 hz1 hz2 rfl (by omega) (.slice A m C) m (intsV ks) rfl (by exact hrow1.alloc _) ⟨_, 0, none⟩ 1 1 [.int .i64 x] rfl rfl (World.news_of_block (cs := #[.int .i64 x]) (t := 3) (fr := (0, 0)) (heap_alloc_new w1 _)) (by simp [Value.oneCell']) (by omega) (by simp only [maxLen]; omega) (by omega) (by simp; omega) _ rfl ?_; intro g2 cap2 w2 hown3 hgrow2 hat3 hlt3)
      go_roundg cnt1
      case measure => exact hlt
      case rel =>
        refine ⟨some ⟨g2, 0, none⟩, m + 1, cap2, ks ++ [x], _, rfl, by simp [q1], ?_, hmet, ?_, by simpa [intsV] using hown3, ?_, ?_⟩
        · omega
        · exact (hrg1.alloc _).kept hgrow2 (fun e => by have := (hrow.lt _ e.symm).1; omega) (fun e => by have := (hrow.lt _ e.symm).1; omega)
        · have hb1 : Below w.heap.size w w1 := hbel.grown hg1 hbel.size (fun j hj => by cases hj; exact Nat.le_refl _)
          exact (hb1.alloc hb1.size _).grown hgrow2 (by have := hb1.size; simp; omega) (fun j hj => by have := (hrow.lt _ hj).1; omega)
        · have := hgrow2.size; simp at this; omega
end Go.Proofs.Ytadpfhoenjodeaa
