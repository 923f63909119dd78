/- callstack: Replace. -/
import Derived.Test.YtadpfhoenjodeaaStk5
set_option linter.unusedVariables false
set_option linter.unusedSimpArgs false
namespace Go.Proofs.Ytadpfhoenjodeaa
open Go.RowKit Go.Maps

theorem ownsRow_set1 {w : World} {base t sz n g cap i : Nat} {us : List Value} (h : w.ownsRow base t sz (.slice (some ⟨g, 0, none⟩) n cap) n us) (hi : i < n * sz) (u : Value) :
    (w.setCell ⟨g, i, none⟩ u).ownsRow base t sz (.slice (some ⟨g, 0, none⟩) n cap) n (us.set i u) := by
  refine ⟨by rw [List.length_set]; exact h.1, ?_⟩
  rcases h.2 with ⟨h0, _⟩ | ⟨g', cap', cur, hv, hb, hh, hn, hc, hs, ht⟩
  · cases h0
  · cases hv
    refine .inr ⟨g, cap, cur.setIfInBounds i u, rfl, hb, ?_, hn, hc, by simpa using hs, ?_⟩
    · simp [World.setCell, Array.getElem?_modify, hh]
    · rw [Array.toList_setIfInBounds, List.take_set, ht]
theorem Own.set1 {w : World} {ok : Nat → Prop} {base t sz n g cap i : Nat} {es : List Tr} {u : Value} {e : Tr} (h : Own w ok base t sz (.slice (some ⟨g, 0, none⟩) n cap) n es) (hg : ¬ ok g) (hi : i < n * sz) (hr : Rd w ok u e) :
    Own (w.setCell ⟨g, i, none⟩ u) ok base t sz (.slice (some ⟨g, 0, none⟩) n cap) n (es.set i e) := by
  obtain ⟨us, h1, h2, h3⟩ := h
  refine ⟨us.set i u, ownsRow_set1 h1 hi u, by rw [List.length_set, List.length_set, h2], fun j u' e' hu he => ?_⟩
  rw [List.getElem?_set] at hu he
  have hlen : i < us.length := by rw [h1.1]; exact hi
  by_cases hij : i = j
  · subst hij
    rw [if_pos rfl, if_pos hlen] at hu
    rw [if_pos rfl, if_pos (by omega)] at he
    injection hu with hu
    injection he with he
    subst hu he
    exact hr.setCell hg u
  · rw [if_neg hij] at hu he
    exact (h3 j u' e' hu he).setCell hg u
theorem Own.set5 {w : World} {ok : Nat → Prop} {base t g cap n : Nat} {es0 : List Tr} {a b c d e : Tr} {x0 x1 x2 x3 x4 : Value} {y0 y1 y2 y3 y4 : Tr} (h : Own w ok base t 5 (.slice (some ⟨g, 0, none⟩) (n + 1) cap) (n + 1) (es0 ++ [a, b, c, d, e])) (hl : es0.length = n * 5) (hg : ¬ ok g)
    (h0 : Rd w ok x0 y0) (h1 : Rd w ok x1 y1) (h2 : Rd w ok x2 y2) (h3 : Rd w ok x3 y3) (h4 : Rd w ok x4 y4) :
    Own (((((w.setCell ⟨g, n * 5, none⟩ x0).setCell ⟨g, n * 5 + 1, none⟩ x1).setCell ⟨g, n * 5 + 2, none⟩ x2).setCell ⟨g, n * 5 + 3, none⟩ x3).setCell ⟨g, n * 5 + 4, none⟩ x4) ok base t 5 (.slice (some ⟨g, 0, none⟩) (n + 1) cap) (n + 1) (es0 ++ [y0, y1, y2, y3, y4]) := by
  have s0 := h.set1 (i := n * 5) hg (by omega) h0
  have s1 := s0.set1 (i := n * 5 + 1) hg (by omega) (h1.setCell hg _)
  have s2 := s1.set1 (i := n * 5 + 2) hg (by omega) ((h2.setCell hg _).setCell hg _)
  have s3 := s2.set1 (i := n * 5 + 3) hg (by omega) (((h3.setCell hg _).setCell hg _).setCell hg _)
  have s4 := s3.set1 (i := n * 5 + 4) hg (by omega) ((((h4.setCell hg _).setCell hg _).setCell hg _).setCell hg _)
  have e : (((((es0 ++ [a, b, c, d, e]).set (n * 5) y0).set (n * 5 + 1) y1).set (n * 5 + 2) y2).set (n * 5 + 3) y3).set (n * 5 + 4) y4 = es0 ++ [y0, y1, y2, y3, y4] := by
    rw [← hl]
    simp [List.set_append]
  rw [← e]
  exact s4

theorem own5_cells {w : World} {ok : Nat → Prop} {base t R cap n : Nat} {es : List Tr} (h : Own w ok base t 5 (.slice (some ⟨R, 0, none⟩) (n + 1) cap) (n + 1) es) :
    (∃ v, w.cell? ⟨R, n * 5, none⟩ = some v) ∧ (∃ v, w.cell? ⟨R, n * 5 + 1, none⟩ = some v) ∧ (∃ v, w.cell? ⟨R, n * 5 + 2, none⟩ = some v) ∧ (∃ v, w.cell? ⟨R, n * 5 + 3, none⟩ = some v) ∧ (∃ v, w.cell? ⟨R, n * 5 + 4, none⟩ = some v) ∧
    w.frozen? ⟨R, n * 5, none⟩ = false ∧ w.frozen? ⟨R, n * 5 + 1, none⟩ = false ∧ w.frozen? ⟨R, n * 5 + 2, none⟩ = false ∧ w.frozen? ⟨R, n * 5 + 3, none⟩ = false ∧ w.frozen? ⟨R, n * 5 + 4, none⟩ = false := by
  obtain ⟨us, ⟨h1, h2⟩, -⟩ := h
  rcases h2 with ⟨h0, _⟩ | ⟨g', cap', cur, hv, hb, hh, hn, hc, hs, ht⟩
  · cases h0
  · injection hv with a _ b
    injection a with a
    injection a with a
    subst a b
    have hm : (n + 1) * 5 ≤ cap * 5 := Nat.mul_le_mul_right 5 hn
    have hcell : ∀ k, k < 5 → ∃ v, w.cell? ⟨R, n * 5 + k, none⟩ = some v := fun k hk => by
      rw [cell_of_row w R (n * 5 + k) cur t (0, 0) hh]
      exact ⟨_, Array.getElem?_eq_getElem (by omega)⟩
    exact ⟨hcell 0 (by omega), hcell 1 (by omega), hcell 2 (by omega), hcell 3 (by omega), hcell 4 (by omega), tp_frozen hh _, tp_frozen hh _, tp_frozen hh _, tp_frozen hh _, tp_frozen hh _⟩
set_option maxRecDepth 100000 in
set_option maxHeartbeats 8000000 in
theorem replace_any (w : World) (g : Nat) (l : List DF) (f0 : DF) (h : SK w g (l ++ [f0])) (f : DF) (hf : vlsC f.slots ≤ 1000000) (hl : l.length ≤ 100000) (ok : Nat → Prop) (A : Option Addr) (c : Nat) (hr : Rd w ok (.slice A f.slots.length c) (vlsTr f.slots)) :
    Calls Try.prog 32 #[.pointer (some ⟨g, 0, none⟩), .agg #[.int .i64 f.code, .int .i64 f.meth, .int .i64 f.world, .int .i64 f.pc, .slice A f.slots.length c]] w fun e w' => e = .returned (.int .i64 (if f.ok then 0 else 1)) ∧ SK w' g (if f.ok then l ++ [f] else l ++ [f0]) ∧ Kp w w' (skS w g) := by
  have hgl := h.lt
  have H := Lib.hid h
  have HR := Lib.hid hr
  have HF := Lib.hid hf
  obtain ⟨As, cs, hblk, hown⟩ := h
  have hlen : (l ++ [f0]).length = l.length + 1 := by simp
  rw [hlen] at hblk hown
  obtain ⟨n, hn⟩ : ∃ n, n = l.length := ⟨_, rfl⟩
  rw [← hn] at hblk hown hl
  have HN := Lib.hid hn
  have hz : (((n : Int) + 1) == 0) = false := by simp; omega
  have hcast : ((n + 1 : Nat) : Int) = (n : Int) + 1 := by simp
  have hblkc := (cell_of_row _ _ 0 _ _ _ hblk).trans (c := some (.slice As (n + 1) cs)) rfl
  have HS : Hid (∀ b, Value.ownBlock (.slice As (n + 1) cs) = some b → skS w g b) := Lib.hid (fun b hb => .inr ⟨_, _, _, hblk, hb⟩)
  have HBLK := Lib.hid hblk
  have HO := Lib.hid hown
  by_cases hok : f.ok = true
  · obtain ⟨ok0, ho1, ho2⟩ := hown
    obtain ⟨R, cap, hAs, hR1, hR2, hR3, hR4⟩ : ∃ R cap, Value.slice As (n + 1) cs = .slice (some ⟨R, 0, none⟩) (n + 1) cap ∧ g + 1 ≤ R ∧ R < w.heap.size ∧ n + 1 ≤ cap ∧ cap ≤ maxLen := by
      rcases ho1.shape with ⟨h0, h1⟩ | h0
      · omega
      · exact h0
    injection hAs with hAs _ hcs
    subst hAs hcs
    simp only [maxLen] at hR4
    have HO0 := Lib.hid ho1
    have HOK0 := Lib.hid ho2
    rw [hok]
    have hw2 : IntKind.i64.wrap (n : Int) = (n : Int) := wrap_i64 (by omega) (by omega)
    have hi0 : (0 : Int) ≤ (n : Int) := by omega
    have hi1 : (n : Int) < (n : Int) + 1 := by omega
    clear hr hf hblk hlen hn ho1 ho2 hblkc
    go_enter Try.func32, Try.ntmps32
    have hgc0 : w.cell? ⟨g, 0, none⟩ = some (.slice (some ⟨R, 0, none⟩) (n + 1) cs) := (cell_of_row _ _ 0 _ _ _ HBLK.out).trans rfl
    go_upto_region 5 with (go_at_call 45; (with_reducible refine (validF_any f _ A c).mono ?_); rintro e w2 ⟨rfl, hb2⟩; rw [hok]; have hfb : w2.heap[w.heap.size]? = some (.cells #[.int .i64 f.code, .int .i64 f.meth, .int .i64 f.world, .int .i64 f.pc, .slice A f.slots.length c] 43 (0, 0)) := (hb2.block _ (by simp)).trans (blk_new w _); have hgb := below_blk (below_call (bel_alloc (Below.refl _ _) _) hb2) HBLK.out; have s0 : w2.cell? ⟨w.heap.size, 0, none⟩ = some (.int .i64 f.code) := (cell_of_row _ _ 0 _ _ _ hfb).trans rfl; have s1 : w2.cell? ⟨w.heap.size, 1, none⟩ = some (.int .i64 f.meth) := (cell_of_row _ _ 1 _ _ _ hfb).trans rfl; have s2 : w2.cell? ⟨w.heap.size, 2, none⟩ = some (.int .i64 f.world) := (cell_of_row _ _ 2 _ _ _ hfb).trans rfl; have s3 : w2.cell? ⟨w.heap.size, 3, none⟩ = some (.int .i64 f.pc) := (cell_of_row _ _ 3 _ _ _ hfb).trans rfl; have s4 : w2.cell? ⟨w.heap.size, 4, none⟩ = some (.slice A f.slots.length c) := (cell_of_row _ _ 4 _ _ _ hfb).trans rfl; have hgc : w2.cell? ⟨g, 0, none⟩ = some (.slice (some ⟨R, 0, none⟩) (n + 1) cs) := (cell_of_row _ _ 0 _ _ _ hgb).trans rfl; have HB2 := Lib.hid (below_call (bel_alloc (Below.refl _ _) _) hb2); have HGB := Lib.hid hgb; clear hb2 hfb hgb)
    go_region_law ((go_simp; go_at_call 46; (with_reducible refine (ownFrame_any f HF.out _ ok A f.slots.length c ((HR.out.bl HB2.out).drew)).mono ?_); rintro e w3 ⟨A2, c2, rfl, h1, h2⟩; have HR2 := Lib.hid (show Rd w3 (fun b => w2.heap.size ≤ b) (.slice A2 f.slots.length c2) (vlsTr f.slots) from h1); have HB3 := Lib.hid (show Below w2.heap.size w2 w3 from ⟨h2.os, h2.tape, h2.output, h2.size, h2.block⟩); have hgb3 := below_blk HB3.out HGB.out; have hgc3 : w3.cell? ⟨g, 0, none⟩ = some (.slice (some ⟨R, 0, none⟩) (n + 1) cs) := (cell_of_row _ _ 0 _ _ _ hgb3).trans rfl; have hg3lt := lt_of_block hgb3; have HGB3 := Lib.hid hgb3; obtain ⟨⟨q0, y0⟩, ⟨q1, y1⟩, ⟨q2, y2⟩, ⟨q3, y3⟩, ⟨q4, y4⟩, z0, z1, z2, z3, z4⟩ := own5_cells (HO0.out.below (below_call HB2.out HB3.out)); clear h1 h2 hgb3))
    all_goals go_wp2_with fail
    all_goals
      go_ret
      obtain ⟨ok', hok'⟩ : ∃ ok' : Nat → Prop, ok' = fun b => ok0 b ∨ (w2.heap.size ≤ b ∧ b < w3.heap.size) := ⟨_, rfl⟩
      have h23 := HB2.out.size
      have h33 := HB3.out.size
      have hR : ¬ ok' R := by
        rw [hok']
        rintro (h | h)
        · exact (HOK0.out R h).2.2 rfl
        · omega
      have hk0 : Kp w w3 (skS w g) := (Kp.of_below HB2.out (skS w g)).trans (Kp.of_below HB3.out fun _ => False) (fun _ _ h => h.elim)
      have hRS : skS w g R := HS.out R rfl
      have ho : Own w3 ok' (g + 1) 43 5 (.slice (some ⟨R, 0, none⟩) (n + 1) cs) (n + 1) (dfsE l ++ [.sc (.int .i64 f0.code), .sc (.int .i64 f0.meth), .sc (.int .i64 f0.world), .sc (.int .i64 f0.pc), vlsTr f0.slots]) := by
        have h := (HO0.out.below (below_call HB2.out HB3.out)).mono (ok' := ok') (fun b hb _ => by rw [hok']; exact .inl hb)
        rw [dfsE_append, dfsE_one] at h
        exact h
      have hs := ho.set5 (by rw [dfsE_length, HN.out]) hR (.sc (.int .i64 f.code)) (.sc (.int .i64 f.meth)) (.sc (.int .i64 f.world)) (.sc (.int .i64 f.pc)) (HR2.out.mono (fun b hb hlt => by rw [hok']; exact .inr ⟨hb, hlt⟩))
      refine ⟨by simp, ⟨some ⟨R, 0, none⟩, cs, ?_, ok', ?_, fun b hb => ?_⟩, ((((hk0.setCell (p := ⟨R, n * 5, none⟩) (.inl hRS) _).setCell (p := ⟨R, n * 5 + 1, none⟩) (.inl hRS) _).setCell (p := ⟨R, n * 5 + 2, none⟩) (.inl hRS) _).setCell (p := ⟨R, n * 5 + 3, none⟩) (.inl hRS) _).setCell (p := ⟨R, n * 5 + 4, none⟩) (.inl hRS) _⟩
      · have hne : R ≠ g := by omega
        have h1 := HGB3.out
        have h2 : (l ++ [f]).length = n + 1 := by simp [HN.out]
        rw [h2]
        simp [World.setCell, Array.getElem?_modify, hne, h1]
      · have h2 : (l ++ [f]).length = n + 1 := by simp [HN.out]
        rw [h2, dfsE_append, dfsE_one]
        exact hs
      · rw [hok'] at hb
        have hsz : ∀ (x0 x1 x2 x3 x4 : Value), (((((w3.setCell ⟨R, n * 5, none⟩ x0).setCell ⟨R, n * 5 + 1, none⟩ x1).setCell ⟨R, n * 5 + 2, none⟩ x2).setCell ⟨R, n * 5 + 3, none⟩ x3).setCell ⟨R, n * 5 + 4, none⟩ x4).heap.size = w3.heap.size := fun _ _ _ _ _ => by simp [World.setCell]
        rw [hsz]
        rcases hb with hb | hb
        · have h1 := HOK0.out b hb
          exact ⟨h1.1, by omega, h1.2.2⟩
        · refine ⟨by omega, hb.2, fun e => ?_⟩
          have : R = b := by simpa [Value.ownBlock] using e
          omega
  · have hok2 : f.ok = false := by simpa using hok
    rw [hok2]
    clear hr hf hblk hown hlen hn hok
    go_enter Try.func32, Try.ntmps32
    go_wp2_with (go_at_call 45; (with_reducible refine (validF_any f _ A c).mono ?_); rintro e w2 ⟨rfl, hb2⟩; rw [hok2]; have HB2 := Lib.hid (below_call (bel_alloc (Below.refl _ _) _) hb2); clear hb2)
    go_ret
    exact ⟨rfl, H.out.bl HB2.out, Kp.of_below HB2.out _⟩
end Go.Proofs.Ytadpfhoenjodeaa
