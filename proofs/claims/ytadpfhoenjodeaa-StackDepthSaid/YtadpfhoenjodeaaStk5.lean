/- callstack: Pop; telgen.Within. -/
import Derived.Test.YtadpfhoenjodeaaStk4
set_option linter.unusedVariables false
set_option linter.unusedSimpArgs false
namespace Go.Proofs.Ytadpfhoenjodeaa
open Go.RowKit Go.Maps

theorem Own.first {w : World} {ok : Nat → Prop} {base t sz n c i : Nat} {A : Option Addr} {es : List Tr} (h : Own w ok base t sz (.slice A n c) n es) (hi : i ≤ n) : Own w ok base t sz (.slice A i c) i (es.take (i * sz)) := by
  obtain ⟨us, ⟨h1, h2⟩, h3, h4⟩ := h
  have hm : i * sz ≤ n * sz := Nat.mul_le_mul_right _ hi
  refine ⟨us.take (i * sz), ⟨by rw [List.length_take]; omega, ?_⟩, by rw [List.length_take, List.length_take, h3], fun j u e hu he => ?_⟩
  · rcases h2 with ⟨h5, h6⟩ | ⟨g, cap, cur, h5, h6, h7, h8, h9, h10, h11⟩
    · injection h5 with a b d
      subst a b d
      left
      obtain rfl : i = 0 := by omega
      exact ⟨rfl, rfl⟩
    · injection h5 with a b d
      subst a d
      refine .inr ⟨g, c, cur, rfl, h6, h7, by omega, h9, h10, ?_⟩
      rw [← h11, List.take_take, Nat.min_eq_left hm]
  · have hj : j < i * sz := by have := (List.getElem?_eq_some_iff.1 hu).1; rw [List.length_take] at this; omega
    rw [List.getElem?_take_of_lt hj] at hu he
    exact h4 j u e hu he
theorem OwnD.first {w : World} {base t sz n c i : Nat} {A : Option Addr} {es : List Tr} (h : OwnD w base t sz (.slice A n c) n es) (hi : i ≤ n) : OwnD w base t sz (.slice A i c) i (es.take (i * sz)) := by
  obtain ⟨ok, h1, h2⟩ := h
  exact ⟨ok, h1.first hi, fun b hb => by
    obtain ⟨a1, a2, a3⟩ := h2 b hb
    refine ⟨a1, a2, fun e => a3 ?_⟩
    cases A with
    | none => simp [Value.ownBlock] at e
    | some x => exact e⟩
theorem topNil_any (w : World) (g : Nat) (h : SK w g []) : Calls Try.prog 49 #[.pointer (some ⟨g, 0, none⟩)] w fun e w' => e = .returned (.tuple #[.agg #[.int .i64 0, .int .i64 0, .int .i64 0, .int .i64 0, .slice none 0 0], .bool false]) ∧ Below w.heap.size w w' := by
  refine (top_any w g [] h (by simp) (by simp)).mono fun e w' hp => ?_
  rcases hp with ⟨-, h1, h2⟩ | ⟨l', f, A, c, h0, -⟩
  · exact ⟨h1, h2⟩
  · simp at h0
theorem topSnoc_any (w : World) (g : Nat) (l : List DF) (f : DF) (h : SK w g (l ++ [f])) (hl : (l ++ [f]).length ≤ 100000) (hsm : ∀ f' ∈ l ++ [f], vlsC (DF.slots f') ≤ 1000000) : Calls Try.prog 49 #[.pointer (some ⟨g, 0, none⟩)] w fun e w' => ∃ A c, e = .returned (.tuple #[.agg #[.int .i64 f.code, .int .i64 f.meth, .int .i64 f.world, .int .i64 f.pc, .slice A f.slots.length c], .bool true]) ∧ Rd w' (fun b => w.heap.size ≤ b) (.slice A f.slots.length c) (vlsTr f.slots) ∧ Below w.heap.size w w' := by
  refine (top_any w g _ h hl hsm).mono fun e w' hp => ?_
  rcases hp with ⟨h0, -⟩ | ⟨l', f', A, c, h0, h1, h2, h3⟩
  · simp at h0
  · obtain ⟨-, h4⟩ := List.append_inj' h0 rfl
    simp at h4
    subst h4
    exact ⟨A, c, h1, h2, h3⟩
theorem blk_old5 {w : World} {o o' : Obj} {k : Nat} (h : w.heap[k]? = some o') : (w.alloc o).heap[k]? = some o' := (heap_alloc_old w o (lt_of_block h)).trans h
theorem blk_set5_other {w : World} {B k : Nat} (h : B ≠ k) (a b c d e : Value) : (((((w.setCell ⟨B, 0, none⟩ (a)).setCell ⟨B, 1, none⟩ (b)).setCell ⟨B, 2, none⟩ (c)).setCell ⟨B, 3, none⟩ (d)).setCell ⟨B, 4, none⟩ (e)).heap[k]? = w.heap[k]? := by
  simp [World.setCell, Array.getElem?_modify, h]
/-- What Pop answers. -/
def PopPost (w : World) (g : Nat) (l : List DF) (e : Ending) (w' : World) : Prop :=
  (l = [] ∧ e = .returned (.tuple #[.agg #[.int .i64 0, .int .i64 0, .int .i64 0, .int .i64 0, .slice none 0 0], .bool false]) ∧ SK w' g [] ∧ Below w.heap.size w w') ∨
  ∃ l' f A c, l = l' ++ [f] ∧ e = .returned (.tuple #[.agg #[.int .i64 f.code, .int .i64 f.meth, .int .i64 f.world, .int .i64 f.pc, .slice A f.slots.length c], .bool true]) ∧ Rd w' (fun b => w.heap.size ≤ b) (.slice A f.slots.length c) (vlsTr f.slots) ∧ SK w' g l' ∧ Kp w w' fun b => b = g
set_option maxRecDepth 100000 in
set_option maxHeartbeats 8000000 in
theorem pop_any (w : World) (g : Nat) (l : List DF) (h : SK w g l) (hl : l.length ≤ 100000) (hsm : ∀ f ∈ l, vlsC (DF.slots f) ≤ 1000000) :
    Calls Try.prog 33 #[.pointer (some ⟨g, 0, none⟩)] w (PopPost w g l) := by
  have hgl := h.lt
  have HSK := Lib.hid h
  have HSM := Lib.hid hsm
  clear h hsm
  rcases List.eq_nil_or_concat l with rfl | ⟨l', f, rfl⟩
  · have HP : Hid (∀ e w', e = .returned (.tuple #[.agg #[.int .i64 0, .int .i64 0, .int .i64 0, .int .i64 0, .slice none 0 0], .bool false]) → SK w' g [] → Below w.heap.size w w' → PopPost w g [] e w') := Lib.hid (fun e w' h1 h2 h3 => .inl ⟨rfl, h1, h2, h3⟩)
    go_enter Try.func33, Try.ntmps33
    go_wp2_with (go_at_call 49; (with_reducible refine (topNil_any _ g (HSK.out.bl (bel_alloc (Below.refl _ _) _))).mono ?_; rintro e w3 ⟨rfl, h2⟩; have hrb : w3.heap[w.heap.size]? = some (.cells #[.int .i64 0, .int .i64 0, .int .i64 0, .int .i64 0, .slice none 0 0] 43 (0, 0)) := (h2.block _ (by simp)).trans (blk_new w _); have v0 : w3.cell? ⟨w.heap.size, 0, none⟩ = some (.int .i64 0) := (cell_of_row _ _ 0 _ _ _ hrb).trans rfl; have v1 : w3.cell? ⟨w.heap.size, 1, none⟩ = some (.int .i64 0) := (cell_of_row _ _ 1 _ _ _ hrb).trans rfl; have v2 : w3.cell? ⟨w.heap.size, 2, none⟩ = some (.int .i64 0) := (cell_of_row _ _ 2 _ _ _ hrb).trans rfl; have v3 : w3.cell? ⟨w.heap.size, 3, none⟩ = some (.int .i64 0) := (cell_of_row _ _ 3 _ _ _ hrb).trans rfl; have v4 : w3.cell? ⟨w.heap.size, 4, none⟩ = some (.slice none 0 0) := (cell_of_row _ _ 4 _ _ _ hrb).trans rfl; have k0 := tp_frozen hrb 0; have k1 := tp_frozen hrb 1; have k2 := tp_frozen hrb 2; have k3 := tp_frozen hrb 3; have k4 := tp_frozen hrb 4; have HRB := Lib.hid hrb; have HB3 := Lib.hid (below_call (bel_alloc (Below.refl _ _) _) h2); have hrlt := lt_of_block hrb; clear h2 hrb))
    refine bodyPost_ret (results_cell_row_tmp rfl _ _ w.heap.size _ _ (0, 0) _ rfl (blk_old5 (blk_set5 HRB.out _ _ _ _ _)) rfl rfl rfl) rfl ?_
    have hbel := bel_alloc ((kp_set5 (Kp.of_below HB3.out fun _ => False) (Nat.le_refl _) (.int .i64 0) (.int .i64 0) (.int .i64 0) (.int .i64 0) (.slice none 0 0)).below) (.cells #[.int .i64 0, .int .i64 0, .int .i64 0, .int .i64 0, .slice none 0 0] 43)
    exact HP.out _ _ rfl (HSK.out.bl hbel) hbel
  · rw [List.concat_eq_append] at hl HSK HSM
    rw [List.concat_eq_append]
    obtain ⟨As, cs, hblk, hown⟩ := HSK.out
    have hlen : (l' ++ [f]).length = l'.length + 1 := by simp
    rw [hlen] at hblk hown
    obtain ⟨n, hn⟩ : ∃ n, n = l'.length := ⟨_, rfl⟩
    rw [← hn] at hblk hown
    obtain ⟨A0, c0, e0, hc1, hc2⟩ := hown.slice
    injection e0 with e01 _ e02
    subst e01 e02
    simp only [maxLen] at hc2
    have hnl : n ≤ 100000 := by rw [hlen] at hl; omega
    have hfst := hown.first (i := n) (by omega)
    have hdf : (dfsE (l' ++ [f])).take (n * 5) = dfsE l' := by rw [dfsE_append, List.take_append_of_le_length (by rw [dfsE_length, hn]; exact Nat.le_refl _), List.take_of_length_le (by rw [dfsE_length, hn]; exact Nat.le_refl _)]
    rw [hdf] at hfst
    have HFST := Lib.hid hfst
    have HBLK := Lib.hid hblk
    have HN := Lib.hid hn
    have HLEN := Lib.hid hl
    have HP : Hid (∀ e w' A c, e = .returned (.tuple #[.agg #[.int .i64 f.code, .int .i64 f.meth, .int .i64 f.world, .int .i64 f.pc, .slice A f.slots.length c], .bool true]) → Rd w' (fun b => w.heap.size ≤ b) (.slice A f.slots.length c) (vlsTr f.slots) → SK w' g l' → Kp w w' (fun b => b = g) → PopPost w g (l' ++ [f]) e w') := Lib.hid (fun e w' A c h1 h2 h3 h4 => .inr ⟨l', f, A, c, by simp, h1, h2, h3, h4⟩)
    have hw2 : IntKind.i64.wrap (n : Int) = (n : Int) := wrap_i64 (by omega) (by omega)
    have hcI : (n : Int) ≤ (cs : Int) := by omega
    have hcast : ((n + 1 : Nat) : Int) = (n : Int) + 1 := by simp
    clear hown hfst hblk hn hl hlen hdf
    go_enter Try.func33, Try.ntmps33
    go_upto_region 3 with (go_at_call 49; (with_reducible refine (topSnoc_any _ g l' f (HSK.out.bl (bel_alloc (Below.refl _ _) _)) HLEN.out HSM.out).mono ?_; rintro e w3 ⟨A2, c2, rfl, h1, h2⟩; have hrb : w3.heap[w.heap.size]? = some (.cells #[.int .i64 0, .int .i64 0, .int .i64 0, .int .i64 0, .slice none 0 0] 43 (0, 0)) := (h2.block _ (by simp)).trans (blk_new w _); have v0 : w3.cell? ⟨w.heap.size, 0, none⟩ = some (.int .i64 0) := (cell_of_row _ _ 0 _ _ _ hrb).trans rfl; have v1 : w3.cell? ⟨w.heap.size, 1, none⟩ = some (.int .i64 0) := (cell_of_row _ _ 1 _ _ _ hrb).trans rfl; have v2 : w3.cell? ⟨w.heap.size, 2, none⟩ = some (.int .i64 0) := (cell_of_row _ _ 2 _ _ _ hrb).trans rfl; have v3 : w3.cell? ⟨w.heap.size, 3, none⟩ = some (.int .i64 0) := (cell_of_row _ _ 3 _ _ _ hrb).trans rfl; have v4 : w3.cell? ⟨w.heap.size, 4, none⟩ = some (.slice none 0 0) := (cell_of_row _ _ 4 _ _ _ hrb).trans rfl; have k0 := tp_frozen hrb 0; have k1 := tp_frozen hrb 1; have k2 := tp_frozen hrb 2; have k3 := tp_frozen hrb 3; have k4 := tp_frozen hrb 4; have hgb := below_blk (below_call (bel_alloc (Below.refl _ _) _) h2) HBLK.out; have hgc : w3.cell? ⟨g, 0, none⟩ = some (.slice As (n + 1) cs) := (cell_of_row _ _ 0 _ _ _ hgb).trans rfl; have hgf := tp_frozen hgb 0; have hg3 := lt_of_block hgb; have HGB := Lib.hid hgb; have HRB := Lib.hid hrb; have HR2 := Lib.hid h1; have HB3 := Lib.hid (below_call (bel_alloc (Below.refl _ _) _) h2); have hrlt := lt_of_block hrb; clear h1 h2 hrb hgb))
    go_region
    all_goals go_wp2_with fail
    all_goals
      have hne : g ≠ w.heap.size := by omega
      have hr1 : (w3.setCell ⟨g, 0, none⟩ (.slice As n cs)).heap[w.heap.size]? = some (.cells #[.int .i64 0, .int .i64 0, .int .i64 0, .int .i64 0, .slice none 0 0] 43 (0, 0)) := (Below.heap_setCell w3 ⟨g, 0, none⟩ _ w.heap.size (fun e => hne e.symm)).trans HRB.out
      have hg1 : (w3.setCell ⟨g, 0, none⟩ (.slice As n cs)).heap[g]? = some (.cells #[.slice As n cs] 90 (0, 0)) := by
        have := HGB.out
        simp [World.setCell, Array.getElem?_modify, this]
      have hkp := (kp_set5 ((Kp.of_below HB3.out fun b => b = g).setCell (p := ⟨g, 0, none⟩) (.inl rfl) (.slice As n cs)) (Nat.le_refl w.heap.size) (.int .i64 f.code) (.int .i64 f.meth) (.int .i64 f.world) (.int .i64 f.pc) (.slice A2 f.slots.length c2)).alloc (.cells #[.int .i64 f.code, .int .i64 f.meth, .int .i64 f.world, .int .i64 f.pc, .slice A2 f.slots.length c2] 43)
      refine bodyPost_ret (results_cell_row_tmp rfl _ _ w.heap.size _ _ (0, 0) _ rfl (blk_old5 (blk_set5 hr1 _ _ _ _ _)) rfl rfl rfl) rfl (HP.out _ _ A2 c2 rfl ?_ ⟨As, cs, ?_, ?_⟩ hkp.drew)
      · have h : Rd w3 (fun b => w.heap.size + 1 ≤ b) (.slice A2 f.slots.length c2) (vlsTr f.slots) := HR2.out.mono fun b hb _ => by simpa using hb
        exact ((((((((h.setCell (p := ⟨g, 0, none⟩) (by simp; omega) _).setCell (p := ⟨w.heap.size, 0, none⟩) (by simp) _).setCell (p := ⟨w.heap.size, 1, none⟩) (by simp) _).setCell (p := ⟨w.heap.size, 2, none⟩) (by simp) _).setCell (p := ⟨w.heap.size, 3, none⟩) (by simp) _).setCell (p := ⟨w.heap.size, 4, none⟩) (by simp) _).alloc _).drew).mono fun b hb _ => by omega
      · rw [← HN.out]
        exact blk_old5 ((blk_set5_other (fun e => hne e.symm) _ _ _ _ _).trans hg1)
      · rw [← HN.out]
        exact HFST.out.kp hkp.drew (fun b hb _ e => by omega)
end Go.Proofs.Ytadpfhoenjodeaa
