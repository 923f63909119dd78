/- tellaw37.codes: some compiled codes off a tape. -/
import Derived.Test.YtadpfhoenjodeaaCodes
import Derived.Test.YtadpfhoenjodeaaTape
import Derived.Deep.DeepCutAuto
set_option linter.unusedVariables false
set_option linter.unusedSimpArgs false
namespace Go.Proofs.Ytadpfhoenjodeaa
open Go.RowKit Go.Maps

/-- A tape at block g of which k numbers are read. -/
def TpK (w : World) (base g k : Nat) : Prop := ∃ A n c zf, Tp w base g A n c zf k
theorem TpK.kp {w w' : World} {base g k : Nat} {S : Nat → Prop} (h : TpK w base g k) (hk : Kp w w' S) (hg : ¬ S g) (hb : ∀ b, b < base → ¬ S b) : TpK w' base g k := by
  obtain ⟨A, n, c, zf, h⟩ := h
  exact ⟨A, n, c, zf, h.kp hk hg hb⟩
theorem TpK.bl {w w' : World} {base g k : Nat} (h : TpK w base g k) (hk : Below w.heap.size w w') : TpK w' base g k := h.kp (Kp.of_below hk fun _ => False) (fun h => h) (fun _ _ h => h)
theorem TpK.al {w : World} {base g k : Nat} (h : TpK w base g k) (o : Obj) : TpK (w.alloc o) base g k := h.bl ((Below.refl _ _).alloc (Nat.le_refl _) o)
theorem TpK.lt {w : World} {base g k : Nat} (h : TpK w base g k) : g < w.heap.size := by
  obtain ⟨A, n, c, zf, h⟩ := h
  exact h.lt
theorem TpK.bg {w : World} {base g k : Nat} (h : TpK w base g k) : base ≤ g := by
  obtain ⟨A, n, c, zf, h⟩ := h
  exact h.bg
theorem TpK.drew {w : World} {base g k : Nat} (h : TpK w base g k) : TpK w.drew base g k := by
  obtain ⟨A, n, c, zf, h⟩ := h
  exact ⟨A, n, c, zf, h.drew⟩
theorem Kp.undrew {w w' : World} {S : Nat → Prop} (h : Kp w.drew w' S) : Kp w w' S := ⟨h.os, h.tape, h.output, h.size, h.block⟩
theorem TpK.grown {w w' : World} {base g k : Nat} {row : Option Nat} (h : TpK w base g k) (hg : w.grownBy w' row) (hr : ∀ j, row = some j → j ≠ g ∧ base ≤ j) : TpK w' base g k :=
  h.kp (S := fun b => row = some b) ⟨hg.os, hg.tape, hg.output, hg.size, fun b hb hn => hg.block b hb fun e => hn e.symm⟩ (fun e => (hr g e).1 rfl) (fun b hb e => by have := (hr b e).2; omega)
theorem tn_any {w : World} {base g k : Nat} (m : Int) (hm0 : 0 < m) (hm1 : m ≤ 1000000000) (hk : k < 1000000) (h : TpK w base g k) :
    Calls Try.prog 26 #[.pointer (some ⟨g, 0, none⟩), .int .i64 m] w fun e w' => ∃ r, e = .returned (.int .i64 r) ∧ (0 ≤ r ∧ r < m) ∧ TpK w' base g (k + 1) ∧ Kp w w' fun b => b = g := by
  obtain ⟨A, n, c, zf, h⟩ := h
  refine (tnext_any m hm0 hm1 hk h).mono ?_
  rintro e w' ⟨rfl, h1, h2⟩
  exact ⟨_, rfl, tv_lt zf n k m hm0, ⟨A, n, c, zf, h1⟩, h2⟩
theorem blk_at (w : World) (o : Obj) {k : Nat} (h : k = w.heap.size) : (w.alloc o).heap[k]? = some o := by rw [h]; exact heap_alloc_new w o
theorem row_rd {w : World} {ok : Nat → Prop} {g t sz : Nat} (cs : List Value) (hl : cs.length = sz) (hg : ok g) (hb : w.heap[g]? = some (.cells cs.toArray t (0, 0))) : Rd w ok (.slice (some ⟨g, 0, none⟩) 1 1) (.sl t sz (cs.map .sc)) := by
  refine .row g 0 1 1 _ sz _ _ cs _ hg hb (Nat.le_refl _) (by simp [maxLen]) (by simp [hl]) (by simp [hl]) (fun j hj => by simp) (fun j u e hu he => ?_)
  rw [List.getElem?_map, hu] at he
  simp at he
  subst he
  exact .sc _

/-- The codes that codes makes. -/
def mkC (i m f t : Int) : Cc := ⟨i, m, 3, ⟨#[]⟩, 0, none, 0, 0, f, t, 0, 0, none, 0, 0, none, 0, 0, none, 0, 0, none, 0, 0⟩
def GoodC (j : Nat) (x : Cc) : Prop := ∃ m f t, x = mkC ((j : Int) + 1) m f t ∧ 1 ≤ m ∧ m ≤ 3 ∧ 1 ≤ f ∧ f ≤ 6 ∧ (t = 0 ∨ (f < t ∧ t ≤ 10))
def GoodCs (l : List Cc) : Prop := ∀ j x, l[j]? = some x → GoodC j x
theorem GoodCs.nil : GoodCs [] := by intro j x h; simp at h
theorem GoodCs.snoc {l : List Cc} {x : Cc} (h : GoodCs l) (hx : GoodC l.length x) : GoodCs (l ++ [x]) := by
  intro j y hy
  rw [List.getElem?_append] at hy
  split at hy
  · exact h j y hy
  · rename_i hj
    rcases Nat.eq_zero_or_pos (j - l.length) with h0 | h0
    · obtain rfl : j = l.length := by omega
      simp at hy
      subst hy
      exact hx
    · rw [List.getElem?_eq_none (by simp; omega)] at hy
      cases hy
theorem code_info : (Try.prog.info? 65).map (fun i => (i.zero, i.size, i.bytes)) = some (some (.agg #[.int .i64 0, .int .i64 0, .int .i64 0, .string ⟨#[]⟩, .int .i64 0, .slice none 0 0, .int .i64 0, .int .i64 0, .int .i64 0, .int .i64 0, .slice none 0 0, .slice none 0 0, .slice none 0 0, .slice none 0 0]), 14, 200) := by kernel_rfl
def ccsE (l : List Cc) : List Tr := l.flatMap fun x => x.vs.map Tr.sc
theorem ccs_flat (l : List Cc) : ∀ e ∈ ccsE l, e.flat := by
  intro e he
  unfold ccsE at he
  rw [List.mem_flatMap] at he
  obtain ⟨x, _, he⟩ := he
  obtain ⟨v, hv, rfl⟩ := List.mem_map.1 he
  refine ⟨v, rfl, ?_⟩
  simp only [Cc.vs, List.mem_cons, List.not_mem_nil, or_false] at hv
  rcases hv with h | h | h | h | h | h | h | h | h | h | h | h | h | h <;> subst h <;> rfl
theorem ccsE_snoc (l : List Cc) (x : Cc) : ccsE (l ++ [x]) = ccsE l ++ x.vs.map Tr.sc := by simp [ccsE]
theorem vs_flat (x : Cc) : ∀ e ∈ x.vs.map Tr.sc, e.flat := by
  have h := ccs_flat [x]
  simpa [ccsE] using h

set_option maxRecDepth 100000 in
set_option maxHeartbeats 8000000 in
theorem codes_any (N : Nat) (hN : N ≤ 1000) (base g k0 : Nat) (hk0 : k0 ≤ 100000) (w : World) (ht : TpK w base g k0) :
    Calls Try.prog 9 #[.pointer (some ⟨g, 0, none⟩), .int .i64 (N : Int)] w fun e w' => ∃ A c l k, e = .returned (.slice A l.length c) ∧ l.length = N ∧ GoodCs l ∧ TpK w' base g k ∧ k ≤ k0 + 4 * N ∧ Rd w' (fun b => w.heap.size ≤ b) (.slice A l.length c) (ccsTr l) ∧ Kp w w' fun b => b = g := by
  obtain ⟨i0, hi, hz0, hz1, hz2⟩ := info_parts code_info
  have HT := Lib.hid ht
  have hgl := ht.lt
  have hbg := ht.bg
  have hNI : (N : Int) ≤ 1000 := by omega
  clear ht
  go_enter Try.func9, Try.ntmps9
  go_wp2_with fail
  go_loopg [5, 6] N (fun q lv iv wr => ∃ (i : Nat) (A : Option Addr) (C : Nat) (l : List Cc) (k : Nat), lv = .slice A i C ∧ iv = .int .i64 ((i : Int) + 1) ∧ Hid (i ≤ N ∧ q = N - i ∧ l.length = i ∧ GoodCs l ∧ TpK wr base g k ∧ k ≤ k0 + 4 * i ∧ Own wr (fun _ => False) w.heap.size 65 14 (.slice A i C) i (ccsE l) ∧ Kp w wr fun b => b = g))
  case atStart => exact ⟨0, none, 0, [], k0, rfl, rfl, Nat.zero_le _, rfl, rfl, GoodCs.nil, HT.out, by omega, Own.nil _ _ _ _ _, Kp.refl _ _⟩
  case round =>
    clear HT
    obtain ⟨i, A, C, l, k, rfl, rfl, HH⟩ := hrel
    obtain ⟨q1, q2, q3, q4, q5, q6, q7, q8⟩ := HH.out
    have HQ := Lib.hid q2
    have HLL := Lib.hid q3
    have HG := Lib.hid q4
    have HT := Lib.hid q5
    have HO := Lib.hid q7
    have HKP := Lib.hid q8
    clear HH q2 q3 q4 q5 q7 q8
    by_cases hlt : i < N
    · have hi' : (i : Int) + 1 ≤ (N : Int) := by omega
      have hw1 : wrap64 ((i : Int) + 1 + 1) = (i : Int) + 1 + 1 := by unfold wrap64; omega
      go_upto_region 6 with (first
        | (go_at_call 26; (with_reducible refine (tn_any 6 (by omega) (by omega) (by omega) HT1.out).mono ?_); rintro e w2 ⟨r2, rfl, hr2, ht2, hkp2⟩; have HR2 := Lib.hid hr2; have HT2 := Lib.hid ht2; have HKP2 := Lib.hid (HKP1.out.trans hkp2 (fun b _ h => h)); have HO2 := Lib.hid (HO1.out.kp hkp2 (fun _ h => h.elim) (fun b hb e => by have := (HO1.out.lt b hb).1; omega)); have hw3 : wrap64 (1 + r2) = 1 + r2 := (by unfold wrap64; omega); clear hr2 ht2 hkp2)
        | (go_at_call 26; (with_reducible refine (tn_any 3 (by omega) (by omega) (by omega) HT.out).mono ?_); rintro e w1 ⟨r1, rfl, hr1, ht1, hkp1⟩; have HR1 := Lib.hid hr1; have HT1 := Lib.hid ht1; have HKP1 := Lib.hid (HKP.out.trans hkp1 (fun b _ h => h)); have HO1 := Lib.hid (HO.out.kp hkp1 (fun _ h => h.elim) (fun b hb e => by have := (HO.out.lt b hb).1; omega)); have hw2 : wrap64 (1 + r1) = 1 + r1 := (by unfold wrap64; omega); clear hr1 ht1 hkp1))
      obtain ⟨gx, hgx⟩ : ∃ gx, gx = w2.heap.size := ⟨_, rfl⟩
      obtain ⟨W, hW⟩ : ∃ W, W = w2.alloc (.cells #[.int .i64 ((i : Int) + 1), .int .i64 (1 + r1), .int .i64 3, .string ⟨#[]⟩, .int .i64 0, .slice none 0 0, .int .i64 (1 + r2), .int .i64 0, .int .i64 0, .int .i64 0, .slice none 0 0, .slice none 0 0, .slice none 0 0, .slice none 0 0] 65) := ⟨_, rfl⟩
      have hbx : W.heap[gx]? = some (.cells #[.int .i64 ((i : Int) + 1), .int .i64 (1 + r1), .int .i64 3, .string ⟨#[]⟩, .int .i64 0, .slice none 0 0, .int .i64 (1 + r2), .int .i64 0, .int .i64 0, .int .i64 0, .slice none 0 0, .slice none 0 0, .slice none 0 0, .slice none 0 0] 65 (0, 0)) := by rw [hW, hgx]; exact blk_new w2 _
      have ht3 : TpK W base g (k + 1 + 1) := by rw [hW]; exact HT2.out.al _
      have hkp3 : Kp w W fun b => b = g := by rw [hW]; exact HKP2.out.alloc _
      have ho3 : Own W (fun _ => False) w.heap.size 65 14 (.slice A i C) i (ccsE l) := by rw [hW]; exact HO2.out.alloc _
      have hgxg : gx ≠ g := by have := HT2.out.lt; omega
      have hgxo : ∀ b, Value.ownBlock (.slice A i C) = some b → b ≠ gx := fun b hb => by have := (HO2.out.lt b hb).2; omega
      have hgx2 : w.heap.size ≤ gx := by rw [hgx]; exact HKP2.out.size
      rw [← hW, ← hgx]
      have HBX := Lib.hid hbx
      have HT3 := Lib.hid ht3
      have HKP3 := Lib.hid hkp3
      have HO3 := Lib.hid ho3
      have HGO := Lib.hid hgxo
      clear hbx ht3 hkp3 ho3 hW hgx HT2 HKP2 HO2 HT1 HKP1 HO1 hgxo
      go_wp2_with (first
        | (go_at_call 26; (with_reducible refine (tn_any 3 (by omega) (by omega) (by omega) HT3.out).mono ?_); rintro e w4 ⟨r3, rfl, hr3, ht4, hkp4⟩; have HR3 := Lib.hid hr3; have HT4 := Lib.hid ht4; have HKP4 := Lib.hid (HKP3.out.trans hkp4 (fun b _ h => h)); have HO4 := Lib.hid (HO3.out.kp hkp4 (fun _ h => h.elim) (fun b hb e => by have := (HO3.out.lt b hb).1; omega)); have HBX4 := Lib.hid (hkp4.blk HBX.out hgxg); clear hr3 ht4 hkp4; have s0 : w4.cell? ⟨gx, 0, none⟩ = some (.int .i64 ((i : Int) + 1)) := (cell_of_row _ _ 0 _ _ _ HBX4.out).trans rfl; have s1 : w4.cell? ⟨gx, 1, none⟩ = some (.int .i64 (1 + r1)) := (cell_of_row _ _ 1 _ _ _ HBX4.out).trans rfl; have s2 : w4.cell? ⟨gx, 2, none⟩ = some (.int .i64 3) := (cell_of_row _ _ 2 _ _ _ HBX4.out).trans rfl; have s3 : w4.cell? ⟨gx, 3, none⟩ = some (.string ⟨#[]⟩) := (cell_of_row _ _ 3 _ _ _ HBX4.out).trans rfl; have s4 : w4.cell? ⟨gx, 4, none⟩ = some (.int .i64 0) := (cell_of_row _ _ 4 _ _ _ HBX4.out).trans rfl; have s5 : w4.cell? ⟨gx, 5, none⟩ = some (.slice none 0 0) := (cell_of_row _ _ 5 _ _ _ HBX4.out).trans rfl; have s6 : w4.cell? ⟨gx, 6, none⟩ = some (.int .i64 (1 + r2)) := (cell_of_row _ _ 6 _ _ _ HBX4.out).trans rfl; have s7 : w4.cell? ⟨gx, 7, none⟩ = some (.int .i64 0) := (cell_of_row _ _ 7 _ _ _ HBX4.out).trans rfl; have s8 : w4.cell? ⟨gx, 8, none⟩ = some (.int .i64 0) := (cell_of_row _ _ 8 _ _ _ HBX4.out).trans rfl; have s9 : w4.cell? ⟨gx, 9, none⟩ = some (.int .i64 0) := (cell_of_row _ _ 9 _ _ _ HBX4.out).trans rfl; have s10 : w4.cell? ⟨gx, 10, none⟩ = some (.slice none 0 0) := (cell_of_row _ _ 10 _ _ _ HBX4.out).trans rfl; have s11 : w4.cell? ⟨gx, 11, none⟩ = some (.slice none 0 0) := (cell_of_row _ _ 11 _ _ _ HBX4.out).trans rfl; have s12 : w4.cell? ⟨gx, 12, none⟩ = some (.slice none 0 0) := (cell_of_row _ _ 12 _ _ _ HBX4.out).trans rfl; have s13 : w4.cell? ⟨gx, 13, none⟩ = some (.slice none 0 0) := (cell_of_row _ _ 13 _ _ _ HBX4.out).trans rfl)
        | (at_builtin; refine wpList_append_flat _ rfl (.tmp 32) (.tmp 34) 24 rfl w.heap.size 65 i0 _ 14 200 Try.underlying24 hi hz0 hz1 hz2 rfl (by omega) (fun _ => True) (.slice A i C) i (ccsE l) rfl (HO4.out.alloc _) _ 1 1 ((mkC ((i : Int) + 1) (1 + r1) (1 + r2) 0).vs.map Tr.sc) rfl (row_rd _ rfl trivial (blk_at _ _ (by simp))) (vs_flat _) (by simp only [maxLen]; omega) (by omega) (by have := HKP4.out.size; simp at this ⊢; omega) _ rfl ?_; intro A2 c2 w9 hown9 hgrow9 hat9))
      · go_region_law ((go_simp; go_at_call 26; (with_reducible refine (tn_any 4 (by omega) (by omega) (by omega) HT4.out.drew).mono ?_); rintro e w5 ⟨r4, rfl, hr4, ht5, hkp5⟩; have HR4 := Lib.hid hr4; have HT5 := Lib.hid ht5; have HKP5 := Lib.hid (HKP4.out.trans hkp5.undrew (fun b _ h => h)); have HO5 := Lib.hid (HO4.out.kp hkp5.undrew (fun _ h => h.elim) (fun b hb e => by have := (HO4.out.lt b hb).1; omega)); have HBX5 := Lib.hid (hkp5.undrew.blk HBX4.out hgxg); have hfz := tp_frozen HBX5.out 7; have hw5 : wrap64 (1 + r2 + 1) = 1 + r2 + 1 := (by have := HR2.out; unfold wrap64; omega); have hw6 : wrap64 (1 + r2 + 1 + r4) = 1 + r2 + 1 + r4 := (by have := HR2.out; unfold wrap64; omega); clear hr4 ht5 hkp5; have v0 : w5.cell? ⟨gx, 0, none⟩ = some (.int .i64 ((i : Int) + 1)) := (cell_of_row _ _ 0 _ _ _ HBX5.out).trans rfl; have v1 : w5.cell? ⟨gx, 1, none⟩ = some (.int .i64 (1 + r1)) := (cell_of_row _ _ 1 _ _ _ HBX5.out).trans rfl; have v2 : w5.cell? ⟨gx, 2, none⟩ = some (.int .i64 3) := (cell_of_row _ _ 2 _ _ _ HBX5.out).trans rfl; have v3 : w5.cell? ⟨gx, 3, none⟩ = some (.string ⟨#[]⟩) := (cell_of_row _ _ 3 _ _ _ HBX5.out).trans rfl; have v4 : w5.cell? ⟨gx, 4, none⟩ = some (.int .i64 0) := (cell_of_row _ _ 4 _ _ _ HBX5.out).trans rfl; have v5 : w5.cell? ⟨gx, 5, none⟩ = some (.slice none 0 0) := (cell_of_row _ _ 5 _ _ _ HBX5.out).trans rfl; have v6 : w5.cell? ⟨gx, 6, none⟩ = some (.int .i64 (1 + r2)) := (cell_of_row _ _ 6 _ _ _ HBX5.out).trans rfl; have v7 : w5.cell? ⟨gx, 7, none⟩ = some (.int .i64 0) := (cell_of_row _ _ 7 _ _ _ HBX5.out).trans rfl; have v8 : w5.cell? ⟨gx, 8, none⟩ = some (.int .i64 0) := (cell_of_row _ _ 8 _ _ _ HBX5.out).trans rfl; have v9 : w5.cell? ⟨gx, 9, none⟩ = some (.int .i64 0) := (cell_of_row _ _ 9 _ _ _ HBX5.out).trans rfl; have v10 : w5.cell? ⟨gx, 10, none⟩ = some (.slice none 0 0) := (cell_of_row _ _ 10 _ _ _ HBX5.out).trans rfl; have v11 : w5.cell? ⟨gx, 11, none⟩ = some (.slice none 0 0) := (cell_of_row _ _ 11 _ _ _ HBX5.out).trans rfl; have v12 : w5.cell? ⟨gx, 12, none⟩ = some (.slice none 0 0) := (cell_of_row _ _ 12 _ _ _ HBX5.out).trans rfl; have v13 : w5.cell? ⟨gx, 13, none⟩ = some (.slice none 0 0) := (cell_of_row _ _ 13 _ _ _ HBX5.out).trans rfl))
        all_goals
          have hset : (w5.setCell ⟨gx, 7, none⟩ (.int .i64 (1 + r2 + 1 + r4))).heap[gx]? = some (.cells #[.int .i64 ((i : Int) + 1), .int .i64 (1 + r1), .int .i64 3, .string ⟨#[]⟩, .int .i64 0, .slice none 0 0, .int .i64 (1 + r2), .int .i64 (1 + r2 + 1 + r4), .int .i64 0, .int .i64 0, .slice none 0 0, .slice none 0 0, .slice none 0 0, .slice none 0 0] 65 (0, 0)) := by
            have := HBX5.out
            simp [World.setCell, Array.getElem?_modify, this]
          have HT6 := Lib.hid (HT5.out.kp (S := fun b => b = gx) ((Kp.refl w5 fun b => b = gx).setCell (p := ⟨gx, 7, none⟩) (.inl rfl) (.int .i64 (1 + r2 + 1 + r4))) (fun e => hgxg e.symm) (fun b hb e => by omega))
          have HKP6 := Lib.hid (HKP5.out.setCell (p := ⟨gx, 7, none⟩) (.inr hgx2) (.int .i64 (1 + r2 + 1 + r4)))
          have HO6 := Lib.hid (HO5.out.setCell (p := ⟨gx, 7, none⟩) (fun h => h) (fun e => HGO.out _ e rfl) (.int .i64 (1 + r2 + 1 + r4)))
          clear hset
          go_wp2_with ((at_builtin; refine wpList_append_flat _ rfl (.tmp 32) (.tmp 34) 24 rfl w.heap.size 65 i0 _ 14 200 Try.underlying24 hi hz0 hz1 hz2 rfl (by omega) (fun _ => True) (.slice A i C) i (ccsE l) rfl (HO6.out.alloc _) _ 1 1 ((mkC ((i : Int) + 1) (1 + r1) (1 + r2) (1 + r2 + 1 + r4)).vs.map Tr.sc) rfl (row_rd _ rfl trivial (blk_at _ _ (by simp))) (vs_flat _) (by simp only [maxLen]; omega) (by omega) (by have := HKP6.out.size; simp at this ⊢; omega) _ rfl ?_; intro A2 c2 w9 hown9 hgrow9 hat9))
          go_roundg (N - (i + 1))
          case measure => have := HQ.out; omega
          case rel =>
            have hrow : ∀ j, Value.ownBlock (.slice A i C) = some j → w.heap.size ≤ j := fun j hj => (HO6.out.lt j hj).1
            have hlen := HLL.out
            have b1 := HR1.out
            have b2 := HR2.out
            refine ⟨i + 1, A2, c2, l ++ [mkC ((i : Int) + 1) (1 + r1) (1 + r2) (1 + r2 + 1 + r4)], _, rfl, by simp, by omega, rfl, by simp [hlen], HG.out.snoc ⟨1 + r1, 1 + r2, (1 + r2 + 1 + r4), by rw [hlen], by omega, by omega, by omega, by omega, .inr (by have := HR4.out; omega)⟩, (HT6.out.al _).grown hgrow9 (fun j hj => by have := hrow j hj; omega), by omega, by rw [ccsE_snoc]; exact hown9, (HKP6.out.alloc _).grown hgrow9 (fun j hj => .inr (hrow j hj))⟩
      · skip
        go_roundg (N - (i + 1))
        case measure => have := HQ.out; omega
        case rel =>
          have hrow : ∀ j, Value.ownBlock (.slice A i C) = some j → w.heap.size ≤ j := fun j hj => (HO4.out.lt j hj).1
          have hlen := HLL.out
          have b1 := HR1.out
          have b2 := HR2.out
          refine ⟨i + 1, A2, c2, l ++ [mkC ((i : Int) + 1) (1 + r1) (1 + r2) 0], _, rfl, by simp, by omega, rfl, by simp [hlen], HG.out.snoc ⟨1 + r1, 1 + r2, 0, by rw [hlen], by omega, by omega, by omega, by omega, .inl rfl⟩, (HT4.out.al _).grown hgrow9 (fun j hj => by have := hrow j hj; omega), by omega, by rw [ccsE_snoc]; exact hown9, (HKP4.out.alloc _).grown hgrow9 (fun j hj => .inr (hrow j hj))⟩
    · obtain rfl : i = N := by omega
      have hi' : ¬ (i : Int) + 1 ≤ (i : Int) := by omega
      go_wp2_with fail
      go_ret
      have hlen := HLL.out
      exact ⟨A, C, l, by rw [hlen]; rfl, hlen, HG.out, k, HT.out, q6, by rw [hlen]; exact HO.out.rd (fun _ h => h.elim) (fun j hj => (HO.out.lt j hj).1), HKP.out⟩
theorem codesZ_any (z : Int) (N : Nat) (hz : z = (N : Int)) (hN : N ≤ 1000) (base g k0 : Nat) (hk0 : k0 ≤ 100000) (w : World) (ht : TpK w base g k0) :
    Calls Try.prog 9 #[.pointer (some ⟨g, 0, none⟩), .int .i64 z] w fun e w' => ∃ A c l, e = .returned (.slice A l.length c) ∧ l.length = N ∧ GoodCs l ∧ (∃ k, TpK w' base g k ∧ k ≤ k0 + 4 * N) ∧ Rd w' (fun b => w.heap.size ≤ b) (.slice A l.length c) (ccsTr l) ∧ Kp w w' fun b => b = g := by
  subst hz
  refine (codes_any N hN base g k0 hk0 w ht).mono ?_
  rintro e w' ⟨A, c, l, k, rfl, h1, h2, h3, h4, h5, h6⟩
  exact ⟨A, c, l, rfl, h1, h2, ⟨k, h3, h4⟩, h5, h6⟩
end Go.Proofs.Ytadpfhoenjodeaa
