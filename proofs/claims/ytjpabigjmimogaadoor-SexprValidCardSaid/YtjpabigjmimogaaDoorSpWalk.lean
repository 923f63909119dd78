/- tellaw1.SexprSpacing: the walk. -/
import Derived.Test.YtjpabigjmimogaaDoorSpaced
import Derived.Test.YtjpabigjmimogaaDoorMeasWalk
set_option linter.unusedVariables false
set_option linter.unusedSimpArgs false
namespace Go.Proofs.YtjpabigjmimogaaDoor
open Go.RowKit
attribute [local go_sem ↓] Go.wp_at_zero Go.wp_at_succ

def laid3 : List (String × DataW Unit) := [("telpher/telmake.words", Rows.laid_telpher_telmake_words), ("telpher/telmake.strings", Rows.laid_telpher_telmake_strings), ("telpher/tellaw1.separators", Rows.laid_telpher_tellaw1_separators)]
theorem tabs3_of_laid {W : World} (h : laidMetH Tryd.prog laid3 W) : Tab W W.heap.size 2 wordsL ∧ Tab W W.heap.size 1 strsL ∧ Tab W W.heap.size 0 sepsL := by
  rw [MakeChecks.laidMetH_plain _ _ _ (by kernel_rfl)] at h
  obtain ⟨ps, ⟨g0, t0, cs0, f0, p0, q0, hg0, ht0, hv0, hd0, ⟨g1, t1, cs1, f1, p1, q1, hg1, ht1, hv1, hd1, ⟨g2, t2, cs2, f2, p2, q2, hg2, ht2, hv2, hd2, _, _⟩, _⟩, _⟩, _, _⟩ := h
  obtain rfl := Option.some.inj (gWords.symm.trans hg0)
  obtain rfl := Option.some.inj (gStrings.symm.trans hg1)
  obtain rfl := Option.some.inj (gSeps.symm.trans hg2)
  obtain rfl := Option.some.inj (tWords.symm.trans ht0)
  obtain rfl := Option.some.inj (tStrings.symm.trans ht1)
  obtain rfl := Option.some.inj (tSeps.symm.trans ht2)
  exact ⟨tab_of hg0 Tryd.underlying41 Tryd.underlying9 cellsString hv0 wordsL (by decide) hd0, tab_of hg1 Tryd.underlying41 Tryd.underlying9 cellsString hv1 strsL (by decide) hd1, tab_of hg2 Tryd.underlying41 Tryd.underlying9 cellsString hv2 sepsL (by decide) hd2⟩
theorem door3_met (os : Os) (args : Array Value) : laidMetH Tryd.prog laid3 ((World.doorLaid Tryd.prog 77 os).forCall (fun _ _ => 0) ⟨#[], args, []⟩).memory :=
  laidMetH_of_parts3 (fuel := 8) (laidMet_of_run' 8 (by kernel_rfl) (by kernel_rfl)) (by kernel_rfl) (by kernel_rfl)
theorem spaced_at (d : Nat) (hd : d ≤ 4) {x : Nd} (hg : Gn false d x) {w : World} {base g : Nat} {A : Option Addr} {n c : Nat} (hs : Stm w base g) (ht : Tab w base 0 sepsL)
    (hr : Rd w (fun b => ¬ b = g) (.slice A n c) (.sl 26 4 (ndsTr 26 x.kids))) :
    Calls Tryd.prog 16 #[.pointer (some ⟨g, 0, none⟩), .agg #[.int .i64 x.kind, .string x.text, .slice A n c, .int .i64 x.off]] w (SpPost w base g x d) := spaced_any d hd x hg w base g A n c hs ht hr

theorem TabAt.tab {w : World} {base vi : Nat} {l : List ByteArray} {b o c : Nat} (h : TabAt w base vi l b o c) : Tab w base vi l := ⟨b, o, c, h⟩
theorem keep_sp {U W : World} {base vi : Nat} {T : ByteArray} {b o c k g t : Nat} {x0 x1 x2 x3 : Value} (h : Below U.heap.size U W) (ht : TabAt U base vi sepsL b o c) (hT : U.cell? ⟨b, o + k, none⟩ = some (.string T)) (hg : U.heap[g]? = some (.cells #[x0, x1, x2, x3] t (0, 0))) :
    W.cell? ⟨vi, 0, none⟩ = some (.slice (some ⟨b, o, none⟩) 6 c) ∧ W.cell? ⟨b, o + k, none⟩ = some (.string T) ∧ W.cell? ⟨g, 0, none⟩ = some x0 ∧ W.cell? ⟨g, 1, none⟩ = some x1 ∧ W.cell? ⟨g, 2, none⟩ = some x2 ∧ W.cell? ⟨g, 3, none⟩ = some x3 := by
  obtain ⟨c0, c1, c2, c3, -⟩ := four (below_blk h hg)
  exact ⟨below_cell h ht.hd, below_cell h hT, c0, c1, c2, c3⟩
/-- A struct of two cells at block R, none frozen. -/
theorem two {w : World} {R T : Nat} {a b : Value} (h : w.heap[R]? = some (.cells #[a, b] T (0, 0))) : w.cell? ⟨R, 0, none⟩ = some a ∧ w.cell? ⟨R, 1, none⟩ = some b ∧ w.frozen? ⟨R, 0, none⟩ = false ∧ w.frozen? ⟨R, 1, none⟩ = false :=
  ⟨(cell_of_row _ _ 0 _ _ _ h).trans rfl, (cell_of_row _ _ 1 _ _ _ h).trans rfl, blk_frozen h 0, blk_frozen h 1⟩
theorem keep_end {U W : World} {g7 g t t' b o : Nat} {f0 f1 y0 y1 y2 y3 x0 x1 x2 x3 : Value} (h : Below U.heap.size U W) (h7 : U.heap[g7]? = some (.cells #[f0, f1] t' (0, 0)))
    (p0 : U.cell? ⟨b, o, none⟩ = some y0) (p1 : U.cell? ⟨b, o + 1, none⟩ = some y1) (p2 : U.cell? ⟨b, o + 2, none⟩ = some y2) (p3 : U.cell? ⟨b, o + 3, none⟩ = some y3) (hg : U.heap[g]? = some (.cells #[x0, x1, x2, x3] t (0, 0))) :
    (W.cell? ⟨g7, 0, none⟩ = some f0 ∧ W.cell? ⟨b, o, none⟩ = some y0 ∧ W.cell? ⟨b, o + 1, none⟩ = some y1 ∧ W.cell? ⟨b, o + 2, none⟩ = some y2 ∧ W.cell? ⟨b, o + 3, none⟩ = some y3) ∧ W.cell? ⟨g, 0, none⟩ = some x0 ∧ W.cell? ⟨g, 1, none⟩ = some x1 ∧ W.cell? ⟨g, 2, none⟩ = some x2 ∧ W.cell? ⟨g, 3, none⟩ = some x3 := by
  obtain ⟨c0, c1, c2, c3, -⟩ := four (below_blk h hg)
  exact ⟨⟨(two (below_blk h h7)).1, below_cell h p0, below_cell h p1, below_cell h p2, below_cell h p3⟩, c0, c1, c2, c3⟩
theorem new_at {w W : World} {A : Option Addr} {n c : Nat} {zs : List Int} {U : World} (h : IsRow .i64 w A n c zs) (hU : Below w.heap.size w U) (hb : Below U.heap.size U W) : Calls Tryd.prog 12 #[.slice A n c] W fun e w' =>
    ∃ gm, e = .returned (.pointer (some ⟨gm, 0, none⟩)) ∧ Stm w' w.heap.size gm ∧ Below W.heap.size W w' ∧ W.heap.size = gm ∧ gm < w'.heap.size :=
  (new_any A n c W).mono fun e w' ⟨he, hw⟩ => by
    subst hw
    exact ⟨_, he, st_new h (hU.trans (hb.mono hU.size)), (Below.refl _ _).alloc (Nat.le_refl _) _, rfl, by simp⟩
theorem sp_tail {P : Program} {T TC TU : ByteArray} {L : List Int} (hT : T ∈ sepsL) (hTC : TC = strOfNums (nums T ++ L)) (hTU : TU = strOfNums (nums T ++ L ++ [10, 59, 32, 101, 110, 100])) (hl : L.length ≤ 100000) (W : World) :
    (Op.stringOp .add TC ⟨#[10, 59, 32, 101, 110, 100]⟩).run P W = .ok (.string TU) W := by
  have h6 := sep_len hT
  have h := add_run P (nums T ++ L) [10, 59, 32, 101, 110, 100] _ rfl (by simp; omega) W
  rw [← hTC, ← hTU] at h
  exact h
theorem sp_size {T TU : ByteArray} {L : List Int} (hT : T ∈ sepsL) (hTU : TU = strOfNums (nums T ++ L ++ [10, 59, 32, 101, 110, 100])) (hl : L.length ≤ 100000) : TU.size ≤ 9223372036854775807 := by
  have h6 := sep_len hT
  rw [hTU, strOfNums_size]
  simp
  omega
theorem parse_at {s : ByteArray} {w : World} {m : Nat} {y : Nd} (hs : s.size ≤ 9223372036854775807) (hp : parseF s m = some (.ok [y])) : Calls Tryd.prog 13 #[.string s] w fun e w' =>
    ∃ A c lo, e = .returned (.tuple #[.slice A 1 c, .agg #[.int .i64 0, .int .i64 0]]) ∧ Rd w' (fun b => lo ≤ b ∧ b < w'.heap.size) (.slice A 1 c) (.sl 39 4 (ndsTr 39 [y])) ∧ Below w.heap.size w w' ∧ w.heap.size = lo :=
  (parse_any s hs w m _ hp).mono fun e w' ⟨hb, A, n, c, he, hr⟩ => by
    obtain rfl : n = 1 := by have := hr.len.1; rw [ndsTr_length] at this; simp at this; omega
    exact ⟨A, c, _, he, hr.mono fun b hb hlt => ⟨hb, hlt⟩, hb, rfl⟩
theorem k1_ {X v : World} {Z : Obj} {gm : Nat} (hk : Kp (X.alloc Z) v fun b => b = gm) (hn : ¬ X.heap.size = gm) : v.heap[X.heap.size]? = some Z := hk.blk (heap_alloc_new X Z) hn
theorem k0_ {X v : World} {Z : Obj} {gm b : Nat} (hk : Kp X v fun b => b = gm) (q : X.heap[b]? = some Z) (hn : ¬ b = gm) : v.heap[b]? = some Z := hk.blk q hn
theorem set2_ {w : World} {R T : Nat} {a' b' : Value} (h : w.heap[R]? = some (.cells #[a', b'] T (0, 0))) (a b : Value) : ((w.setCell ⟨R, 0, none⟩ a).setCell ⟨R, 1, none⟩ b).heap[R]? = some (.cells #[a, b] T (0, 0)) := by
  simp [World.setCell, Array.getElem?_modify, h]
theorem twoA {w : World} {R T : Nat} {a b : Value} (h : w.heap[R]? = some (.cells #[a, b] T (0, 0))) : (∀ Z, (w.alloc Z).cell? ⟨R, 0, none⟩ = some a) ∧ (∀ Z, (w.alloc Z).cell? ⟨R, 1, none⟩ = some b) ∧ (∀ Z, (w.alloc Z).frozen? ⟨R, 0, none⟩ = false) ∧ (∀ Z, (w.alloc Z).frozen? ⟨R, 1, none⟩ = false) :=
  ⟨fun Z => (two (blk_al (o' := Z) h)).1, fun Z => (two (blk_al (o' := Z) h)).2.1, fun Z => (two (blk_al (o' := Z) h)).2.2.1, fun Z => (two (blk_al (o' := Z) h)).2.2.2⟩

set_option maxRecDepth 100000 in
set_option maxHeartbeats 8000000 in
theorem spacing_walk (a0 : Option Addr) (len0 cap0 : Nat) (z0 : List Int) (a1 : Option Addr) (len1 cap1 : Nat) (z1 : List Int) (w : World) (w0 : IsRow .i64 w a0 len0 cap0 z0) (w1 : IsRow .i64 w a1 len1 cap1 z1)
    (tw : Tab w w.heap.size 2 wordsL) (ts : Tab w w.heap.size 1 strsL ∧ Tab w w.heap.size 0 sepsL) :
    Calls Tryd.prog 4 #[.slice a0 len0 cap0, .slice a1 len1 cap1] w fun e w' => e = .returned (.bool true) ∧ Below w.heap.size w w' := by
  obtain ⟨ts, tq⟩ := ts
  obtain ⟨bq, oq, cq, htq⟩ := tq
  have HW0 := Lib.hid w0
  have HW1 := Lib.hid w1
  have HTW := Lib.hid tw
  have HTS := Lib.hid ts
  have HTQ := Lib.hid htq
  have HB := Lib.hid (Below.refl w.heap.size w)
  have hl1 : len1 ≤ maxLen := by
    rcases w1 with ⟨_, rfl, _, _⟩ | ⟨x, rfl, h1, h2, _⟩
    · exact Nat.zero_le _
    · omega
  simp only [maxLen] at hl1
  obtain ⟨r, hr⟩ : ∃ r : Nat, (len1 : Int) % 6 = (r : Int) := ⟨((len1 : Int) % 6).toNat, by omega⟩
  have hr6 : (r : Int) < 6 := by omega
  have hr0 : (0 : Int) ≤ (r : Int) := by omega
  obtain ⟨T, hT, hcT⟩ := str_at htq (r := r) (by simp [sepsL]; omega)
  have HR := Lib.hid hr
  have HTT := Lib.hid hT
  have HCT := Lib.hid hcT
  have hqv := htq.vb
  have hqb := htq.bb
  have hqh : w.cell? ⟨0, 0, none⟩ = some (.slice (some ⟨bq, oq, none⟩) 6 cq) := htq.hd
  have HQH := Lib.hid hqh
  clear w0 w1 tw ts htq hr hT hcT hqh
  go_enter Tryd.func4, Tryd.ntmps4
  go_wp2_with (go_at_call 12; (with_reducible refine (new_any _ _ _ _).mono ?_); rintro e v0 ⟨rfl, rfl⟩)
  have hB1 := HB.out.alloc (Nat.le_refl _) (.cells #[.slice a0 len0 cap0, .int .i64 0] 64)
  refine (anynode_at 4 4 rfl false (by omega) (st_new HW0.out HB.out) (HTW.out.bl hB1) (HTS.out.bl hB1)).mono ?_
  rintro e v1 ⟨x, A1, n1, c1, rfl, hx, hg, -, hk1⟩
  have HB1 := Lib.hid (below_g hB1 hk1 (Nat.le_refl _) (Nat.le_refl _))
  have HX := Lib.hid hx
  have HG := Lib.hid hg
  clear hB1 hx hg hk1
  have hcx := gn_cnt 4 false x HG.out
  have hnx := gn_nest 4 x HG.out
  have hc4 : cB 4 = 597 := rfl
  have hs4 : sB 4 = 10400 := rfl
  go_wp2_with fail
  have u5 := heap_alloc_new v1 (.cells #[.int .i64 x.kind, .string x.text, .slice A1 n1 c1, .int .i64 x.off] 26)
  have hxU := (HX.out.mono (ok' := fun b => b < v1.heap.size) (fun b hb hlt => hlt)).alloc (.cells #[.int .i64 x.kind, .string x.text, .slice A1 n1 c1, .int .i64 x.off] 26)
  have hbU : Below w.heap.size w (v1.alloc (.cells #[.int .i64 x.kind, .string x.text, .slice A1 n1 c1, .int .i64 x.off] 26)) := HB1.out.alloc HB1.out.size _
  have hszU : (v1.alloc (.cells #[.int .i64 x.kind, .string x.text, .slice A1 n1 c1, .int .i64 x.off] 26)).heap.size = v1.heap.size + 1 := by simp
  generalize (v1.alloc (.cells #[.int .i64 x.kind, .string x.text, .slice A1 n1 c1, .int .i64 x.off] 26)) = U at *
  have hxU' := hxU.mono (ok' := fun b => b < U.heap.size) (fun b hb _ => by omega)
  generalize v1.heap.size = g5 at *
  have hu5 := lt_of_block u5
  have HU5 := Lib.hid u5
  have HXU := Lib.hid hxU'
  have HBU := Lib.hid hbU
  have HTU := Lib.hid (HTQ.out.kp (Kp.of_below hbU fun _ => False) (fun _ _ h => h))
  have HCU := Lib.hid ((hbU.cell (p := ⟨bq, oq + r, none⟩) hqb).trans HCT.out)
  clear u5 hxU hxU' hbU hszU
  go_cut [6, 7] (fun t6 t7 wx => ∃ g7 A3 c3 y, t7 = .pointer (some ⟨g7, 0, none⟩) ∧ t6 = .slice A3 1 c3 ∧ Hid (eqN y x = true ∧ Below U.heap.size U wx ∧ wx.heap[g7]? = some (.cells #[.int .i64 0, .int .i64 0] 33 (0, 0)) ∧ Rd wx (fun _ => True) (.slice A3 1 c3) (.sl 39 4 (ndsTr 39 [y]))))
  case first =>
    go_region_held3 (fun W' => W'.cell? ⟨0, 0, none⟩ = some (.slice (some ⟨bq, oq, none⟩) 6 cq) ∧ W'.cell? ⟨bq, oq + r, none⟩ = some (.string T) ∧ W'.cell? ⟨g5, 0, none⟩ = some (.int .i64 x.kind) ∧ W'.cell? ⟨g5, 1, none⟩ = some (.string x.text) ∧ W'.cell? ⟨g5, 2, none⟩ = some (.slice A1 n1 c1) ∧ W'.cell? ⟨g5, 3, none⟩ = some (.int .i64 x.off))
      ((refine keep_sp ?_ HTU.out HCU.out HU5.out; repeat' (first | with_reducible exact Below.refl _ _ | with_reducible exact BU3.out | with_reducible exact BU2.out | with_reducible exact BU0.out | with_reducible refine Below.drew ?_ | with_reducible refine bel_al ?_ _ | with_reducible refine bel_st ?_ ?_ _ | with_reducible exact Nat.le_refl _ | (have hz1 := hu5; (try have hz2 := HGM.out); (try have hz3 := hb0.size); (try have hz4 := hb2.size); (try have hz5 := hb3.size); (try have hz6 := BU0.out.size); (try have hz7 := BU2.out.size); (try have hz8 := BU3.out.size); (try have hz9 := HGL.out); (try simp only [heap_drew, World.size_alloc] at hz2); (try simp only [heap_drew, World.size_alloc] at hz3); (try simp only [heap_drew, World.size_alloc] at hz4); (try simp only [heap_drew, World.size_alloc] at hz5); first | omega | (simp only [heap_drew, World.size_alloc]; omega)))))
      ((first | (go_at_call 14; (with_reducible refine (mod_any _ _ (by omega) (by omega) _).mono ?_); rintro e w' ⟨he, rfl⟩; rw [HR.out] at he; subst he) | (go_at_call 12; (with_reducible refine Calls.mono (new_at HW1.out HBU.out ?_) ?_); (· repeat' (first | with_reducible exact Below.refl _ _ | with_reducible exact BU3.out | with_reducible exact BU2.out | with_reducible exact BU0.out | with_reducible refine Below.drew ?_ | with_reducible refine bel_al ?_ _ | with_reducible refine bel_st ?_ ?_ _ | with_reducible exact Nat.le_refl _ | (have hz1 := hu5; (try have hz2 := HGM.out); (try have hz3 := hb0.size); (try have hz4 := hb2.size); (try have hz5 := hb3.size); (try have hz6 := BU0.out.size); (try have hz7 := BU2.out.size); (try have hz8 := BU3.out.size); (try have hz9 := HGL.out); (try simp only [heap_drew, World.size_alloc] at hz2); (try simp only [heap_drew, World.size_alloc] at hz3); (try simp only [heap_drew, World.size_alloc] at hz4); (try simp only [heap_drew, World.size_alloc] at hz5); first | omega | (simp only [heap_drew, World.size_alloc]; omega)))); rintro e v0 ⟨gm, rfl, hst, hb0, hgm, hgl⟩; have BU0 := Lib.hid (below_call (w := U) (by repeat' (first | with_reducible exact Below.refl _ _ | with_reducible exact BU3.out | with_reducible exact BU2.out | with_reducible exact BU0.out | with_reducible refine Below.drew ?_ | with_reducible refine bel_al ?_ _ | with_reducible refine bel_st ?_ ?_ _ | with_reducible exact Nat.le_refl _ | (have hz1 := hu5; (try have hz2 := HGM.out); (try have hz3 := hb0.size); (try have hz4 := hb2.size); (try have hz5 := hb3.size); (try have hz6 := BU0.out.size); (try have hz7 := BU2.out.size); (try have hz8 := BU3.out.size); (try have hz9 := HGL.out); (try simp only [heap_drew, World.size_alloc] at hz2); (try simp only [heap_drew, World.size_alloc] at hz3); (try simp only [heap_drew, World.size_alloc] at hz4); (try simp only [heap_drew, World.size_alloc] at hz5); first | omega | (simp only [heap_drew, World.size_alloc]; omega)))) hb0); have HST := Lib.hid hst; have HGM := Lib.hid hgm; have HGL := Lib.hid hgl; clear hst hgm hgl; (try ((with_reducible (have qa := Lib.hid (q1_ hb0))); obtain ⟨_, _, _, _⟩ := two qa.out; obtain ⟨_, _, _, _⟩ := twoA qa.out; have := Nat.ne_of_lt (lt_of_block qa.out); have := Nat.ne_of_gt (lt_of_block qa.out)))) | (go_at_call 16; (with_reducible refine Calls.mono (spaced_at (base := w.heap.size) 4 (by omega) HG.out ?_ ?_ ?_) ?_); (· repeat' (first | with_reducible exact HST.out | with_reducible refine Stm.al ?_ _ | with_reducible refine Stm.drew ?_)); (· exact (HTQ.out.kp (Kp.of_below (HBU.out.trans ((by repeat' (first | with_reducible exact Below.refl _ _ | with_reducible exact BU3.out | with_reducible exact BU2.out | with_reducible exact BU0.out | with_reducible refine Below.drew ?_ | with_reducible refine bel_al ?_ _ | with_reducible refine bel_st ?_ ?_ _ | with_reducible exact Nat.le_refl _ | (have hz1 := hu5; (try have hz2 := HGM.out); (try have hz3 := hb0.size); (try have hz4 := hb2.size); (try have hz5 := hb3.size); (try have hz6 := BU0.out.size); (try have hz7 := BU2.out.size); (try have hz8 := BU3.out.size); (try have hz9 := HGL.out); (try simp only [heap_drew, World.size_alloc] at hz2); (try simp only [heap_drew, World.size_alloc] at hz3); (try simp only [heap_drew, World.size_alloc] at hz4); (try simp only [heap_drew, World.size_alloc] at hz5); first | omega | (simp only [heap_drew, World.size_alloc]; omega))) : Below U.heap.size U _).mono HBU.out.size)) fun _ => False) (fun _ _ h => h)).tab); (· refine Rd.mono (ok := fun b => b < U.heap.size) ?_ (fun b hb _ => by (have hz1 := hu5; (try have hz2 := HGM.out); (try have hz3 := hb0.size); (try have hz4 := hb2.size); (try have hz5 := hb3.size); (try have hz6 := BU0.out.size); (try have hz7 := BU2.out.size); (try have hz8 := BU3.out.size); (try have hz9 := HGL.out); (try simp only [heap_drew, World.size_alloc] at hz2); (try simp only [heap_drew, World.size_alloc] at hz3); (try simp only [heap_drew, World.size_alloc] at hz4); (try simp only [heap_drew, World.size_alloc] at hz5); first | omega | (simp only [heap_drew, World.size_alloc]; omega))); exact (HXU.out.bl (by repeat' (first | with_reducible exact Below.refl _ _ | with_reducible exact BU3.out | with_reducible exact BU2.out | with_reducible exact BU0.out | with_reducible refine Below.drew ?_ | with_reducible refine bel_al ?_ _ | with_reducible refine bel_st ?_ ?_ _ | with_reducible exact Nat.le_refl _ | (have hz1 := hu5; (try have hz2 := HGM.out); (try have hz3 := hb0.size); (try have hz4 := hb2.size); (try have hz5 := hb3.size); (try have hz6 := BU0.out.size); (try have hz7 := BU2.out.size); (try have hz8 := BU3.out.size); (try have hz9 := HGL.out); (try simp only [heap_drew, World.size_alloc] at hz2); (try simp only [heap_drew, World.size_alloc] at hz3); (try simp only [heap_drew, World.size_alloc] at hz4); (try simp only [heap_drew, World.size_alloc] at hz5); first | omega | (simp only [heap_drew, World.size_alloc]; omega)))))); rintro e v2 ⟨S, L, rfl, hS, hTx, hLl, hLr, -, hk2⟩; have BU2 := Lib.hid (below_g (B := U.heap.size) (w := U) (by repeat' (first | with_reducible exact Below.refl _ _ | with_reducible exact BU3.out | with_reducible exact BU2.out | with_reducible exact BU0.out | with_reducible refine Below.drew ?_ | with_reducible refine bel_al ?_ _ | with_reducible refine bel_st ?_ ?_ _ | with_reducible exact Nat.le_refl _ | (have hz1 := hu5; (try have hz2 := HGM.out); (try have hz3 := hb0.size); (try have hz4 := hb2.size); (try have hz5 := hb3.size); (try have hz6 := BU0.out.size); (try have hz7 := BU2.out.size); (try have hz8 := BU3.out.size); (try have hz9 := HGL.out); (try simp only [heap_drew, World.size_alloc] at hz2); (try simp only [heap_drew, World.size_alloc] at hz3); (try simp only [heap_drew, World.size_alloc] at hz4); (try simp only [heap_drew, World.size_alloc] at hz5); first | omega | (simp only [heap_drew, World.size_alloc]; omega)))) hk2 (by (have hz1 := hu5; (try have hz2 := HGM.out); (try have hz3 := hb0.size); (try have hz4 := hb2.size); (try have hz5 := hb3.size); (try have hz6 := BU0.out.size); (try have hz7 := BU2.out.size); (try have hz8 := BU3.out.size); (try have hz9 := HGL.out); (try simp only [heap_drew, World.size_alloc] at hz2); (try simp only [heap_drew, World.size_alloc] at hz3); (try simp only [heap_drew, World.size_alloc] at hz4); (try simp only [heap_drew, World.size_alloc] at hz5); first | omega | (simp only [heap_drew, World.size_alloc]; omega))) (Nat.le_refl _)); have HS := Lib.hid hS; have HTX := Lib.hid hTx; have HLL := Lib.hid hLl; have HLR := Lib.hid hLr; have hb2 := hk2; clear hS hTx hLl hLr; obtain ⟨TC, hTC⟩ : ∃ TC, TC = strOfNums (nums T ++ L) := ⟨_, rfl⟩; obtain ⟨TU, hTU⟩ : ∃ TU, TU = strOfNums (nums T ++ L ++ [10, 59, 32, 101, 110, 100]) := ⟨_, rfl⟩; have HTC := Lib.hid hTC; have HTU2 := Lib.hid hTU; clear hTC hTU; have hA : ∀ W, (Op.stringOp .add T S).run Tryd.prog W = .ok (.string TC) W := (fun W => sp_add1 HTT.out HS.out HTC.out (by have := HLL.out; omega) W); have hA2 : ∀ W, (Op.stringOp .add TC ⟨#[10, 59, 32, 101, 110, 100]⟩).run Tryd.prog W = .ok (.string TU) W := (fun W => sp_tail HTT.out HTC.out HTU2.out (by have := HLL.out; omega) W); obtain ⟨m, y, hp, hy⟩ := spaced_law HTX.out ⟨T, HTT.out, rfl⟩ (by omega) HLR.out (by have := HLL.out; omega); rw [← HTU2.out] at hp; have HP := Lib.hid hp; have HY := Lib.hid hy; clear hp hy; (try ((with_reducible (have qb := Lib.hid (k1_ hk2 (by (have hz1 := hu5; (try have hz2 := HGM.out); (try have hz3 := hb0.size); (try have hz4 := hb2.size); (try have hz5 := hb3.size); (try have hz6 := BU0.out.size); (try have hz7 := BU2.out.size); (try have hz8 := BU3.out.size); (try have hz9 := HGL.out); (try simp only [heap_drew, World.size_alloc] at hz2); (try simp only [heap_drew, World.size_alloc] at hz3); (try simp only [heap_drew, World.size_alloc] at hz4); (try simp only [heap_drew, World.size_alloc] at hz5); first | omega | (simp only [heap_drew, World.size_alloc]; omega)))))); obtain ⟨_, _, _, _⟩ := two qb.out; obtain ⟨_, _, _, _⟩ := twoA qb.out; have := Nat.ne_of_lt (lt_of_block qb.out); have := Nat.ne_of_gt (lt_of_block qb.out))); (try ((with_reducible (have qb := Lib.hid (k0_ hk2 qa.out (by (have hz1 := hu5; (try have hz2 := HGM.out); (try have hz3 := hb0.size); (try have hz4 := hb2.size); (try have hz5 := hb3.size); (try have hz6 := BU0.out.size); (try have hz7 := BU2.out.size); (try have hz8 := BU3.out.size); (try have hz9 := HGL.out); (try simp only [heap_drew, World.size_alloc] at hz2); (try simp only [heap_drew, World.size_alloc] at hz3); (try simp only [heap_drew, World.size_alloc] at hz4); (try simp only [heap_drew, World.size_alloc] at hz5); first | omega | (simp only [heap_drew, World.size_alloc]; omega)))))); obtain ⟨_, _, _, _⟩ := two qb.out; obtain ⟨_, _, _, _⟩ := twoA qb.out; have := Nat.ne_of_lt (lt_of_block qb.out); have := Nat.ne_of_gt (lt_of_block qb.out)))) | (go_at_call 13; (with_reducible refine (parse_at (by have := HTU2.out; have := HLL.out; exact sp_size HTT.out HTU2.out (by omega)) HP.out).mono ?_); rintro e v3 ⟨A3, c3, lo3, rfl, hr3, hb3, hlo3⟩; have BU3 := Lib.hid (below_call (w := U) (by repeat' (first | with_reducible exact Below.refl _ _ | with_reducible exact BU3.out | with_reducible exact BU2.out | with_reducible exact BU0.out | with_reducible refine Below.drew ?_ | with_reducible refine bel_al ?_ _ | with_reducible refine bel_st ?_ ?_ _ | with_reducible exact Nat.le_refl _ | (have hz1 := hu5; (try have hz2 := HGM.out); (try have hz3 := hb0.size); (try have hz4 := hb2.size); (try have hz5 := hb3.size); (try have hz6 := BU0.out.size); (try have hz7 := BU2.out.size); (try have hz8 := BU3.out.size); (try have hz9 := HGL.out); (try simp only [heap_drew, World.size_alloc] at hz2); (try simp only [heap_drew, World.size_alloc] at hz3); (try simp only [heap_drew, World.size_alloc] at hz4); (try simp only [heap_drew, World.size_alloc] at hz5); first | omega | (simp only [heap_drew, World.size_alloc]; omega)))) hb3); (try simp only [heap_drew, World.size_alloc] at hlo3); have HLO3 := Lib.hid hlo3; have HR3 := Lib.hid hr3; clear hlo3 hr3; (try ((with_reducible (have qc := Lib.hid (p1_ hb3))); obtain ⟨_, _, _, _⟩ := two qc.out; obtain ⟨_, _, _, _⟩ := twoA qc.out; have := Nat.ne_of_lt (lt_of_block qc.out); have := Nat.ne_of_gt (lt_of_block qc.out))); (try ((with_reducible (have qc := Lib.hid (r0_ hb3 qb.out))); obtain ⟨_, _, _, _⟩ := two qc.out; obtain ⟨_, _, _, _⟩ := twoA qc.out; have := Nat.ne_of_lt (lt_of_block qc.out); have := Nat.ne_of_gt (lt_of_block qc.out))))))
    all_goals
      go_wp2_with fail
      go_meet
      refine ⟨_, A3, c3, y, rfl, rfl, Lib.hid ⟨HY.out, ?_, ?_, ?_⟩⟩
      · repeat' (first | with_reducible exact Below.refl _ _ | with_reducible exact BU3.out | with_reducible exact BU2.out | with_reducible exact BU0.out | with_reducible refine Below.drew ?_ | with_reducible refine bel_al ?_ _ | with_reducible refine bel_st ?_ ?_ _ | with_reducible exact Nat.le_refl _ | (have hz1 := hu5; (try have hz2 := HGM.out); (try have hz3 := hb0.size); (try have hz4 := hb2.size); (try have hz5 := hb3.size); (try have hz6 := BU0.out.size); (try have hz7 := BU2.out.size); (try have hz8 := BU3.out.size); (try have hz9 := HGL.out); (try simp only [heap_drew, World.size_alloc] at hz2); (try simp only [heap_drew, World.size_alloc] at hz3); (try simp only [heap_drew, World.size_alloc] at hz4); (try simp only [heap_drew, World.size_alloc] at hz5); first | omega | (simp only [heap_drew, World.size_alloc]; omega)))
      · first | exact heap_alloc_new _ _ | (exact set2_ qc.out _ _) | (exact set2_ qb.out _ _) | (exact set2_ qa.out _ _)
      · refine Rd.mono (ok := fun b => lo3 ≤ b ∧ b < v3.heap.size) ?_ (fun _ _ _ => trivial)
        repeat' (first | with_reducible exact HR3.out | with_reducible refine Rd.alloc ?_ _ | with_reducible refine Rd.setCell ?_ ?_ _ | (refine no_ok2 ?_; (try have hz10 := HLO3.out); (try simp only [heap_drew, World.size_alloc] at hz10); dsimp only; (have hz1 := hu5; (try have hz2 := HGM.out); (try have hz3 := hb0.size); (try have hz4 := hb2.size); (try have hz5 := hb3.size); (try have hz6 := BU0.out.size); (try have hz7 := BU2.out.size); (try have hz8 := BU3.out.size); (try have hz9 := HGL.out); (try simp only [heap_drew, World.size_alloc] at hz2); (try simp only [heap_drew, World.size_alloc] at hz3); (try simp only [heap_drew, World.size_alloc] at hz4); (try simp only [heap_drew, World.size_alloc] at hz5); first | omega | (simp only [heap_drew, World.size_alloc]; omega))))
  case rest =>
    obtain ⟨g7, A3, c3, y, rfl, rfl, HC⟩ := hcut
    obtain ⟨hy, bx, k7, rx⟩ := HC.out
    obtain ⟨b, o, KA, KN, KC, hae, -, hpb, p0, p1, p2, p3, p4⟩ := nd_at rx (show [y][0]? = some y from rfl)
    obtain rfl := hae
    simp only [Nat.zero_mul, Nat.add_zero] at p0 p1 p2 p4
    rename World => wz
    have hsz := bx.size
    have HYX := Lib.hid hy
    have HG5 := Lib.hid (below_blk bx HU5.out)
    have HG7 := Lib.hid k7
    have HP0 := Lib.hid p0
    have HP1 := Lib.hid p1
    have HP2 := Lib.hid p2
    have HP4 := Lib.hid p4
    have HP3 := Lib.hid p3
    have HXW := Lib.hid ((HXU.out.mono (ok' := fun _ => True) (fun _ _ _ => trivial)).bl bx)
    have HBY := Lib.hid (HBU.out.trans (bx.mono HBU.out.size))
    have BW0 := Lib.hid ((Below.refl wz.heap.size wz).drew)
    obtain ⟨_, _, _, _⟩ := two k7
    obtain ⟨_, _, _, _, -⟩ := four HG5.out
    clear hy bx k7 rx p3 HC
    go_wp2_with fail
    go_region_held3 (fun W' => (W'.cell? ⟨g7, 0, none⟩ = some (.int .i64 0) ∧ W'.cell? ⟨b, o, none⟩ = some (.int .i64 y.kind) ∧ W'.cell? ⟨b, o + 1, none⟩ = some (.string y.text) ∧ W'.cell? ⟨b, o + 2, none⟩ = some (.slice KA KN KC) ∧ W'.cell? ⟨b, o + 3, none⟩ = some (.int .i64 y.off)) ∧ W'.cell? ⟨g5, 0, none⟩ = some (.int .i64 x.kind) ∧ W'.cell? ⟨g5, 1, none⟩ = some (.string x.text) ∧ W'.cell? ⟨g5, 2, none⟩ = some (.slice A1 n1 c1) ∧ W'.cell? ⟨g5, 3, none⟩ = some (.int .i64 x.off))
      ((refine keep_end ?_ HG7.out HP0.out HP1.out HP2.out HP4.out HG5.out; repeat' (first | with_reducible exact Below.refl _ _ | with_reducible exact BW13.out | with_reducible exact BW12.out | with_reducible exact BW11.out | with_reducible refine Below.drew ?_)))
      ((first
        | (go_at_call 15; (with_reducible refine (check_any _).mono ?_); rintro e v11 ⟨rfl, hb⟩; have BW11 := Lib.hid (below_call BW0.out hb); clear hb)
        | (go_at_call 18; (with_reducible refine (node_at (x := x) (by omega) (by exact HXW.out.bl BW11.out)).mono ?_); rintro e v12 ⟨A4, n4, c4, lo4, rfl, hx4, hb, -⟩; have BW12 := Lib.hid (below_call BW11.out hb); have HX4 := Lib.hid (hx4.mono (ok' := fun _ => True) (fun _ _ _ => trivial)); clear hb hx4)
        | (go_at_call 17; (with_reducible refine (equal_at (x := y) (y := x) (by exact HP3.out.bl BW12.out) (by exact HX4.out)).mono ?_); rintro e v13 ⟨he, hb⟩; rw [HYX.out] at he; subst he; have BW13 := Lib.hid (below_call BW12.out hb); clear hb)))
    go_wp2_with fail
    go_ret
    exact ⟨rfl, HBY.out.trans (BW13.out.mono HBY.out.size)⟩
end Go.Proofs.YtjpabigjmimogaaDoor
