/- tellaw1.SexprPrefix: the walk. -/
import Derived.Test.YtjpabigjmimogaaDoorTabs
import Derived.Test.YtjpabigjmimogaaDoorGood
import Derived.Test.YtjpabigjmimogaaDoorFmt
import Derived.Test.YtjpabigjmimogaaDoorCheckSexpr
set_option linter.unusedVariables false
set_option linter.unusedSimpArgs false
namespace Go.Proofs.YtjpabigjmimogaaDoor
open Go.RowKit

theorem anynode_at (d : Nat) (di : Int) (hdi : di = (d : Int)) (bad : Bool) {w : World} {base g : Nat} (hd : d ≤ 1000) (hs : Stm w base g) (hw : Tab w base 2 wordsL) (ht : Tab w base 1 strsL) :
    Calls Tryd.prog 11 #[.pointer (some ⟨g, 0, none⟩), .int .i64 di, .bool bad] w (AnyPost w base g bad d) := by subst hdi; exact anynode_any d bad w base g hd hs hw ht
theorem format_at {w : World} {ok : Nat → Prop} {A : Option Addr} {n c : Nat} {x : Nd} (hl : (fmtL x).length ≤ 1000000) (hr : Rd w ok (.slice A n c) (.sl 26 4 (ndsTr 26 x.kids))) :
    Calls Tryd.prog 10 #[.agg #[.int .i64 x.kind, .string x.text, .slice A n c, .int .i64 x.off]] w fun e w' => e = .returned (.string (strOfNums (fmtL x))) ∧ Below w.heap.size w w' := format_node _ x (Nat.le_refl _) w ok A n c hl hr

set_option maxRecDepth 100000 in
set_option maxHeartbeats 2000000 in
theorem prefix_walk (a0 : Option Addr) (len0 cap0 : Nat) (z0 : List Int) (a1 : Option Addr) (len1 cap1 : Nat) (z1 : List Int) (cut : Int) (w : World) (w0 : IsRow .i64 w a0 len0 cap0 z0) (w1 : IsRow .i64 w a1 len1 cap1 z1)
    (tw : Tab w w.heap.size 2 wordsL) (ts : Tab w w.heap.size 1 strsL) :
    Calls Tryd.prog 3 #[.slice a0 len0 cap0, .slice a1 len1 cap1, .int .i64 cut] w fun e w' => e = .returned (.bool true) ∧ Below w.heap.size w w' := by
  have HW0 := Lib.hid w0
  have HW1 := Lib.hid w1
  have HTW := Lib.hid tw
  have HTS := Lib.hid ts
  have HB := Lib.hid (Below.refl w.heap.size w)
  clear w0 w1 tw ts
  go_enter Tryd.func3, Tryd.ntmps3
  go_wp2_with (go_at_call 12; (with_reducible refine (new_any _ _ _ _).mono ?_); rintro e v0 ⟨rfl, rfl⟩)
  have hB1 := HB.out.alloc (Nat.le_refl _) (.cells #[.slice a0 len0 cap0, .int .i64 0] 64)
  refine (anynode_at 3 3 rfl false (by omega) (st_new HW0.out HB.out) (HTW.out.bl hB1) (HTS.out.bl hB1)).mono ?_
  rintro e v1 ⟨x, A1, n1, c1, rfl, hx, hg, -, hk1⟩
  have HB1 := Lib.hid (below_g hB1 hk1 (Nat.le_refl _) (Nat.le_refl _))
  have HX := Lib.hid hx
  have HG := Lib.hid hg
  clear hB1 hx hg hk1
  obtain ⟨t1, t2, t3, t4⟩ := gn_txt 3 x HG.out
  have hb3 : bnd 3 = 2046 := rfl
  have hwl := wrap_len x
  have T1 := Lib.hid t1
  clear t1
  obtain ⟨S, hS⟩ : ∃ S, S = strOfNums (fmtL (wrapN x)) := ⟨_, rfl⟩
  have hSs : S.size = (fmtL x).length + 2 := by rw [hS, strOfNums_size, hwl]
  have HS := Lib.hid hS
  have HSS := Lib.hid hSs
  clear hS hSs
  go_wp2_with fail
  refine (format_at (x := wrapN x) (by omega) (rd_single HX.out)).mono ?_
  rintro e v2 ⟨he, hb2⟩
  rw [← HS.out] at he
  subst he
  have HB2 := Lib.hid ((HB1.out.alloc HB1.out.size _).trans (hb2.mono (by have := HB1.out.size; simp; omega)))
  clear hb2
  go_wp2_with (go_at_call 12; (with_reducible refine (new_any _ _ _ _).mono ?_); rintro e v0 ⟨rfl, rfl⟩)
  have hB3 := HB2.out.alloc HB2.out.size (.cells #[.slice a1 len1 cap1, .int .i64 0] 64)
  refine (anynode_at 3 3 rfl false (by omega) (st_new HW1.out HB2.out) (HTW.out.bl hB3) (HTS.out.bl hB3)).mono ?_
  rintro e v3 ⟨y, A2, n2, c2, rfl, hy, hgy, -, hk3⟩
  have HB3 := Lib.hid (below_g hB3 hk3 HB2.out.size (Nat.le_refl _))
  have HY := Lib.hid hy
  have HGY := Lib.hid hgy
  clear hB3 hy hgy hk3
  obtain ⟨p1, p2, p3, p4⟩ := gn_txt 3 y HGY.out
  have P1 := Lib.hid p1
  clear p1
  obtain ⟨T, hT⟩ : ∃ T, T = strOfNums (fmtL y) := ⟨_, rfl⟩
  have hTs : T.size = (fmtL y).length := by rw [hT, strOfNums_size]
  have HT := Lib.hid hT
  have HTS2 := Lib.hid hTs
  clear hT hTs
  go_wp2_with fail
  refine (format_at (x := y) (by omega) HY.out).mono ?_
  rintro e v4 ⟨he, hb4⟩
  rw [← HT.out] at he
  subst he
  have HB4 := Lib.hid (HB3.out.trans (hb4.mono HB3.out.size))
  clear hb4
  have hS3 : 3 ≤ S.size ∧ S.size ≤ 100000 := by have := HSS.out; omega
  obtain ⟨r, hr⟩ : ∃ r : Nat, cut % ((S.size : Int) - 1) = (r : Int) := ⟨(cut % ((S.size : Int) - 1)).toNat, by have := Int.emod_nonneg cut (by omega : (S.size : Int) - 1 ≠ 0); omega⟩
  have hr1 : r + 1 < S.size := by have := Int.emod_lt_of_pos cut (by omega : (0 : Int) < (S.size : Int) - 1); omega
  have HR := Lib.hid hr
  have hrI : (1 : Int) + (r : Int) ≤ (S.size : Int) := by omega
  have hr0 : (0 : Int) ≤ (r : Int) := by omega
  have hSI : (S.size : Int) ≤ 100000 := by omega
  clear hr
  go_wp2_with (go_at_call 14; (with_reducible refine (mod_any _ _ (by omega) (by omega) _).mono ?_); rintro e w' ⟨he, rfl⟩; rw [HR.out] at he; subst he)
  obtain ⟨m1, b1, hp1⟩ : ∃ n b, parseF (S.extract 0 (1 + r)) n = some (.fail 2 b) := by rw [HS.out]; exact wrap_cut HG.out (by omega) (1 + r) (by omega) (by have := HSS.out; omega)
  refine (parse_any _ (by simp; omega) _ m1 _ hp1).mono ?_
  rintro e v5 ⟨hb5, rfl⟩
  have HB5 := Lib.hid (HB4.out.trans (hb5.mono HB4.out.size))
  have HC5 := Lib.hid (heap_alloc_new v5 (.cells #[.int .i64 2, .int .i64 b1] 33))
  clear hb5 hp1
  obtain ⟨S1, hS1⟩ : ∃ S1, S1 = strOfNums (fmtL (wrapN x) ++ [32]) := ⟨_, rfl⟩
  obtain ⟨U, hU⟩ : ∃ U, U = strOfNums (fmtL (wrapN x) ++ (32 :: fmtL y)) := ⟨_, rfl⟩
  have hA1 : ∀ W, (Op.stringOp .add S ⟨#[32]⟩).run Tryd.prog W = .ok (.string S1) W := by
    rw [hS1, HS.out]
    exact add_run _ _ [32] _ rfl (by simp; omega)
  have hA2 : ∀ W, (Op.stringOp .add S1 T).run Tryd.prog W = .ok (.string U) W := by
    rw [hS1, hU, HT.out]
    exact add_run _ _ _ _ (by simp) (by simp; omega)
  obtain ⟨m2, u1, u2, hp2, hu2⟩ : ∃ n u1 u2, parseF U n = some (.ok [u1, u2]) ∧ u2.off = (S.size : Int) + 1 := by
    rw [hU, HSS.out]
    obtain ⟨n, u1, u2, h1, h2⟩ := two_law (wrap_txt T1.out) P1.out (Nat.le_trans (wrap_nest t2) (by omega)) (by omega) (fmt_byte _) (fmt_byte _) (by omega)
    exact ⟨n, u1, u2, h1, by rw [h2, hwl]; simp⟩
  have hUs : U.size ≤ 9223372036854775807 := by rw [hU, strOfNums_size]; simp; omega
  have HUS := Lib.hid hUs
  have HP2 := Lib.hid hp2
  have HU2 := Lib.hid hu2
  clear hS1 hU hp2 hu2 hUs
  go_wp2_with fail
  refine (parse_any U HUS.out _ m2 _ HP2.out).mono ?_
  rintro e v6 ⟨hb6, A3, n3, c3, rfl, hr3⟩
  obtain rfl : n3 = 2 := by have := hr3.len.1; rw [ndsTr_length] at this; simp at this; omega
  have HB6 := Lib.hid ((HB5.out.alloc HB5.out.size (.cells #[.int .i64 2, .int .i64 b1] 33)).trans (hb6.mono (by have := HB5.out.size; simp; omega)))
  have HC6 := Lib.hid ((hb6.block _ (by simp)).trans HC5.out)
  have HD6 := Lib.hid (heap_alloc_new v6 (.cells #[.int .i64 0, .int .i64 0] 33))
  have HR6 := Lib.hid (hr3.alloc (.cells #[.int .i64 0, .int .i64 0] 33))
  clear hb6 hr3
  go_wp2_with fail
  refine (check_any _).mono ?_
  rintro e v7 ⟨rfl, hb7⟩
  have HB7 := Lib.hid ((HB6.out.alloc HB6.out.size (.cells #[.int .i64 0, .int .i64 0] 33)).trans (hb7.mono (by have := HB6.out.size; simp; omega)))
  have hc7 := (hb7.block _ (by have := lt_of_block HC6.out; simp; omega)).trans (blk_al HC6.out)
  have hd7 := (hb7.block _ (by simp)).trans HD6.out
  obtain ⟨b, o, KA, KN, KC, rfl, -, -, -, -, -, -, q4⟩ := nd_at (i := 1) (x := u2) (HR6.out.bl hb7) rfl
  have e0 := (cell_of_row _ _ 0 _ _ _ hc7).trans (c := some (.int .i64 2)) rfl
  have e1 := (cell_of_row _ _ 0 _ _ _ hd7).trans (c := some (.int .i64 0)) rfl
  rw [HU2.out] at q4
  clear hb7 hc7 hd7
  go_wp2_with fail
  go_ret
  exact ⟨rfl, HB7.out⟩
end Go.Proofs.YtjpabigjmimogaaDoor
