/- tellaw1.SexprRoundTrip: the walk. -/
import Derived.Test.YtjpabigjmimogaaDoorFormat
import Derived.Test.YtjpabigjmimogaaDoorSpWalk
set_option linter.unusedVariables false
set_option linter.unusedSimpArgs false
namespace Go.Proofs.YtjpabigjmimogaaDoor
open Go.RowKit
attribute [local go_sem ↓] Go.wp_at_zero Go.wp_at_succ

theorem allB_of {p : Int → Bool} {s : ByteArray} (h : ∀ c ∈ nums s, p c = true) : allB p s 0 = true := by
  unfold allB
  rw [List.all_eq_true]
  intro j hj
  rw [List.mem_range] at hj
  rw [Nat.zero_add]
  exact h _ (List.mem_of_getElem? (nums_at s j (by omega)))
theorem leaf_valid {x : Nd} (h : leafN false x) : leafV x = true ∧ x.kind ≠ 3 := by
  rcases h with ⟨ho, hk, h⟩ | ⟨h, _⟩
  · rcases h with ⟨h1, ht⟩ | ⟨h1, ht⟩
    · obtain ⟨h4, h5, h6⟩ := words_ok _ ht
      refine ⟨?_, by omega⟩
      rw [leafV, if_pos h1, hk, allB_of h6]
      simp [h4, h5]
    · obtain ⟨h4, h6⟩ := strs_ok _ ht
      refine ⟨?_, by omega⟩
      rw [leafV, if_neg (by omega), if_pos h1, hk, allB_of h6]
      simp
      omega
  · cases h
theorem gn_valid : ∀ (d e : Nat) (x : Nd), Gn false d x → d ≤ e → vN e x = true := by
  intro d
  induction d with
  | zero =>
    intro e x h _
    obtain ⟨h1, h2⟩ := leaf_valid h
    rw [vN_leaf h2, h1]
  | succ d ih =>
    intro e x h hd
    obtain ⟨e, rfl⟩ : ∃ e', e = e' + 1 := ⟨e - 1, by omega⟩
    rcases h with h | ⟨hk, ht, ho, hl, h⟩
    · obtain ⟨h1, h2⟩ := leaf_valid h
      rw [vN_leaf h2, h1]
    · rw [vN_list hk, ht]
      have ha : x.kids.all (vN e) = true := List.all_eq_true.2 fun y hy => ih e y (h y hy) (by omega)
      rw [ha]
      rfl
theorem formatS_at {w : World} {A : Option Addr} {n c : Nat} {x : Nd} {S : ByteArray} (hS : S = strOfNums (fmtL x)) (hl : (fmtL x).length ≤ 900000) (hr : Rd w (fun _ => True) (.slice A n c) (.sl 26 4 (ndsTr 26 x.kids))) :
    Calls Tryd.prog 10 #[.agg #[.int .i64 x.kind, .string x.text, .slice A n c, .int .i64 x.off]] w fun e w' => e = .returned (.string S) ∧ Below w.heap.size w w' := by
  subst hS
  exact format_node _ x (Nat.le_refl _) w _ A n c (by omega) hr
theorem Format_at {w : World} {A : Option Addr} {n c : Nat} {x : Nd} {S : ByteArray} (hv : vN 40 x = true) (hS : S = strOfNums (fmtL x)) (hl : (fmtL x).length ≤ 900000) (hr : Rd w (fun _ => True) (.slice A n c) (.sl 39 4 (ndsTr 39 x.kids))) :
    Calls Tryd.prog 24 #[.agg #[.int .i64 x.kind, .string x.text, .slice A n c, .int .i64 x.off]] w fun e w' => e = .returned (.tuple #[.string S, .int .i64 0]) ∧ Below w.heap.size w w' := by
  subst hS
  refine (Format_any x w _ A n c (fun _ => hl) hr).mono ?_
  rintro e w' ⟨rfl, hb⟩
  rw [if_pos hv, if_pos hv]
  exact ⟨rfl, hb⟩

set_option maxRecDepth 100000 in
set_option maxHeartbeats 8000000 in
theorem roundtrip_walk (a0 : Option Addr) (len0 cap0 : Nat) (z0 : List Int) (w : World) (w0 : IsRow .i64 w a0 len0 cap0 z0)
    (tw : Tab w w.heap.size 2 wordsL) (ts : Tab w w.heap.size 1 strsL) :
    Calls Tryd.prog 7 #[.slice a0 len0 cap0] w fun e w' => e = .returned (.bool true) ∧ Below w.heap.size w w' := by
  have HW0 := Lib.hid w0
  have HTW := Lib.hid tw
  have HTS := Lib.hid ts
  have HB := Lib.hid (Below.refl w.heap.size w)
  clear w0 tw ts
  go_enter Tryd.func7, Tryd.ntmps7
  go_wp2_with (go_at_call 12; (with_reducible refine (new_any _ _ _ _).mono ?_); rintro e v0 ⟨rfl, rfl⟩)
  have hB1 := HB.out.alloc (Nat.le_refl _) (.cells #[.slice a0 len0 cap0, .int .i64 0] 64)
  refine (anynode_at 4 4 rfl false (by omega) (st_new HW0.out HB.out) (HTW.out.bl hB1) (HTS.out.bl hB1)).mono ?_
  rintro e v1 ⟨x, A1, n1, c1, rfl, hx, hg, -, hk1⟩
  have HB1 := Lib.hid (below_g hB1 hk1 (Nat.le_refl _) (Nat.le_refl _))
  have HX := Lib.hid (hx.mono (ok' := fun _ => True) (fun _ _ _ => trivial))
  have HV := Lib.hid (gn_valid 4 40 x hg (by omega))
  obtain ⟨htx, hnx, h0l, hlx⟩ := gn_txt 4 x hg
  obtain ⟨L, hL⟩ : ∃ L, L = fmtL x := ⟨_, rfl⟩
  obtain ⟨S, hS⟩ : ∃ S, S = strOfNums (fmtL x) := ⟨_, rfl⟩
  have hbd : bnd 4 ≤ 60000 := by decide
  have hl9 : (fmtL x).length ≤ 60000 := by omega
  have HL9 := Lib.hid hl9
  obtain ⟨m, y, hp, hy⟩ := one_law htx (by omega) (fmt_byte x) (by omega)
  rw [← hS] at hp
  have HP := Lib.hid hp
  have HYX := Lib.hid hy
  have HS := Lib.hid hS
  have hcx := gn_cnt 4 false x hg
  have hc4 : cB 4 = 597 := rfl
  clear hB1 hx hg hk1 htx hnx h0l hlx hL hS hp hy hl9 hbd
  have hsz : S.size ≤ 60000 := by have h1 := HL9.out; have h2 := HS.out; rw [h2, strOfNums_size]; exact h1
  have hszm : S.size ≤ 9223372036854775807 := by omega
  have u5 := heap_alloc_new v1 (.cells #[.int .i64 x.kind, .string x.text, .slice A1 n1 c1, .int .i64 x.off] 26)
  have hxU := HX.out.alloc (.cells #[.int .i64 x.kind, .string x.text, .slice A1 n1 c1, .int .i64 x.off] 26)
  have hbU : Below w.heap.size w (v1.alloc (.cells #[.int .i64 x.kind, .string x.text, .slice A1 n1 c1, .int .i64 x.off] 26)) := HB1.out.alloc HB1.out.size _
  have HU5 := Lib.hid u5
  have HXU := Lib.hid hxU
  have HBU := Lib.hid hbU
  have hu5 := lt_of_block u5
  clear u5 hxU hbU
  go_wp2_with (first
    | (go_at_call 18; (with_reducible refine (node_at (x := x) (by omega) HXU.out).mono ?_); rintro e v2 ⟨A2, n2, c2, lo2, rfl, hx2, hb2, -⟩; have HX2 := Lib.hid (hx2.mono (ok' := fun _ => True) (fun _ _ _ => trivial)); have HB2 := Lib.hid hb2; clear hx2 hb2)
    | (go_at_call 24; (with_reducible refine (Format_at HV.out HS.out (by have := HL9.out; omega) HX2.out).mono ?_); rintro e v3 ⟨rfl, hb3⟩; have HB3 := Lib.hid (below_call HB2.out hb3); clear hb3)
    | (go_at_call 13; (with_reducible refine (parse_at hszm HP.out).mono ?_); rintro e v4 ⟨A4, c4, lo4, rfl, hr4, hb4, -⟩; have HB4 := Lib.hid (below_call HB3.out hb4); have HR4 := Lib.hid (hr4.mono (ok' := fun _ => True) (fun _ _ _ => trivial)); clear hb4 hr4))
  have k7 := heap_alloc_new v4 (.cells #[.int .i64 0, .int .i64 0] 33)
  have hbz : Below (v1.alloc (.cells #[.int .i64 x.kind, .string x.text, .slice A1 n1 c1, .int .i64 x.off] 26)).heap.size (v1.alloc (.cells #[.int .i64 x.kind, .string x.text, .slice A1 n1 c1, .int .i64 x.off] 26)) (v4.alloc (.cells #[.int .i64 0, .int .i64 0] 33)) := HB4.out.alloc HB4.out.size _
  have rx := HR4.out.alloc (.cells #[.int .i64 0, .int .i64 0] 33)
  generalize (v4.alloc (.cells #[.int .i64 0, .int .i64 0] 33)) = wz at *
  have hyl : [y][0]? = some y := rfl
  obtain ⟨b, o, KA, KN, KC, hae, -, hpb, p0, p1, p2, p3, p4⟩ := nd_at rx hyl
  obtain rfl := hae
  simp only [Nat.zero_mul, Nat.add_zero] at p0 p1 p2 p4
  have hg7 := lt_of_block k7
  have HG5 := Lib.hid (below_blk hbz HU5.out)
  have hg5 := lt_of_block HG5.out
  have HG7 := Lib.hid k7
  have HP0 := Lib.hid p0
  have HP1 := Lib.hid p1
  have HP2 := Lib.hid p2
  have HP4 := Lib.hid p4
  have HP3 := Lib.hid p3
  have HXW := Lib.hid (HXU.out.bl hbz)
  have HBY := Lib.hid (HBU.out.trans (hbz.mono HBU.out.size))
  have BW0 := Lib.hid ((Below.refl wz.heap.size wz).drew)
  obtain ⟨_, _, _, _⟩ := two k7
  obtain ⟨_, _, _, _, -⟩ := four HG5.out
  have hSS : (S.toList == S.toList) = true := by simp
  generalize v4.heap.size = g7 at *
  generalize v1.heap.size = g5 at *
  clear hbz k7 rx p3 hyl
  go_wp2_with fail
  go_region_held3 (fun W' => (W'.cell? ⟨g7, 0, none⟩ = some (.int .i64 0) ∧ W'.cell? ⟨b, o, none⟩ = some (.int .i64 y.kind) ∧ W'.cell? ⟨b, o + 1, none⟩ = some (.string y.text) ∧ W'.cell? ⟨b, o + 2, none⟩ = some (.slice KA KN KC) ∧ W'.cell? ⟨b, o + 3, none⟩ = some (.int .i64 y.off)) ∧ W'.cell? ⟨g5, 0, none⟩ = some (.int .i64 x.kind) ∧ W'.cell? ⟨g5, 1, none⟩ = some (.string x.text) ∧ W'.cell? ⟨g5, 2, none⟩ = some (.slice A1 n1 c1) ∧ W'.cell? ⟨g5, 3, none⟩ = some (.int .i64 x.off))
    ((refine keep_end ?_ HG7.out HP0.out HP1.out HP2.out HP4.out HG5.out; repeat' (first | with_reducible exact Below.refl _ _ | with_reducible exact BW14.out | with_reducible exact BW13.out | with_reducible exact BW12.out | with_reducible exact BW11.out | with_reducible refine Below.drew ?_)))
    ((first
      | (go_at_call 15; (with_reducible refine (check_any _).mono ?_); rintro e v11 ⟨rfl, hb⟩; have BW11 := Lib.hid (below_call BW0.out hb); clear hb)
      | (go_at_call 10; (with_reducible refine (formatS_at (x := x) HS.out (by have := HL9.out; omega) (by exact HXW.out.bl BW11.out)).mono ?_); rintro e v12 ⟨rfl, hb⟩; have BW12 := Lib.hid (below_call BW11.out hb); clear hb)
      | (go_at_call 18; (with_reducible refine (node_at (x := x) (by omega) (by exact HXW.out.bl BW12.out)).mono ?_); rintro e v13 ⟨A5, n5, c5, lo5, rfl, hx5, hb, -⟩; have BW13 := Lib.hid (below_call BW12.out hb); have HX5 := Lib.hid (hx5.mono (ok' := fun _ => True) (fun _ _ _ => trivial)); clear hb hx5)
      | (go_at_call 17; (with_reducible refine (equal_at (x := y) (y := x) (by exact HP3.out.bl BW13.out) (by exact HX5.out)).mono ?_); rintro e v14 ⟨he, hb⟩; rw [HYX.out] at he; subst he; have BW14 := Lib.hid (below_call BW13.out hb); clear hb)))
  go_wp2_with fail
  go_ret
  exact ⟨rfl, HBY.out.trans (BW14.out.mono HBY.out.size)⟩
end Go.Proofs.YtjpabigjmimogaaDoor
