/- tellaw1.SexprValid: the walk. -/
import Derived.Test.YtjpabigjmimogaaDoorRtWalk
set_option linter.unusedVariables false
set_option linter.unusedSimpArgs false
namespace Go.Proofs.YtjpabigjmimogaaDoor
open Go.RowKit
attribute [local go_sem ↓] Go.wp_at_zero Go.wp_at_succ

theorem words_len : ∀ t ∈ wordsL, t.size ≤ 24 := fun t h => (words_ok t h).2.1
theorem strs_len : ∀ t ∈ strsL, t.size ≤ 13 := fun t h => (strs_ok t h).1
theorem leaf_len {bad : Bool} {x : Nd} (h : leafN bad x) : (fmtL x).length ≤ 30 := by
  rcases h with ⟨ho, hk, h⟩ | ⟨_, ht, h⟩
  · rcases h with ⟨h1, ht⟩ | ⟨h1, ht⟩
    · have := words_len _ ht
      rw [fmtL_word h1, nums_length]
      omega
    · have := strs_len _ ht
      have he := (esc_length (nums x.text)).1
      rw [nums_length] at he
      rw [fmtL_str h1]
      simp [quoteL]
      omega
  · have h13 := strs_len _ ht
    by_cases h1 : x.kind = 1
    · rw [fmtL_word h1, nums_length]; omega
    · by_cases h2 : x.kind = 2
      · have he := (esc_length (nums x.text)).1
        rw [nums_length] at he
        rw [fmtL_str h2]
        simp [quoteL]
        omega
      · rw [fmtL_list h1 h2]
        rcases h with ⟨hk, _⟩ | ⟨⟨u, hu, hk⟩, _⟩
        · rw [hk]; simp [fmtItems]
        · have := words_len u hu
          rw [hk]
          simp [fmtItems, fmtRest, fmtL, nums_length]
          omega
theorem gn_len : ∀ (d : Nat) (bad : Bool) (x : Nd), Gn bad d x → (fmtL x).length ≤ bnd d := by
  intro d
  induction d with
  | zero => intro bad x h; exact leaf_len h
  | succ d ih =>
    intro bad x h
    have hb := bnd_30 d
    rcases h with h | ⟨hk, ht, ho, hl, h⟩
    · have := leaf_len h
      simp only [bnd]; omega
    · rw [fmtL_list (by omega) (by omega)]
      have h1 := items_len (fun y hy => ih bad y (h y hy))
      have h2 : x.kids.length * (bnd d + 1) ≤ 4 * (bnd d + 1) := Nat.mul_le_mul_right _ hl
      simp only [List.length_cons, List.length_append, List.length_nil, bnd]
      omega
theorem leaf_fit {bad : Bool} {x : Nd} (h : leafN bad x) (e : Nat) : fit e x := by
  have ht : x.text.size ≤ 1000000 := by
    rcases h with ⟨_, _, ⟨_, h⟩ | ⟨_, h⟩⟩ | ⟨_, h, _⟩
    · have := words_len _ h; omega
    · have := strs_len _ h; omega
    · have := strs_len _ h; omega
  cases e with
  | zero => exact ht
  | succ e =>
    refine ⟨ht, fun y hy => ?_⟩
    rcases h with ⟨_, hk, _⟩ | ⟨_, _, ⟨hk, _⟩ | ⟨⟨u, hu, hk⟩, _⟩⟩
    · rw [hk] at hy; cases hy
    · rw [hk] at hy; cases hy
    · rw [hk] at hy
      simp at hy
      subst hy
      have h24 := words_len u hu
      cases e with
      | zero => simp only [fit, Nd.text]; omega
      | succ e => exact ⟨by simp only [Nd.text]; omega, fun z hz => by simp [Nd.kids] at hz⟩
theorem gn_fit : ∀ (d : Nat) (bad : Bool) (x : Nd), Gn bad d x → ∀ e, fit e x := by
  intro d
  induction d with
  | zero => intro bad x h e; exact leaf_fit h e
  | succ d ih =>
    intro bad x h e
    rcases h with h | ⟨hk, ht, ho, hl, h⟩
    · exact leaf_fit h e
    · cases e with
      | zero => simp only [fit]; rw [ht]; decide
      | succ e => exact ⟨by rw [ht]; decide, fun y hy => ih bad y (h y hy) e⟩
/-- What is asked of a node that is wrapped k times. -/
def Qw (k : Nat) (x : Nd) : Prop := cntN x ≤ 1000 + k ∧ (fmtL x).length ≤ 10000 + 2 * k ∧ ∀ e, fit e x
theorem Qw.start {x : Nd} (h : Gn true 3 x) : Qw 0 x := by
  have h1 := gn_cnt 3 true x h
  have h2 := gn_len 3 true x h
  have h3 : cB 3 = 149 := rfl
  have h4 : bnd 3 ≤ 10000 := by decide
  exact ⟨by omega, by omega, gn_fit 3 true x h⟩
theorem Qw.wrap {k : Nat} {x : Nd} (h : Qw k x) : Qw (k + 1) (wrapN x) := by
  obtain ⟨h1, h2, h3⟩ := h
  refine ⟨?_, by rw [wrap_len]; omega, fun e => ?_⟩
  · rw [cnt_kids]
    simp [wrapN, Nd.kids, cnts]
    omega
  · cases e with
    | zero => simp [fit, wrapN, Nd.text]; decide
    | succ e => exact ⟨by simp [wrapN, Nd.text]; decide, fun y hy => by simp [wrapN, Nd.kids] at hy; subst hy; exact h3 e⟩
theorem Format_no {w : World} {A : Option Addr} {n c : Nat} {x : Nd} (hv : vN 40 x = false) (hr : Rd w (fun _ => True) (.slice A n c) (.sl 39 4 (ndsTr 39 x.kids))) :
    Calls Tryd.prog 24 #[.agg #[.int .i64 x.kind, .string x.text, .slice A n c, .int .i64 x.off]] w fun e w' => e = .returned (.tuple #[.string ⟨#[]⟩, .int .i64 2]) ∧ Below w.heap.size w w' := by
  refine (Format_any x w _ A n c (fun h => by rw [hv] at h; cases h) hr).mono ?_
  rintro e w' ⟨rfl, hb⟩
  rw [hv]
  exact ⟨rfl, hb⟩
theorem keep_pair {U W : World} {g g' T T' : Nat} {a b c d a' b' c' d' : Value} (h : Below U.heap.size U W) (u : U.heap[g]? = some (.cells #[a, b, c, d] T (0, 0))) (u' : U.heap[g']? = some (.cells #[a', b', c', d'] T' (0, 0))) :
    W.cell? ⟨g, 0, none⟩ = some a ∧ W.cell? ⟨g, 1, none⟩ = some b ∧ W.cell? ⟨g, 2, none⟩ = some c ∧ W.cell? ⟨g, 3, none⟩ = some d ∧ W.cell? ⟨g', 0, none⟩ = some a' ∧ W.cell? ⟨g', 1, none⟩ = some b' ∧ W.cell? ⟨g', 2, none⟩ = some c' ∧ W.cell? ⟨g', 3, none⟩ = some d' := by
  obtain ⟨c0, c1, c2, c3, -⟩ := four (below_blk h u)
  obtain ⟨e0, e1, e2, e3, -⟩ := four (below_blk h u')
  exact ⟨c0, c1, c2, c3, e0, e1, e2, e3⟩
theorem set4_size (w : World) (g : Nat) (a b c d : Value) : (set4 w g a b c d).heap.size = w.heap.size := by simp [set4, World.setCell]
theorem rd_wrap {w : World} {g : Nat} {x : Nd} {A : Option Addr} {n c : Nat} {a b d : Value} (v : Value) (hg : g < w.heap.size) (hx : Rd w (fun b => ¬ b = g) (.slice A n c) (.sl 26 4 (ndsTr 26 x.kids))) :
    Rd ((set4 w g a b v d).alloc (.cells #[.int .i64 x.kind, .string x.text, .slice A n c, .int .i64 x.off] 26 (0, 0))) (fun b => ¬ b = g) (.slice (some ⟨w.heap.size, 0, none⟩) 1 1) (.sl 26 4 (ndsTr 26 (wrapN x).kids)) := by
  have h := rd_single (hx.kp (kp_set4 w g a b v d) (fun b hb e => hb e))
  rw [set4_size] at h
  exact h.mono (fun b h _ => h.elim id (fun e => by omega))
theorem bel_set4 {w W : World} {g : Nat} (h : Below w.heap.size w W) (hg : w.heap.size ≤ g) (a b c d : Value) (o : Obj) : Below w.heap.size w ((set4 W g a b c d).alloc o) :=
  (((((h.setCell (by exact hg) _).setCell (by exact hg) _).setCell (by exact hg) _).setCell (by exact hg) _)).alloc (by rw [show (((((W.setCell ⟨g, 0, none⟩ a).setCell ⟨g, 1, none⟩ b).setCell ⟨g, 2, none⟩ c).setCell ⟨g, 3, none⟩ d)).heap.size = W.heap.size from set4_size W g a b c d]; exact h.size) o

set_option maxRecDepth 100000 in
set_option maxHeartbeats 8000000 in
theorem valid_walk (a0 : Option Addr) (len0 cap0 : Nat) (z0 : List Int) (di : Int) (w : World) (w0 : IsRow .i64 w a0 len0 cap0 z0)
    (tw : Tab w w.heap.size 2 wordsL) (ts : Tab w w.heap.size 1 strsL) :
    Calls Tryd.prog 6 #[.slice a0 len0 cap0, .int .i64 di] w fun e w' => e = .returned (.bool true) ∧ Below w.heap.size w w' := by
  have HW0 := Lib.hid w0
  have HTW := Lib.hid tw
  have HTS := Lib.hid ts
  have HB := Lib.hid (Below.refl w.heap.size w)
  obtain ⟨K, hK⟩ : ∃ K : Nat, di % 42 = (K : Int) := ⟨(di % 42).toNat, by omega⟩
  have hK42 : K < 42 := by omega
  have HR := Lib.hid hK
  clear w0 tw ts hK
  go_enter Tryd.func6, Tryd.ntmps6
  go_wp2_with (go_at_call 12; (with_reducible refine (new_any _ _ _ _).mono ?_); rintro e v0 ⟨rfl, rfl⟩)
  have hB1 := HB.out.alloc (Nat.le_refl _) (.cells #[.slice a0 len0 cap0, .int .i64 0] 64)
  refine (anynode_at' 3 3 rfl true (by omega) (st_new HW0.out HB.out) (HTW.out.bl hB1) (HTS.out.bl hB1)).mono ?_
  rintro e v1 ⟨x0, A1, n1, c1, rfl, hx, hg, -, hk1⟩
  have HB1 := Lib.hid (below_g hB1 hk1 (Nat.le_refl _) (Nat.le_refl _))
  have HX := Lib.hid hx
  have HQ0 := Lib.hid (Qw.start hg)
  have hv1 := HB1.out.size
  clear hB1 hx hg hk1
  go_wp2_with fail
  go_loopg [6] K (fun q iv wr => ∃ (i : Nat) (x : Nd) (A : Option Addr) (n c : Nat), iv = .int .i64 (i : Int) ∧ Hid (i ≤ K ∧ q = K - i ∧ Qw i x ∧ wr.heap[v1.heap.size]? = some (.cells #[.int .i64 x.kind, .string x.text, .slice A n c, .int .i64 x.off] 26 (0, 0)) ∧ Rd wr (fun b => ¬ b = v1.heap.size) (.slice A n c) (.sl 26 4 (ndsTr 26 x.kids)) ∧ Below w.heap.size w wr))
  case atStart => exact ⟨0, x0, A1, n1, c1, rfl, Nat.zero_le _, rfl, HQ0.out, heap_alloc_new v1 _, (HX.out.mono (fun b _ h => Nat.ne_of_lt h)).alloc _, HB1.out.alloc HB1.out.size _⟩
  case round =>
    obtain ⟨i, x, A, n, c, rfl, HH⟩ := hrel
    obtain ⟨q1, q2, hq, hbk, hrd, hbr⟩ := HH.out
    have HQ := Lib.hid q2
    have HQX := Lib.hid hq
    have HBK := Lib.hid hbk
    have HRD := Lib.hid hrd
    have HBR := Lib.hid hbr
    have hg5 := lt_of_block hbk
    obtain ⟨_, _, _, _, _, _, _, _⟩ := four hbk
    obtain ⟨_, _, _, _, _, _, _, _⟩ := fourA hbk
    clear HH q2 hq hbk hrd hbr HX HQ0 HB1
    have hm := HR
    by_cases hlt : i < K
    · have hlt' : (i : Int) < (K : Int) := by omega
      have hi0 : (0 : Int) ≤ (i : Int) := by omega
      go_wp2_with (go_at_call 14; (with_reducible refine (mod_any _ _ (by omega) (by omega) _).mono ?_); rintro e w' ⟨he, rfl⟩; rw [HR.out] at he; subst he)
      go_roundg (K - (i + 1))
      case measure => have := HQ.out; omega
      case rel => exact ⟨i + 1, wrapN x, some ⟨wr.heap.size, 0, none⟩, 1, 1, by simp, by omega, rfl, HQX.out.wrap, blk_al (blk_set4 HBK.out _ _ _ _), rd_wrap _ hg5 HRD.out, bel_set4 HBR.out hv1 _ _ _ _ _⟩
    · obtain rfl : i = K := by omega
      have hd : decide ((i : Int) < (i : Int)) = false := by simp
      obtain ⟨hc1, hc2, hc3⟩ := HQX.out
      have HFT := Lib.hid (hc3 40)
      obtain ⟨S, hS⟩ : ∃ S, S = strOfNums (fmtL x) := ⟨_, rfl⟩
      have HS := Lib.hid hS
      clear hc3 hS
      go_wp2_with (go_at_call 14; (with_reducible refine (mod_any _ _ (by omega) (by omega) _).mono ?_); rintro e w' ⟨he, rfl⟩; rw [HR.out] at he; subst he)
      cases hv : vN 40 x
      · have HV := Lib.hid hv
        clear hv
        go_wp2_with (first
          | (go_at_call 18; (with_reducible refine (node_at (x := x) (by omega) (by exact HRD.out.mono (ok' := fun _ => True) (fun _ _ _ => trivial))).mono ?_); rintro e v2 ⟨A2, n2, c2, lo2, rfl, hx2, hb2, -⟩; have HX2 := Lib.hid ((hx2.mono (ok' := fun _ => True) (fun _ _ _ => trivial)).alloc (.cells #[.int .i64 x.kind, .string x.text, .slice A2 n2 c2, .int .i64 x.off] 39)); have HB2 := Lib.hid (hb2.alloc hb2.size (.cells #[.int .i64 x.kind, .string x.text, .slice A2 n2 c2, .int .i64 x.off] 39)); have H7 := Lib.hid (heap_alloc_new v2 (.cells #[.int .i64 x.kind, .string x.text, .slice A2 n2 c2, .int .i64 x.off] 39)); have h7s := lt_of_block H7.out; clear hx2 hb2)
          | (go_at_call 24; (with_reducible refine (Format_no HV.out HX2.out).mono ?_); rintro e v3 ⟨rfl, hb3⟩; have HB3 := Lib.hid (below_call HB2.out hb3); have HQ3 := Lib.hid hb3; clear hb3))
        have HBZ := Lib.hid (HBR.out.trans (HB3.out.mono HBR.out.size))
        have HG5 := Lib.hid (below_blk HB3.out HBK.out)
        have HG7 := Lib.hid (below_blk HQ3.out H7.out)
        have HXZ := Lib.hid (HX2.out.bl HQ3.out)
        have HNZ := Lib.hid ((HRD.out.mono (ok' := fun _ => True) (fun _ _ _ => trivial)).bl HB3.out)
        generalize v2.heap.size = g7 at *
        generalize v1.heap.size = g5 at *
        have hg5l := lt_of_block HG5.out
        have hg7l := lt_of_block HG7.out
        have BW0 := Lib.hid ((Below.refl v3.heap.size v3).drew)
        obtain ⟨_, _, _, _, -⟩ := four HG5.out
        obtain ⟨_, _, _, _, -⟩ := four HG7.out
        have hSS : (S.toList == S.toList) = true := by simp
        go_region_held3 (fun W' => (W'.cell? ⟨g5, 0, none⟩ = some (.int .i64 x.kind) ∧ W'.cell? ⟨g5, 1, none⟩ = some (.string x.text) ∧ W'.cell? ⟨g5, 2, none⟩ = some (.slice A n c) ∧ W'.cell? ⟨g5, 3, none⟩ = some (.int .i64 x.off) ∧ W'.cell? ⟨g7, 0, none⟩ = some (.int .i64 x.kind) ∧ W'.cell? ⟨g7, 1, none⟩ = some (.string x.text) ∧ W'.cell? ⟨g7, 2, none⟩ = some (.slice A2 n2 c2) ∧ W'.cell? ⟨g7, 3, none⟩ = some (.int .i64 x.off)))
          ((refine keep_pair ?_ HG5.out HG7.out; repeat' (first | with_reducible exact Below.refl _ _ | with_reducible exact BW13.out | with_reducible exact BW12.out | with_reducible exact BW11.out | with_reducible refine Below.drew ?_)))
          ((first
            | (go_at_call 15; (with_reducible refine (check_any _).mono ?_); rintro e v11 ⟨rfl, hb⟩; have BW11 := Lib.hid (below_call BW0.out hb); clear hb)
            | (go_at_call 25; (with_reducible refine (Valid_any x _ _ _ _ _ (by exact HXZ.out.bl BW11.out)).mono ?_); rintro e v12 ⟨he, hb⟩; rw [HV.out] at he; subst he; have BW12 := Lib.hid (below_call BW11.out hb); clear hb)
            | (go_at_call 26; (with_reducible refine (NodeValid_any x _ _ _ _ _ HFT.out (by exact HNZ.out.bl BW12.out)).mono ?_); rintro e v13 ⟨he, hb⟩; rw [HV.out] at he; subst he; have BW13 := Lib.hid (below_call BW12.out hb); clear hb)))
        go_wp2_with (first
          | (go_at_call 26; (with_reducible refine (NodeValid_any x _ _ _ _ _ HFT.out (by exact HNZ.out.bl BW13.out)).mono ?_); rintro e v14 ⟨he, hb⟩; rw [HV.out] at he; subst he; have BW14 := Lib.hid (below_call BW13.out hb); obtain ⟨_, _, _, _, -⟩ := four (below_blk BW14.out HG5.out); clear hb)
          | (go_at_call 10; (with_reducible refine (formatS_at (x := x) HS.out (by omega) (by exact HNZ.out.bl BW14.out)).mono ?_); rintro e v15 ⟨rfl, hb⟩; have BW15 := Lib.hid (below_call BW14.out hb); clear hb))
        go_ret
        exact ⟨rfl, HBZ.out.trans (BW14.out.mono HBZ.out.size)⟩
      · have HV := Lib.hid hv
        clear hv
        go_wp2_with (first
          | (go_at_call 18; (with_reducible refine (node_at (x := x) (by omega) (by exact HRD.out.mono (ok' := fun _ => True) (fun _ _ _ => trivial))).mono ?_); rintro e v2 ⟨A2, n2, c2, lo2, rfl, hx2, hb2, -⟩; have HX2 := Lib.hid ((hx2.mono (ok' := fun _ => True) (fun _ _ _ => trivial)).alloc (.cells #[.int .i64 x.kind, .string x.text, .slice A2 n2 c2, .int .i64 x.off] 39)); have HB2 := Lib.hid (hb2.alloc hb2.size (.cells #[.int .i64 x.kind, .string x.text, .slice A2 n2 c2, .int .i64 x.off] 39)); have H7 := Lib.hid (heap_alloc_new v2 (.cells #[.int .i64 x.kind, .string x.text, .slice A2 n2 c2, .int .i64 x.off] 39)); have h7s := lt_of_block H7.out; clear hx2 hb2)
          | (go_at_call 24; (with_reducible refine (Format_at HV.out HS.out (by omega) HX2.out).mono ?_); rintro e v3 ⟨rfl, hb3⟩; have HB3 := Lib.hid (below_call HB2.out hb3); have HQ3 := Lib.hid hb3; clear hb3))
        have HBZ := Lib.hid (HBR.out.trans (HB3.out.mono HBR.out.size))
        have HG5 := Lib.hid (below_blk HB3.out HBK.out)
        have HG7 := Lib.hid (below_blk HQ3.out H7.out)
        have HXZ := Lib.hid (HX2.out.bl HQ3.out)
        have HNZ := Lib.hid ((HRD.out.mono (ok' := fun _ => True) (fun _ _ _ => trivial)).bl HB3.out)
        generalize v2.heap.size = g7 at *
        generalize v1.heap.size = g5 at *
        have hg5l := lt_of_block HG5.out
        have hg7l := lt_of_block HG7.out
        have BW0 := Lib.hid ((Below.refl v3.heap.size v3).drew)
        obtain ⟨_, _, _, _, -⟩ := four HG5.out
        obtain ⟨_, _, _, _, -⟩ := four HG7.out
        have hSS : (S.toList == S.toList) = true := by simp
        go_region_held3 (fun W' => (W'.cell? ⟨g5, 0, none⟩ = some (.int .i64 x.kind) ∧ W'.cell? ⟨g5, 1, none⟩ = some (.string x.text) ∧ W'.cell? ⟨g5, 2, none⟩ = some (.slice A n c) ∧ W'.cell? ⟨g5, 3, none⟩ = some (.int .i64 x.off) ∧ W'.cell? ⟨g7, 0, none⟩ = some (.int .i64 x.kind) ∧ W'.cell? ⟨g7, 1, none⟩ = some (.string x.text) ∧ W'.cell? ⟨g7, 2, none⟩ = some (.slice A2 n2 c2) ∧ W'.cell? ⟨g7, 3, none⟩ = some (.int .i64 x.off)))
          ((refine keep_pair ?_ HG5.out HG7.out; repeat' (first | with_reducible exact Below.refl _ _ | with_reducible exact BW13.out | with_reducible exact BW12.out | with_reducible exact BW11.out | with_reducible refine Below.drew ?_)))
          ((first
            | (go_at_call 15; (with_reducible refine (check_any _).mono ?_); rintro e v11 ⟨rfl, hb⟩; have BW11 := Lib.hid (below_call BW0.out hb); clear hb)
            | (go_at_call 25; (with_reducible refine (Valid_any x _ _ _ _ _ (by exact HXZ.out.bl BW11.out)).mono ?_); rintro e v12 ⟨he, hb⟩; rw [HV.out] at he; subst he; have BW12 := Lib.hid (below_call BW11.out hb); clear hb)
            | (go_at_call 26; (with_reducible refine (NodeValid_any x _ _ _ _ _ HFT.out (by exact HNZ.out.bl BW12.out)).mono ?_); rintro e v13 ⟨he, hb⟩; rw [HV.out] at he; subst he; have BW13 := Lib.hid (below_call BW12.out hb); clear hb)))
        go_wp2_with (first
          | (go_at_call 26; (with_reducible refine (NodeValid_any x _ _ _ _ _ HFT.out (by exact HNZ.out.bl BW13.out)).mono ?_); rintro e v14 ⟨he, hb⟩; rw [HV.out] at he; subst he; have BW14 := Lib.hid (below_call BW13.out hb); obtain ⟨_, _, _, _, -⟩ := four (below_blk BW14.out HG5.out); clear hb)
          | (go_at_call 10; (with_reducible refine (formatS_at (x := x) HS.out (by omega) (by exact HNZ.out.bl BW14.out)).mono ?_); rintro e v15 ⟨rfl, hb⟩; have BW15 := Lib.hid (below_call BW14.out hb); clear hb))
        go_ret
        exact ⟨rfl, HBZ.out.trans (BW15.out.mono HBZ.out.size)⟩
end Go.Proofs.YtjpabigjmimogaaDoor
