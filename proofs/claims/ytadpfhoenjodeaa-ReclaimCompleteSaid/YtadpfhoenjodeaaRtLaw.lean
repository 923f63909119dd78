/- tellaw37.ReclaimTells, the walk. -/
import Derived.Test.YtadpfhoenjodeaaSane
import Derived.Test.YtadpfhoenjodeaaUnrRef
set_option linter.unusedVariables false
set_option linter.unusedSimpArgs false
namespace Go.Proofs.Ytadpfhoenjodeaa
open Go.RowKit Go.Maps

theorem stTr_one (s : List (List Fr)) : ∀ e ∈ s.map frsTr, e.one := by
  intro e he
  obtain ⟨l, _, rfl⟩ := List.mem_map.1 he
  trivial
theorem lists_wf {p : Int → Prop} {L : List Int} (h : Lists p L) (hp : ∀ x, p x → (Lit.int .i64 x).wf = true) : ∀ x ∈ L, (Lit.int .i64 x).wf = true := fun x hx => hp x ((h.2 x).1 hx)
theorem wf_small {x : Int} (h0 : 0 ≤ x) (h1 : x ≤ 1000000) : (Lit.int .i64 x).wf = true := by
  simp [Lit.wf, IntKind.min, IntKind.max, IntKind.signed, IntKind.bits]
  omega
theorem tape_new {w : World} {ok : Nat → Prop} {A : Option Addr} {n c : Nat} {l : List Int} (h : Rd w ok (.slice A n c) (intsTr l)) : TpK (w.alloc (.cells #[.slice A n c, .int .i64 0] 82 (0, 0))) w.heap.size w.heap.size 0 := by
  obtain ⟨hn, hnc, hc⟩ := ints_len h
  refine ⟨A, n, c, fun i => l.getD i 0, Nat.le_refl _, heap_alloc_new w _, by omega, by omega, fun i hi => ?_⟩
  obtain ⟨b, o, rfl, hcell⟩ := ints_at h (x := l.getD i 0) (by rw [List.getD_eq_getElem?_getD, List.getElem?_eq_getElem (by omega)]; rfl)
  refine ⟨⟨b, o, none⟩, rfl, World.block_lt_of_cell? w ⟨b, o + i, none⟩ hcell, ?_⟩
  rw [Addr.add_lit]
  exact below_cell (bel_alloc (Below.refl _ _) _) hcell
theorem flatten_le {α : Type} (s : List (List α)) (k : Nat) (h : ∀ l ∈ s, l.length ≤ k) : s.flatten.length ≤ s.length * k := by
  induction s with
  | nil => simp
  | cons a s ih =>
    have h1 := h a (by simp)
    have h2 := ih fun l hl => h l (by simp [hl])
    rw [List.flatten_cons, List.length_append, List.length_cons, Nat.succ_mul]
    omega
theorem good_wf {s : List (List Fr)} (h : GoodS s) : ∀ l ∈ s, ∀ f ∈ l, (Lit.int .i64 f.code).wf = true ∧ (Lit.int .i64 f.world).wf = true := by
  intro l hl f hf
  obtain ⟨c, m, wd, rfl, h1, h2, h3, h4, h5, h6⟩ := (h l hl).2 f hf
  exact ⟨wf_small h1 (by show c ≤ _; omega), wf_small (by show 0 ≤ wd; omega) (by show wd ≤ _; omega)⟩
theorem goodc_wf {l : List Cc} (h : GoodCs l) (hl : l.length ≤ 1000) : ∀ x ∈ l, (Lit.int .i64 x.id).wf = true := by
  intro x hx
  obtain ⟨j, hj, rfl⟩ := List.getElem_of_mem hx
  obtain ⟨m, f, t, e, _⟩ := h j _ (List.getElem?_eq_getElem hj)
  rw [e]
  exact wf_small (by show (0 : Int) ≤ (j : Int) + 1; omega) (by show (j : Int) + 1 ≤ _; omega)

set_option maxRecDepth 100000 in
set_option maxHeartbeats 16000000 in
theorem rtWalk (tl : List Int) (newest : Int) (raw : List (List Fr)) (all : List Cc) (active worlds : List Int) (w : World) (A0 A2a A3a A4a A5a : Option Addr) (n0 c0 n2 c2a n3 c3a n4 c4a n5 c5a : Nat)
    (h0 : Rd w (fun _ => True) (.slice A0 n0 c0) (intsTr tl)) (h2 : Rd w (fun _ => True) (.slice A2a n2 c2a) (stTr raw)) (h3 : Rd w (fun _ => True) (.slice A3a n3 c3a) (ccsTr all)) (h4 : Rd w (fun _ => True) (.slice A4a n4 c4a) (intsTr active)) (h5 : Rd w (fun _ => True) (.slice A5a n5 c5a) (intsTr worlds))
    (hnw : (Lit.int .i64 newest).wf = true) (hw2 : ∀ l ∈ raw, ∀ f ∈ l, (Lit.int .i64 f.code).wf = true ∧ (Lit.int .i64 f.world).wf = true) (hw3 : ∀ x ∈ all, (Lit.int .i64 x.id).wf = true) (hw4 : ∀ x ∈ active, (Lit.int .i64 x).wf = true) :
    Calls Try.prog 3 #[.slice A0 n0 c0, .int .i64 newest, .slice A2a n2 c2a, .slice A3a n3 c3a, .slice A4a n4 c4a, .slice A5a n5 c5a] w fun e w' => e = .returned (.bool true) ∧ Below w.heap.size w w' := by
  obtain ⟨i1, hi1, hy0, hy1, hy2⟩ := info_parts slf_info
  obtain ⟨hn2, hn21, hn22⟩ := st_len h2
  obtain ⟨hn3, hn31, hn32⟩ := ccs_len h3
  obtain ⟨hn4, hn41, hn42⟩ := ints_len h4
  simp only [maxLen] at hn22 hn32 hn42
  have H0 := Lib.hid h0
  have H20 := Lib.hid h2
  have H30 := Lib.hid h3
  have H40 := Lib.hid h4
  have H50 := Lib.hid h5
  have HW2 := Lib.hid hw2
  have HW3 := Lib.hid hw3
  have HW4 := Lib.hid hw4
  have HN2 := Lib.hid hn2
  have HN3 := Lib.hid hn3
  have HN4 := Lib.hid hn4
  have HBw := Lib.hid (Below.refl w.heap.size w)
  clear h0 h2 h3 h4 h5 hw2 hw3 hw4 hn2 hn3 hn4
  by_cases g2 : 20 < n2
  · have e2 : decide ((20 : Int) < (n2 : Int)) = true := by simp; omega
    go_enter Try.func3, Try.ntmps3
    go_wp2_with fail
    go_ret
    exact ⟨rfl, HBw.out⟩
  by_cases g3 : 40 < n3
  · have e2 : decide ((20 : Int) < (n2 : Int)) = false := by simp; omega
    have e3 : decide ((40 : Int) < (n3 : Int)) = true := by simp; omega
    clear g2
    go_enter Try.func3, Try.ntmps3
    go_wp2_with fail
    go_ret
    exact ⟨rfl, HBw.out⟩
  by_cases g4 : 40 < n4
  · have e2 : decide ((20 : Int) < (n2 : Int)) = false := by simp; omega
    have e3 : decide ((40 : Int) < (n3 : Int)) = false := by simp; omega
    have e4 : decide ((40 : Int) < (n4 : Int)) = true := by simp; omega
    clear g2 g3
    go_enter Try.func3, Try.ntmps3
    go_wp2_with fail
    go_ret
    exact ⟨rfl, HBw.out⟩
  by_cases g5 : 40 < n5
  · have e2 : decide ((20 : Int) < (n2 : Int)) = false := by simp; omega
    have e3 : decide ((40 : Int) < (n3 : Int)) = false := by simp; omega
    have e4 : decide ((40 : Int) < (n4 : Int)) = false := by simp; omega
    have e5 : decide ((40 : Int) < (n5 : Int)) = true := by simp; omega
    clear g2 g3 g4
    go_enter Try.func3, Try.ntmps3
    go_wp2_with fail
    go_ret
    exact ⟨rfl, HBw.out⟩
  have e2 : decide ((20 : Int) < (n2 : Int)) = false := by simp; omega
  have e3 : decide ((40 : Int) < (n3 : Int)) = false := by simp; omega
  have e4 : decide ((40 : Int) < (n4 : Int)) = false := by simp; omega
  have e5 : decide ((40 : Int) < (n5 : Int)) = false := by simp; omega
  go_enter Try.func3, Try.ntmps3
  go_wp2_with fail
  go_loopg [13] n2 (fun q iv wr => ∃ (i : Nat), iv = .int .i64 (i : Int) ∧ Hid (i ≤ n2 ∧ q = n2 - i ∧ (∀ l ∈ raw.take i, l.length ≤ 20) ∧ w = wr))
  case atStart => exact ⟨0, rfl, Nat.zero_le _, rfl, by simp, rfl⟩
  case round =>
    obtain ⟨i, rfl, HH⟩ := hrel
    obtain ⟨q1, q2, q3, rfl⟩ := HH.out
    have HQ := Lib.hid q2
    have HS20 := Lib.hid q3
    clear HH q2 q3
    by_cases hlt : i < n2
    · have hi' : (i : Int) < (n2 : Int) := by omega
      have hi0 : (0 : Int) ≤ (i : Int) := by omega
      have hsl : i < raw.length := by have := HN2.out; omega
      obtain ⟨l, hle⟩ : ∃ l, l = raw[i] := ⟨_, rfl⟩
      have hli : raw[i]? = some l := by rw [hle]; exact List.getElem?_eq_getElem hsl
      obtain ⟨b, o, A', n', c', rfl, hc0, hrl⟩ := st_at H20.out hli
      obtain ⟨hn', -, -⟩ := frs_len hrl
      have HN' := Lib.hid hn'
      have HTJ : Hid (raw.take (i + 1) = raw.take i ++ [l]) := Lib.hid (by rw [List.take_add_one, hli]; rfl)
      clear hle hli hrl hn'
      by_cases hbig : 20 < n'
      · have hbI : decide ((20 : Int) < (n' : Int)) = true := by simp; omega
        go_wp2_with fail
        go_ret
        exact ⟨rfl, HBw.out⟩
      · have hbI : decide ((20 : Int) < (n' : Int)) = false := by simp; omega
        go_wp2_with fail
        go_roundg (n2 - (i + 1))
        case measure => have := HQ.out; omega
        case rel =>
          refine ⟨i + 1, by simp, by omega, rfl, fun l' hl' => ?_, rfl⟩
          rw [HTJ.out, List.mem_append, List.mem_singleton] at hl'
          rcases hl' with hl' | rfl
          · exact HS20.out l' hl'
          · have := HN'.out; omega
    · have hd : decide ((i : Int) < (n2 : Int)) = false := by simp; omega
      have hraw : ∀ l ∈ raw, l.length ≤ 20 := by
        have h := HS20.out
        rwa [List.take_of_length_le (by have := HN2.out; omega)] at h
      have HRAW := Lib.hid hraw
      clear hraw HS20
      go_upto_region 10 with (first
        | (go_at_call 8; (with_reducible refine (new_any A0 n0 c0 w).mono ?_); rintro e w1 ⟨rfl, rfl⟩; have HT1 := Lib.hid (tape_new H0.out); have HB1 := Lib.hid (bel_alloc (Below.refl w.heap.size w) (.cells #[.slice A0 n0 c0, .int .i64 0] 82 (0, 0))))
        | (go_at_call 9; (with_reducible refine (codesZ_any 10 10 rfl (by omega) _ _ 0 (by omega) _ HT1.out).mono ?_); rintro e w2 ⟨Al, cl, l, rfl, x1, x2, ⟨k2, x3, x4⟩, x5, x6⟩; have HLN := Lib.hid x1; have HLG := Lib.hid x2; have HT2 := Lib.hid x3; have HL0 := Lib.hid x5; have HB2 : Hid (Below w.heap.size w w2) := Lib.hid ((Kp.of_below HB1.out (fun _ => False)).trans x6 (fun b hb e => by omega)).below; clear x1 x2 x3 x5 x6)
        | (go_at_call 10; (with_reducible refine (stacks_any _ _ k2 (by omega) _ HT2.out).mono ?_); rintro e w3 ⟨As, cs, s, rfl, y1, y2, y3, y5, y6⟩; have HSN := Lib.hid y1; have HSG := Lib.hid y2; have HS0 := Lib.hid y5; have HL1 := Lib.hid ((HL0.out.mono (ok' := fun b => w.heap.size < b) (fun b hb _ => by simp at hb; omega)).kp y6 (fun b hb e => by omega)); have HB3 : Hid (Below w.heap.size w w3) := Lib.hid ((Kp.of_below HB2.out (fun _ => False)).trans y6 (fun b hb e => by omega)).below; clear y1 y2 y3 y5 y6))
      have hkw : ∀ b, b < w3.heap.size ↔ (fun b => b < w3.heap.size) b := fun b => Iff.rfl
      obtain ⟨ok, hok⟩ : ∃ ok : Nat → Prop, ok = fun b => b < w3.heap.size := ⟨_, rfl⟩
      have hs : Rd w3 ok (.slice As s.length cs) (.sl 25 1 (s.map frsTr)) := HS0.out.mono fun b _ h => by rw [hok]; exact h
      have hr : Rd w3 ok (.slice A2a n2 c2a) (.sl 25 1 (raw.map frsTr)) := (H20.out.bl HB3.out).mono fun b _ h => by rw [hok]; exact h
      have HSO := Lib.hid hs
      have HRO := Lib.hid hr
      have HOK : Hid (∀ b, ok b → b < w3.heap.size) := Lib.hid (fun b h => by rw [hok] at h; exact h)
      have hsn : s.length ≤ 3 := HSN.out
      clear hs hr hok hkw
      go_upto_region 11 with (first
        | (at_builtin; refine wpList_append_rd _ rfl (.tmp 56) (.tmp 57) 23 rfl w3.heap.size 25 i1 _ 1 24 Try.underlying23 hi1 hy0 hy1 hy2 rfl (by omega) ok (.slice (some ⟨w3.heap.size, 0, none⟩) 0 0) 0 [] rfl (Own.empty _ _ _ _ _ (Nat.le_refl _) (blk_at _ _ rfl)) As s.length cs (s.map frsTr) rfl (HSO.out.alloc _) (stTr_one _) (fun b hb h => by simp [Value.ownBlock] at hb; have := HOK.out _ h; omega) (by simp only [maxLen]; omega) (by omega) (by simp) _ rfl ?_; intro Ab1 cb1 v1 own1 gr1 hat1; rw [Nat.zero_add, List.nil_append] at own1; have HV1 : Hid (Below w3.heap.size w3 v1) := Lib.hid (bel_grown (bel_alloc (Below.refl _ _) _) gr1 (fun j hj => by cases hj; exact Nat.le_refl _)))
        | (at_builtin; refine wpList_append_rd _ rfl (.tmp 58) (.tmp 59) 23 rfl w3.heap.size 25 i1 _ 1 24 Try.underlying23 hi1 hy0 hy1 hy2 rfl (by omega) ok (.slice Ab1 s.length cb1) s.length (s.map frsTr) rfl own1 A2a n2 c2a (raw.map frsTr) rfl (HRO.out.bl HV1.out) (stTr_one _) (fun b hb h => by have := (own1.lt b hb).1; have := HOK.out _ h; omega) (by simp only [maxLen]; omega) (by omega) HV1.out.size _ rfl ?_; intro Ab nb v2 own2 gr2 hat2; have HV2 : Hid (Below w3.heap.size w3 v2) := Lib.hid (bel_grown HV1.out gr2 (fun j hj => (own1.lt j hj).1))))
      have hbu := below_call HB3.out HV2.out
      have hso := HS0.out.bl HV2.out
      have hlo := HL1.out.bl HV2.out
      have hbo : Rd v2 (fun _ => True) (.slice Ab (s.length + n2) nb) (stTr (s ++ raw)) := by
        have h := own2.rd (ok' := fun _ => True) (fun _ _ _ => trivial) (fun _ _ => trivial)
        unfold stTr
        rwa [List.map_append]
      have h3u := H30.out.bl hbu
      have h4u := H40.out.bl hbu
      have h5u := H50.out.bl hbu
      have HU := Lib.hid hbu
      have HSU := Lib.hid hso
      have HLU := Lib.hid hlo
      have HBOU := Lib.hid hbo
      have H3U := Lib.hid h3u
      have H4U := Lib.hid h4u
      have H5U := Lib.hid h5u
      have hsw := good_wf HSG.out
      have hsl := flatten_le s 4 (fun l hl => (HSG.out l hl).1)
      have hrl := flatten_le raw 20 HRAW.out
      have HFL : Hid (s.flatten.length ≤ 500000) := Lib.hid (by omega)
      have HFL2 : Hid ((s ++ raw).flatten.length ≤ 500000) := Lib.hid (by rw [List.flatten_append, List.length_append]; have := HN2.out; omega)
      have hbw : ∀ l ∈ s ++ raw, ∀ f ∈ l, (Lit.int .i64 f.code).wf = true ∧ (Lit.int .i64 f.world).wf = true := fun l hl => (List.mem_append.1 hl).elim (hsw l) (HW2.out l)
      have HFW : Hid (∀ l ∈ s, ∀ f ∈ l, (Lit.int .i64 f.world).wf = true) := Lib.hid (fun l hl f hf => (hsw l hl f hf).2)
      have HFC : Hid (∀ l ∈ s, ∀ f ∈ l, (Lit.int .i64 f.code).wf = true) := Lib.hid (fun l hl f hf => (hsw l hl f hf).1)
      have HFW2 : Hid (∀ l ∈ s ++ raw, ∀ f ∈ l, (Lit.int .i64 f.world).wf = true) := Lib.hid (fun l hl f hf => (hbw l hl f hf).2)
      have HFC2 : Hid (∀ l ∈ s ++ raw, ∀ f ∈ l, (Lit.int .i64 f.code).wf = true) := Lib.hid (fun l hl f hf => (hbw l hl f hf).1)
      have HPW : Hid (∀ x, (x = 9 ∨ ∃ f ∈ s.flatten, f.world = x) → (Lit.int .i64 x).wf = true) := Lib.hid (by
        rintro x (rfl | ⟨f, hf, rfl⟩)
        · decide
        · obtain ⟨l, hl, hfl⟩ := List.mem_flatten.1 hf
          exact (hsw l hl f hfl).2)
      have HPA : Hid (∀ x, (∃ f ∈ s.flatten, 0 < f.code ∧ f.code = x) → (Lit.int .i64 x).wf = true) := Lib.hid (by
        rintro x ⟨f, hf, _, rfl⟩
        obtain ⟨l, hl, hfl⟩ := List.mem_flatten.1 hf
        exact (hsw l hl f hfl).1)
      have HP8 : Hid (∀ x, (x = newest ∨ ∃ f ∈ (s ++ raw).flatten, f.world = x) → (Lit.int .i64 x).wf = true) := Lib.hid (by
        rintro x (rfl | ⟨f, hf, rfl⟩)
        · exact hnw
        · obtain ⟨l, hl, hfl⟩ := List.mem_flatten.1 hf
          exact (hbw l hl f hfl).2)
      have HP11 : Hid (∀ x, (∃ f ∈ (s ++ raw).flatten, 0 < f.code ∧ f.code = x) → (Lit.int .i64 x).wf = true) := Lib.hid (by
        rintro x ⟨f, hf, _, rfl⟩
        obtain ⟨l, hl, hfl⟩ := List.mem_flatten.1 hf
        exact (hbw l hl f hfl).1)
      have hlw := goodc_wf HLG.out (by have := HLN.out; omega)
      have HLW := Lib.hid hlw
      have HLL : Hid (l.length ≤ 100000) := Lib.hid (by have := HLN.out; omega)
      have HL3 : Hid (all.length ≤ 100000) := Lib.hid (by have := HN3.out; omega)
      have HL4 : Hid (active.length ≤ 100000) := Lib.hid (by have := HN4.out; omega)
      have HP14 : Hid (∀ a b x, FreeIds l a b x → (Lit.int .i64 x).wf = true) := Lib.hid (by
        rintro a b x ⟨y, hy, _, rfl⟩
        exact hlw y hy)
      have HP17 : Hid (∀ a b x, FreeIds all a b x → (Lit.int .i64 x).wf = true) := Lib.hid (by
        rintro a b x ⟨y, hy, _, rfl⟩
        exact HW3.out y hy)
      clear hbu hso hlo hbo h3u h4u h5u hsw hsl hrl hbw hlw own1 own2 gr1 gr2 hat1 hat2 HSO HRO
      go_upto_region 12 with (first
        | (go_at_call 11; with_reducible refine (liveRef_any 9 s v2 _ As s.length cs HFL.out HSU.out).mono ?_; rintro e x1 ⟨Aw, cw, Zw, rfl, h0, h2, h4, h5⟩; have HZW0 := Lib.hid h2; have HRW0 := Lib.hid h4; have HX1 := Lib.hid h5; clear h0 h2 h4 h5)
        | (go_at_call 12; with_reducible refine (activeRef_any s x1 _ As s.length cs HFL.out (HSU.out.bl HX1.out)).mono ?_; rintro e V ⟨Aa, ca, Za, rfl, h0, h2, h4, h5⟩; have HZA := Lib.hid h2; have HRA := Lib.hid h4; have HX2 := Lib.hid h5; have HLA0 := Lib.hid h0; clear h0 h2 h4 h5))
      have HZW := Lib.hid HZW0.out
      have HRW := Lib.hid (HRW0.out.bl HX2.out)
      have hxv := below_call HX1.out HX2.out
      have HS := Lib.hid (HSU.out.bl hxv)
      have HL := Lib.hid (HLU.out.bl hxv)
      have HBO := Lib.hid (HBOU.out.bl hxv)
      have H3 := Lib.hid (H3U.out.bl hxv)
      have H4 := Lib.hid (H4U.out.bl hxv)
      have H5 := Lib.hid (H5U.out.bl hxv)
      have HBV := Lib.hid (below_call HU.out hxv)
      have HZWW := Lib.hid (lists_wf HZW.out HPW.out)
      have HZAW := Lib.hid (lists_wf HZA.out HPA.out)
      have HLA : Hid (Za.length ≤ 100000) := Lib.hid (by have h1 := HLA0.out; have h2 := flatten_le s 4 (fun l hl => (HSG.out l hl).1); omega)
      clear hxv HZW0 HRW0 HSU HLU HBOU H3U H4U H5U HX1 HX2 HU
      go_wp2_with (first
        | (go_at_call 14; with_reducible refine (liveWorlds_any 9 s V _ As s.length cs (by decide) HFW.out HFL.out HS.out).mono ?_; rintro e w3 ⟨A3, c3, Z3, rfl, h1, h2, h3, h4, h5⟩; obtain rfl := sorted_eq h1 h2 h3 HZW.out HZWW.out; have HB3 : Hid (Below V.heap.size V w3) := Lib.hid (below_call (Below.refl _ _) h5); have HR3 := Lib.hid h4; clear h1 h2 h3 h4 h5)
        | (go_at_call 13; with_reducible refine (equalInts_any Z3 Z3 _ _ _ A3 Aw _ _ c3 cw HR3.out (HRW.out.bl HB3.out)).mono ?_; rintro e w4 ⟨rfl, h5⟩; have HB4 : Hid (Below V.heap.size V w4) := Lib.hid (below_call (HB3.out) h5); clear h5)
        | (go_at_call 15; with_reducible refine (activeCodes_any s w4 _ As s.length cs HFC.out HFL.out (HS.out.bl HB4.out)).mono ?_; rintro e w5 ⟨A5, c5, Z5, rfl, h1, h2, h3, h4, h5⟩; obtain rfl := sorted_eq h1 h2 h3 HZA.out HZAW.out; have HB5 : Hid (Below V.heap.size V w5) := Lib.hid (below_call (HB4.out) h5); have HR5 := Lib.hid h4; clear h1 h2 h3 h4 h5)
        | (go_at_call 13; with_reducible refine (equalInts_any Z5 Z5 _ _ _ A5 Aa _ _ c5 ca HR5.out (HRA.out.bl HB5.out)).mono ?_; rintro e w6 ⟨rfl, h5⟩; have HB6 : Hid (Below V.heap.size V w6) := Lib.hid (below_call (HB5.out) h5); clear h5)
        | (go_at_call 14; with_reducible refine (liveWorlds_any newest (s ++ raw) w6 _ Ab (s.length + n2) nb hnw HFW2.out HFL2.out (HBO.out.bl HB6.out)).mono ?_; rintro e w7 ⟨A7, c7, Z7, rfl, h1, h2, h3, h4, h5⟩; have HB7 : Hid (Below V.heap.size V w7) := Lib.hid (below_call (HB6.out) h5); have HW7 := Lib.hid h1; have HU7 := Lib.hid h2; have HZ7 := Lib.hid h3; have HR7 := Lib.hid h4; clear h1 h2 h3 h4 h5)
        | (go_at_call 11; with_reducible refine (liveRef_any newest (s ++ raw) w7 _ Ab (s.length + n2) nb HFL2.out (HBO.out.bl HB7.out)).mono ?_; rintro e w8 ⟨A8, c8, Z8, rfl, h9, h2, h4, h5⟩; obtain rfl := sorted_eq HW7.out HU7.out HZ7.out h2 (lists_wf h2 HP8.out); have HB8 : Hid (Below V.heap.size V w8) := Lib.hid (below_call (HB7.out) h5); have HR8 := Lib.hid h4; have HR7b := Lib.hid (HR7.out.bl h5); clear h2 h4 h5)
        | (go_at_call 13; with_reducible refine (equalInts_any Z7 Z7 _ _ _ A7 A8 _ _ c7 c8 HR7b.out HR8.out).mono ?_; rintro e w9 ⟨rfl, h5⟩; have HB9 : Hid (Below V.heap.size V w9) := Lib.hid (below_call (HB8.out) h5); clear h5)
        | (go_at_call 15; with_reducible refine (activeCodes_any (s ++ raw) w9 _ Ab (s.length + n2) nb HFC2.out HFL2.out (HBO.out.bl HB9.out)).mono ?_; rintro e w10 ⟨A10, c10, Z10, rfl, h1, h2, h3, h4, h5⟩; have HB10 : Hid (Below V.heap.size V w10) := Lib.hid (below_call (HB9.out) h5); have HW10 := Lib.hid h1; have HU10 := Lib.hid h2; have HZ10 := Lib.hid h3; have HR10 := Lib.hid h4; clear h1 h2 h3 h4 h5)
        | (go_at_call 12; with_reducible refine (activeRef_any (s ++ raw) w10 _ Ab (s.length + n2) nb HFL2.out (HBO.out.bl HB10.out)).mono ?_; rintro e w11 ⟨A11, c11, Z11, rfl, h9, h2, h4, h5⟩; obtain rfl := sorted_eq HW10.out HU10.out HZ10.out h2 (lists_wf h2 HP11.out); have HB11 : Hid (Below V.heap.size V w11) := Lib.hid (below_call (HB10.out) h5); have HR11 := Lib.hid h4; have HR10b := Lib.hid (HR10.out.bl h5); clear h2 h4 h5)
        | (go_at_call 13; with_reducible refine (equalInts_any Z10 Z10 _ _ _ A10 A11 _ _ c10 c11 HR10b.out HR11.out).mono ?_; rintro e w12 ⟨rfl, h5⟩; have HB12 : Hid (Below V.heap.size V w12) := Lib.hid (below_call (HB11.out) h5); clear h5)
        | (go_at_call 16; with_reducible refine (unreach_any l Z5 Z3 w12 _ _ _ Al Aa Aw _ cl _ ca _ cw (HL.out.bl HB12.out) (HRA.out.bl HB12.out) (HRW.out.bl HB12.out) HZAW.out HLW.out HLL.out HLA.out).mono ?_; rintro e w13 ⟨A13, c13, Z13, rfl, h1, h2, h3, h4, h5⟩; have HB13 : Hid (Below V.heap.size V w13) := Lib.hid (below_call (HB12.out) h5); have HW13 := Lib.hid h1; have HU13 := Lib.hid h2; have HZ13 := Lib.hid h3; have HR13 := Lib.hid h4; clear h1 h2 h3 h4 h5)
        | (go_at_call 17; with_reducible refine (unreachRef_any l Z5 Z3 w13 _ _ _ Al Aa Aw _ cl _ ca _ cw (HL.out.bl HB13.out) (HRA.out.bl HB13.out) (HRW.out.bl HB13.out) HLL.out).mono ?_; rintro e w14 ⟨A14, c14, Z14, rfl, h2, h4, h5⟩; obtain rfl := sorted_eq HW13.out HU13.out HZ13.out h2 (lists_wf h2 (HP14.out _ _)); have HB14 : Hid (Below V.heap.size V w14) := Lib.hid (below_call (HB13.out) h5); have HR14 := Lib.hid h4; have HR13b := Lib.hid (HR13.out.bl h5); clear h2 h4 h5)
        | (go_at_call 13; with_reducible refine (equalInts_any Z13 Z13 _ _ _ A13 A14 _ _ c13 c14 HR13b.out HR14.out).mono ?_; rintro e w15 ⟨rfl, h5⟩; have HB15 : Hid (Below V.heap.size V w15) := Lib.hid (below_call (HB14.out) h5); clear h5)
        | (go_at_call 16; with_reducible refine (unreach_any all active worlds w15 _ _ _ A3a A4a A5a n3 c3a n4 c4a n5 c5a (H3.out.bl HB15.out) (H4.out.bl HB15.out) (H5.out.bl HB15.out) HW4.out HW3.out HL3.out HL4.out).mono ?_; rintro e w16 ⟨A16, c16, Z16, rfl, h1, h2, h3, h4, h5⟩; have HB16 : Hid (Below V.heap.size V w16) := Lib.hid (below_call (HB15.out) h5); have HW16 := Lib.hid h1; have HU16 := Lib.hid h2; have HZ16 := Lib.hid h3; have HR16 := Lib.hid h4; clear h1 h2 h3 h4 h5)
        | (go_at_call 17; with_reducible refine (unreachRef_any all active worlds w16 _ _ _ A3a A4a A5a n3 c3a n4 c4a n5 c5a (H3.out.bl HB16.out) (H4.out.bl HB16.out) (H5.out.bl HB16.out) HL3.out).mono ?_; rintro e w17 ⟨A17, c17, Z17, rfl, h2, h4, h5⟩; obtain rfl := sorted_eq HW16.out HU16.out HZ16.out h2 (lists_wf h2 (HP17.out _ _)); have HB17 : Hid (Below V.heap.size V w17) := Lib.hid (below_call (HB16.out) h5); have HR17 := Lib.hid h4; have HR16b := Lib.hid (HR16.out.bl h5); clear h2 h4 h5)
        | (go_at_call 13; with_reducible refine (equalInts_any Z16 Z16 _ _ _ A16 A17 _ _ c16 c17 HR16b.out HR17.out).mono ?_; rintro e w18 ⟨rfl, h5⟩; have HB18 : Hid (Below V.heap.size V w18) := Lib.hid (below_call (HB17.out) h5); clear h5)
        | (go_at_call 18; with_reducible refine (sane37_any w18).mono ?_; rintro e w19 ⟨rfl, h5⟩; have HB19 : Hid (Below V.heap.size V w19) := Lib.hid (below_call (HB18.out) h5); clear h5))
      go_ret
      exact ⟨rfl, below_call HBV.out HB19.out⟩
end Go.Proofs.Ytadpfhoenjodeaa
