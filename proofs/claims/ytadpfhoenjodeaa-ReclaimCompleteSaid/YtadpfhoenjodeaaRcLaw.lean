/- tellaw37.ReclaimComplete, the walk. -/
import Derived.Test.YtadpfhoenjodeaaStk3
import Derived.Test.YtadpfhoenjodeaaRtLaw
set_option linter.unusedVariables false
set_option linter.unusedSimpArgs false
namespace Go.Proofs.Ytadpfhoenjodeaa
open Go.RowKit Go.Maps

def mkD (c wd : Int) : DF := ⟨c, 0, wd, 0, []⟩
def GoodD (f : DF) : Prop := ∃ c wd, f = mkD c wd ∧ 0 ≤ c ∧ c ≤ 12 ∧ 1 ≤ wd ∧ wd ≤ 9
theorem pushN_any (w : World) (g : Nat) (l : List DF) (h : SK w g l) (c wd : Int) (hl : l.length ≤ 48) (h1 : 0 ≤ c) (h2 : 1 ≤ wd) :
    Calls Try.prog 21 #[.pointer (some ⟨g, 0, none⟩), .agg #[.int .i64 c, .int .i64 0, .int .i64 wd, .int .i64 0, .slice none 0 0]] w fun e w' => e = .returned (.int .i64 0) ∧ SK w' g (l ++ [mkD c wd]) ∧ Kp w w' (skS w g) ∧ ∀ b, b < w.heap.size → ¬ skS w g b → ¬ skS w' g b := by
  refine (push_any w g l h (mkD c wd) (by simp [mkD, vlsC]) (by omega) (fun _ => False) none 0 (.nil _ _)).mono ?_
  rintro e w7 ⟨rfl, hsk, hkp, h3⟩
  have hok : (mkD c wd).ok = true := by simp [DF.ok, mkD, h1, h2]
  have hpc : pushCode l (mkD c wd) = 0 := by rw [pushCode, hok, if_pos rfl, if_pos hl]
  have hpu : pushed l (mkD c wd) = l ++ [mkD c wd] := by rw [pushed, hok]; simp [hl]
  rw [hpu] at hsk
  rw [hpc]
  exact ⟨rfl, hsk, hkp, h3⟩
theorem GoodD.ok {c wd : Int} (h1 : 0 ≤ c) (h2 : 1 ≤ wd) : (mkD c wd).ok = true := by simp [DF.ok, mkD, h1, h2]
theorem Own.lit {w : World} {ok : Nat → Prop} {base t sz n g : Nat} (cs : List Value) (hl : cs.length = n * sz) (hn : n ≤ maxLen) (hg : base ≤ g) (hb : w.heap[g]? = some (.cells cs.toArray t (0, 0))) (hfl : ∀ v ∈ cs, v.oneCell' = true) : Own w ok base t sz (.slice (some ⟨g, 0, none⟩) n n) n (cs.map .sc) := by
  refine ⟨cs, ⟨hl, .inr ⟨g, n, cs.toArray, rfl, hg, hb, Nat.le_refl _, hn, by simp [hl], List.take_of_length_le (by rw [hl]; exact Nat.le_refl _)⟩⟩, by simp, fun j u e hu he => ?_⟩
  rw [List.getElem?_map, hu] at he
  simp at he
  subst he
  exact .sc _
theorem up_len : ∀ {Z : List Int} {a b : Int}, Up Z → (∀ x ∈ Z, a ≤ x ∧ x < b) → (Z.length : Int) ≤ max 0 (b - a)
  | [], a, b, _, _ => by simp; omega
  | x :: Z, a, b, hu, h => by
    unfold Up at hu
    rw [List.pairwise_cons] at hu
    have h1 := up_len (a := x + 1) (b := b) hu.2 (fun y hy => ⟨by have := hu.1 y hy; omega, (h y (by simp [hy])).2⟩)
    have h2 := h x (by simp)
    simp only [List.length_cons]
    omega
theorem len_up {Z : List Int} {fs : List DF} (hu : Up Z) (h : ∀ x ∈ Z, ∃ f ∈ fs, DF.world f = x) (hf : ∀ f ∈ fs, GoodD f) : Z.length ≤ 100000 := by
  have hb : ∀ x ∈ Z, 0 ≤ x ∧ x < 100 := fun x hx => by
    obtain ⟨f, hf', rfl⟩ := h x hx
    obtain ⟨c, wd, rfl, h1, h2, h3, h4⟩ := hf f hf'
    show 0 ≤ wd ∧ wd < 100
    omega
  have := up_len hu hb
  omega
theorem len_upc {Z : List Int} {fs : List DF} (hu : Up Z) (h : ∀ x ∈ Z, ∃ f ∈ fs, 0 < DF.code f ∧ f.code = x) (hf : ∀ f ∈ fs, GoodD f) : Z.length ≤ 100000 := by
  have hb : ∀ x ∈ Z, 0 ≤ x ∧ x < 100 := fun x hx => by
    obtain ⟨f, hf', _, rfl⟩ := h x hx
    obtain ⟨c, wd, rfl, h1, h2, h3, h4⟩ := hf f hf'
    show 0 ≤ c ∧ c < 100
    omega
  have := up_len hu hb
  omega
/-- How far the reclaimed list is read. -/
def AtI (Z : List Int) (a i : Nat) : Prop := a ≤ Z.length ∧ (∀ x ∈ Z.take a, x ≤ (i : Int)) ∧ ∀ x ∈ Z.drop a, (i : Int) < x
theorem AtI.mem {Z : List Int} {a i : Nat} (h : AtI Z a i) (hu : Up Z) : ((i : Int) + 1 ∈ Z) ↔ Z[a]? = some ((i : Int) + 1) := by
  obtain ⟨h1, h2, h3⟩ := h
  constructor
  · intro hm
    rw [← List.take_append_drop a Z, List.mem_append] at hm
    rcases hm with hm | hm
    · have := h2 _ hm; omega
    · rcases Nat.lt_or_ge a Z.length with hlt | hge
      · rw [List.drop_eq_getElem_cons hlt, List.mem_cons] at hm
        rcases hm with hm | hm
        · rw [List.getElem?_eq_getElem hlt, hm]
        · have h4 := h3 Z[a] (by rw [List.drop_eq_getElem_cons hlt]; exact List.mem_cons_self)
          unfold Up at hu
          rw [← List.take_append_drop a Z, List.pairwise_append, List.drop_eq_getElem_cons hlt, List.pairwise_cons] at hu
          have := hu.2.1.1 _ hm
          omega
      · rw [List.drop_of_length_le hge] at hm
        cases hm
  · intro h
    exact List.mem_of_getElem? h
theorem AtI.step {Z : List Int} {a i : Nat} (h : AtI Z a i) (hu : Up Z) (hz : Z[a]? = some ((i : Int) + 1)) : AtI Z (a + 1) (i + 1) := by
  obtain ⟨h1, h2, h3⟩ := h
  obtain ⟨hlt, hza⟩ := List.getElem?_eq_some_iff.1 hz
  refine ⟨hlt, fun x hx => ?_, fun x hx => ?_⟩
  · rw [List.take_add_one, hz] at hx
    simp at hx
    rcases hx with hx | rfl
    · have := h2 x hx; simp; omega
    · simp
  · unfold Up at hu
    rw [← List.take_append_drop a Z, List.pairwise_append, List.drop_eq_getElem_cons hlt, List.pairwise_cons] at hu
    have := hu.2.1.1 x hx
    rw [hza] at this
    simp
    omega
theorem AtI.skip {Z : List Int} {a i : Nat} (h : AtI Z a i) (hn : (i : Int) + 1 ∉ Z) : AtI Z a (i + 1) := by
  obtain ⟨h1, h2, h3⟩ := h
  refine ⟨h1, fun x hx => by have := h2 x hx; simp; omega, fun x hx => ?_⟩
  have h4 := h3 x hx
  have h5 : x ≠ (i : Int) + 1 := fun e => hn (e ▸ List.mem_of_mem_drop hx)
  simp
  omega
theorem meas3 {q n j : Nat} (h : q = n - j) (hl : j < n) : n - (j + 1) < q := by omega
def SameI (a b : Int) : Prop := a = b
/-- Which codes the law wants reclaimed. -/
def Want (fs : List DF) (x : Cc) : Prop := x.til ≠ 0 ∧ ∀ f ∈ fs, f.code ≠ x.id ∧ ¬ (x.frm ≤ f.world ∧ f.world < x.til)
theorem want_snoc (fs : List DF) (f : DF) (x : Cc) : Want (fs ++ [f]) x ↔ Want fs x ∧ f.code ≠ x.id ∧ ¬ (x.frm ≤ f.world ∧ f.world < x.til) := by
  unfold Want
  simp only [List.mem_append, List.mem_singleton]
  constructor
  · rintro ⟨h1, h2⟩
    exact ⟨⟨h1, fun g hg => h2 g (.inl hg)⟩, h2 f (.inr rfl)⟩
  · rintro ⟨⟨h1, h2⟩, h3⟩
    refine ⟨h1, fun g hg => ?_⟩
    rcases hg with hg | rfl
    · exact h2 g hg
    · exact h3
theorem want_free {l : List Cc} {fs : List DF} {Zc Zw : List Int} (hl : GoodCs l) (hc : ∀ x, x ∈ Zc ↔ ∃ f ∈ fs, 0 < DF.code f ∧ f.code = x) (hw : ∀ x, x ∈ Zw ↔ ∃ f ∈ fs, DF.world f = x) {j : Nat} {x : Cc} (hx : l[j]? = some x) :
    FreeIds l Zc ([12] ++ Zw) ((j : Int) + 1) ↔ Want fs x := by
  have hg := hl j x hx
  have hid : ∀ (i : Nat) (y : Cc), l[i]? = some y → y.id = (i : Int) + 1 ∧ (y.til = 0 ∨ y.til ≤ 10) := fun i y hy => by
    obtain ⟨m, f, t, rfl, h1, h2, h3, h4, h5⟩ := hl i y hy
    exact ⟨rfl, by show t = 0 ∨ t ≤ 10; omega⟩
  have key : Free Zc ([12] ++ Zw) x ↔ Want fs x := by
    unfold Free Want
    obtain ⟨h1, h2⟩ := hid j x hx
    constructor
    · rintro ⟨a1, a2, a3⟩
      refine ⟨a1, fun f hf => ⟨fun e => a2 ((hc _).2 ⟨f, hf, by omega, e⟩), ?_⟩⟩
      have := a3 f.world (by simp only [List.mem_append]; exact .inr ((hw _).2 ⟨f, hf, rfl⟩))
      omega
    · rintro ⟨a1, a2⟩
      refine ⟨a1, fun e => ?_, fun y hy => ?_⟩
      · obtain ⟨f, hf, _, e2⟩ := (hc _).1 e
        exact (a2 f hf).1 e2
      · simp only [List.mem_append, List.mem_singleton] at hy
        rcases hy with rfl | hy
        · omega
        · obtain ⟨f, hf, rfl⟩ := (hw _).1 hy
          have := (a2 f hf).2
          omega
  rw [← key]
  constructor
  · rintro ⟨y, hy, h, e⟩
    obtain ⟨i, hi, rfl⟩ := List.getElem_of_mem hy
    have h1 := (hid i _ (List.getElem?_eq_getElem hi)).1
    have : i = j := by omega
    subst this
    rw [List.getElem?_eq_getElem hi] at hx
    injection hx with hx
    rw [← hx]
    exact h
  · intro h
    exact ⟨x, List.mem_of_getElem? hx, h, (hid j x hx).1⟩

set_option maxRecDepth 100000 in
set_option maxHeartbeats 16000000 in
theorem rcWalk (tl : List Int) (w : World) (A0 : Option Addr) (n0 c0 : Nat) (h0 : Rd w (fun _ => True) (.slice A0 n0 c0) (intsTr tl)) :
    Calls Try.prog 5 #[.slice A0 n0 c0] w fun e w' => e = .returned (.bool true) ∧ Below w.heap.size w w' := by
  obtain ⟨i0, hi, hz0, hz1, hz2⟩ := info_parts int_info
  have H0 := Lib.hid h0
  clear h0
  go_enter Try.func5, Try.ntmps5
  go_wp2_with (first
    | (go_at_call 8; (with_reducible refine (new_any A0 n0 c0 w).mono ?_); rintro e w1 ⟨rfl, rfl⟩; have HT1 := Lib.hid (tape_new H0.out); have HB1 := Lib.hid (bel_alloc (Below.refl w.heap.size w) (.cells #[.slice A0 n0 c0, .int .i64 0] 82 (0, 0))))
    | (go_at_call 9; (with_reducible refine (codesZ_any 12 12 rfl (by omega) _ _ 0 (by omega) _ HT1.out).mono ?_); rintro e w2 ⟨Al, cl, l, rfl, x1, x2, ⟨k2, x3, x4⟩, x5, x6⟩; have HLN := Lib.hid x1; have HLG := Lib.hid x2; have HT2 := Lib.hid x3; have HL0 := Lib.hid x5; have HB2 : Hid (Below w.heap.size w w2) := Lib.hid ((Kp.of_below HB1.out (fun _ => False)).trans x6 (fun b hb e => by omega)).below; clear x1 x2 x3 x5 x6)
    | (go_at_call 20; (with_reducible refine (newStk_any _).mono ?_); rintro e w3 ⟨rfl, hw3⟩; have HSK3 : Hid (SK w3 w2.heap.size []) := Lib.hid (by rw [hw3]; exact SK.new w2); have hx3 : Below w2.heap.size w2 w3 := (by rw [hw3]; exact bel_alloc (Below.refl _ _) _); have HL3 := Lib.hid ((HL0.out.mono (ok' := fun b => w.heap.size < b ∧ b < w2.heap.size) (fun b hb hlt => by simp at hb; omega)).bl hx3); have HT3 := Lib.hid (HT2.out.bl hx3); have HB3 := Lib.hid (below_call HB2.out hx3); have hg2 := HT2.out.lt; clear hx3 hw3)
    | (go_at_call 26; (with_reducible refine (tn_any 8 (by omega) (by omega) (by omega) HT3.out).mono ?_); rintro e w4 ⟨r, rfl, hr, ht4, hkp4⟩; obtain ⟨m0, rfl⟩ : ∃ m0 : Nat, r = (m0 : Int) := ⟨r.toNat, by omega⟩; have HR0 := Lib.hid hr; have HT4 := Lib.hid ht4; have HL4 := Lib.hid (HL3.out.kp hkp4 (fun b hb e => by omega)); have HSK4 := Lib.hid (HSK3.out.kp hkp4 (fun b hb _ e => by omega)); have HB4 : Hid (Below w.heap.size w w4) := Lib.hid ((Kp.of_below HB3.out (fun _ => False)).trans hkp4 (fun b hb e => by omega)).below; clear hr ht4 hkp4))
  obtain ⟨g, hgE⟩ : ∃ g, g = w2.heap.size := ⟨_, rfl⟩
  rw [← hgE] at hg2
  have HSK5 : Hid (SK w4 g []) := Lib.hid (by rw [hgE]; exact HSK4.out)
  have HL5 : Hid (Rd w4 (fun b => w.heap.size < b ∧ b < g) (.slice Al l.length cl) (ccsTr l)) := Lib.hid (by rw [hgE]; exact HL4.out)
  rw [← hgE]
  clear HSK4 HL4 HSK3 HL3 HL0 hgE HT3 HT2 HT1 HB1 HB2 HB3
  go_loopg [6] m0 (fun q iv wr => ∃ (m : Nat) (fs : List DF) (k : Nat), iv = .int .i64 (m : Int) ∧ Hid (q = m ∧ fs.length + m ≤ 7 ∧ (∀ f ∈ fs, GoodD f) ∧ TpK wr w.heap.size w.heap.size k ∧ k ≤ 100 + 2 * fs.length ∧ Rd wr (fun b => w.heap.size < b ∧ b < g) (.slice Al l.length cl) (ccsTr l) ∧ SK wr g fs ∧ Below w.heap.size w wr))
  case atStart => exact ⟨m0, [], k2 + 1, rfl, rfl, by have := HR0.out; simp; omega, by simp, HT4.out, by simp; omega, HL5.out, HSK5.out, HB4.out⟩
  case round =>
    clear HSK5 HL5 HT4 HB4 HR0
    obtain ⟨m, fs, k, rfl, HH⟩ := hrel
    obtain ⟨q1, q2, q3, q4, q5, q6, q7, q8⟩ := HH.out
    have HQ := Lib.hid q1
    have HFS := Lib.hid q3
    have HT := Lib.hid q4
    have HL := Lib.hid q6
    have HSK := Lib.hid q7
    have HBR := Lib.hid q8
    clear HH q1 q3 q4 q6 q7 q8
    by_cases hm : 0 < m
    · have hmI : (0 : Int) < (m : Int) := by omega
      have hw1 : wrap64 ((m : Int) - 1) = (m : Int) - 1 := by unfold wrap64; omega
      go_wp2_with (first
        | (go_at_call 26; (with_reducible refine (tn_any 13 (by omega) (by omega) (by omega) HT.out).mono ?_); rintro e w5 ⟨z1, rfl, hr, ht, hkp⟩; have HZ1 := Lib.hid hr; have HT5 := Lib.hid ht; have HL5 := Lib.hid (HL.out.kp hkp (fun b hb e => by omega)); have HSK5 := Lib.hid (HSK.out.kp hkp (fun b hb _ e => by omega)); have HB5 : Hid (Below w.heap.size w w5) := Lib.hid ((Kp.of_below HBR.out (fun _ => False)).trans hkp (fun b hb e => by omega)).below; clear hr ht hkp)
        | (go_at_call 26; (with_reducible refine (tn_any 9 (by omega) (by omega) (by omega) HT5.out).mono ?_); rintro e w6 ⟨z2, rfl, hr, ht, hkp⟩; have HZ2 := Lib.hid hr; have HT6 := Lib.hid ht; have HL6 := Lib.hid (HL5.out.kp hkp (fun b hb e => by omega)); have HSK6 := Lib.hid (HSK5.out.kp hkp (fun b hb _ e => by omega)); have HB6 : Hid (Below w.heap.size w w6) := Lib.hid ((Kp.of_below HB5.out (fun _ => False)).trans hkp (fun b hb e => by omega)).below; have hw2 : wrap64 (1 + z2) = 1 + z2 := (by have := HZ2.out; unfold wrap64; omega); clear hr ht hkp)
        | (go_at_call 21; (with_reducible refine (pushN_any _ g fs HSK6.out z1 (1 + z2) (by omega) (by have := HZ1.out; omega) (by have := HZ2.out; omega)).mono ?_); rintro e w7 ⟨rfl, hsk, hkp, -⟩; have HSK7 := Lib.hid hsk; have HT7 := Lib.hid (HT6.out.kp hkp (fun e => by have := HSK6.out.ge e; omega) (fun b hb e => by have := HSK6.out.ge e; omega)); have HL7 := Lib.hid (HL6.out.kp hkp (fun b hb e => by have := HSK6.out.ge e; omega)); have HB7 : Hid (Below w.heap.size w w7) := Lib.hid ((Kp.of_below HB6.out (fun _ => False)).trans hkp (fun b hb e => by have := HSK6.out.ge e; omega)).below; clear hsk hkp))
      go_roundg (m - 1)
      case measure => have := HQ.out; omega
      case rel =>
        have hm1 : (m : Int) - 1 = ((m - 1 : Nat) : Int) := by omega
        rw [hm1]
        refine ⟨m - 1, fs ++ [mkD z1 (1 + z2)], _, rfl, rfl, by simp; omega, fun f hf => ?_, HT7.out, by simp; omega, HL7.out, HSK7.out, HB7.out⟩
        rw [List.mem_append, List.mem_singleton] at hf
        rcases hf with hf | rfl
        · exact HFS.out f hf
        · exact ⟨_, _, rfl, by have := HZ1.out; omega, by have := HZ1.out; omega, by have := HZ2.out; omega, by have := HZ2.out; omega⟩
    · obtain rfl : m = 0 := by omega
      have hfc : ∀ f ∈ fs, (Lit.int .i64 (DF.code f)).wf = true := fun f hf => by
        obtain ⟨c, wd, rfl, h1, h2, h3, h4⟩ := HFS.out f hf
        exact wf_small h1 (by show c ≤ _; omega)
      have hfw : ∀ f ∈ fs, (Lit.int .i64 (DF.world f)).wf = true := fun f hf => by
        obtain ⟨c, wd, rfl, h1, h2, h3, h4⟩ := HFS.out f hf
        exact wf_small (by show 0 ≤ wd; omega) (by show wd ≤ _; omega)
      have hsm : ∀ f ∈ fs, vlsC (DF.slots f) ≤ 1000000 := fun f hf => by
        obtain ⟨c, wd, rfl, _⟩ := HFS.out f hf
        simp [mkD, vlsC]
      have HFC := Lib.hid hfc
      have HFW := Lib.hid hfw
      have HSM := Lib.hid hsm
      have hlw := goodc_wf HLG.out (by have := HLN.out; omega)
      have HLW := Lib.hid hlw
      clear hfc hfw hsm hlw
      go_upto_region 12 with (first
        | (go_at_call 27; (with_reducible refine (codesStk_any wr g fs HSK.out HFC.out (by omega)).mono ?_); rintro e v1 ⟨Ac, cc, Zc, rfl, h1, h2, h3, h4, h5⟩; have HWC := Lib.hid h1; have HUC := Lib.hid h2; have HZC := Lib.hid h3; have HRC := Lib.hid (h4.mono (ok' := fun b => b < v1.heap.size) (fun b _ hlt => hlt)); have HV1 := Lib.hid h5; have HLC3 : Hid (Zc.length ≤ 100000) := Lib.hid (len_upc h2 (fun x hx => (h3 x (h1 x hx)).1 hx) HFS.out); clear h1 h2 h3 h4 h5)
        | (go_at_call 28; (with_reducible refine (worldsStk_any _ g fs ((HSK.out.bl HV1.out).bl (bel_alloc (Below.refl _ _) _)) HFW.out (by omega)).mono ?_); rintro e v2 ⟨Aw, cw, Zw, rfl, h1, h2, h3, h4, h5⟩; have HWW := Lib.hid h1; have HUW := Lib.hid h2; have HZW := Lib.hid h3; have HRW := Lib.hid h4; have HV2 := Lib.hid (below_call (below_call HV1.out (bel_alloc (Below.refl _ _) _)) h5); have HR2 := Lib.hid (HRC.out.bl (below_call (bel_alloc (Below.refl _ _) _) h5)); have hb12 : v2.heap[v1.heap.size]? = some (.cells #[.int .i64 12] 3 (0, 0)) := (h5.block _ (by simp)).trans (blk_new v1 _); have HB12 := Lib.hid hb12; have HLW3 : Hid (Zw.length ≤ 100000) := Lib.hid (len_up h2 (fun x hx => (h3 x (h1 x hx)).1 hx) HFS.out); have HX5 := Lib.hid h5; clear h1 h2 h3 h4 h5 hb12)
        | (at_builtin; refine wpList_append_flat _ rfl (.tmp 40) (.tmp 42) 22 rfl v1.heap.size 3 i0 _ 1 8 Try.underlying22 hi hz0 hz1 hz2 rfl (by omega) _ (.slice (some ⟨v1.heap.size, 0, none⟩) 1 1) 1 [.sc (.int .i64 12)] rfl (Own.lit [.int .i64 12] rfl (by simp [maxLen]) (Nat.le_refl _) HB12.out (by simp [Value.oneCell'])) Aw _ cw (Zw.map fun x => .sc (.int .i64 x)) rfl HRW.out (ints_flat _) (by have := HLW3.out; simp only [maxLen]; omega) (by have := HLW3.out; omega) (by have := HX5.out.size; simp at this; omega) _ rfl ?_; intro Aq cq v3 own3 gr3 hat3; have HV3 := Lib.hid (bel_grown HV2.out gr3 (fun j hj => by simp [Value.ownBlock] at hj; have := HV1.out.size; omega)); have HRQ := Lib.hid (own3.rd (ok' := fun b => v1.heap.size ≤ b) (fun _ h => h.elim) (fun j hj => (own3.lt j hj).1)); have HR3 := Lib.hid (HR2.out.kp (S := fun b => b = v1.heap.size) ((Kp.refl _ _).grown gr3 (fun j hj => .inl (by simp [Value.ownBlock] at hj; exact hj.symm))) (fun b hb e => by omega)))
        | (go_at_call 16; (with_reducible refine (unreach_any l Zc ([12] ++ Zw) v3 (fun b => w.heap.size < b ∧ b < g) _ _ Al Ac Aq _ cl _ cc _ cq (HL.out.bl HV3.out) HR3.out HRQ.out HWC.out HLW.out (by have := HLN.out; omega) HLC3.out).mono ?_); rintro e v4 ⟨A4, c4, Z4, rfl, h1, h2, h3, h4, h5⟩; have HU4 := Lib.hid h2; have HZL4 : Hid (Z4.length ≤ 100000) := Lib.hid (by
            have hb : ∀ x ∈ Z4, 0 ≤ x ∧ x < 100 := fun x hx => by
              obtain ⟨y, hy, _, rfl⟩ := (h3 x (h1 x hx)).1 hx
              obtain ⟨i, hi, rfl⟩ := List.getElem_of_mem hy
              obtain ⟨m, f, t, e, _⟩ := HLG.out i _ (List.getElem?_eq_getElem hi)
              rw [e]
              have h7 := HLN.out
              show (0 : Int) ≤ (i : Int) + 1 ∧ (i : Int) + 1 < 100
              omega
            have := up_len h2 hb
            omega); have HW4 := Lib.hid h1; have HPOS4 : Hid (∀ x ∈ Z4, ∃ y : Nat, x = (y : Int) + 1) := Lib.hid (fun x hx => by
            obtain ⟨y, hy, _, rfl⟩ := (h3 x (h1 x hx)).1 hx
            obtain ⟨i, hi, rfl⟩ := List.getElem_of_mem hy
            obtain ⟨m, f, t, e, _⟩ := HLG.out i _ (List.getElem?_eq_getElem hi)
            rw [e]
            exact ⟨i, rfl⟩); have HZ4 := Lib.hid h3; have HR4 := Lib.hid h4; have HV4 := Lib.hid (below_call HV3.out h5); clear h1 h2 h3 h4 h5))
      have hzall : ∀ x, x ∈ Zc ↔ ∃ f ∈ fs, 0 < DF.code f ∧ f.code = x := fun x => ⟨fun h => (HZC.out x (HWC.out x h)).1 h, fun h => (HZC.out x (by obtain ⟨f, hf, _, rfl⟩ := h; exact HFC.out f hf)).2 h⟩
      have hwall : ∀ x, x ∈ Zw ↔ ∃ f ∈ fs, DF.world f = x := fun x => ⟨fun h => (HZW.out x (HWW.out x h)).1 h, fun h => (HZW.out x (by obtain ⟨f, hf, rfl⟩ := h; exact HFW.out f hf)).2 h⟩
      have HM : Hid (∀ (j : Nat) (x : Cc), l[j]? = some x → (((j : Int) + 1 ∈ Z4) ↔ Want fs x)) := Lib.hid (fun j x hx => by
        have hj : j < l.length := (List.getElem?_eq_some_iff.1 hx).1
        rw [← want_free HLG.out hzall hwall hx]
        exact HZ4.out _ (wf_small (by omega) (by have := HLN.out; omega)))
      have HTOP : Hid (∀ x ∈ Z4, x ≤ 12) := Lib.hid (fun x hx => by
        have hwx := HW4.out x hx
        obtain ⟨y, hy, _, rfl⟩ := (HZ4.out x hwx).1 hx
        obtain ⟨i, hi, rfl⟩ := List.getElem_of_mem hy
        obtain ⟨m, f, t, e, _⟩ := HLG.out i _ (List.getElem?_eq_getElem hi)
        rw [e]
        show (i : Int) + 1 ≤ 12
        have := HLN.out
        omega)
      have HSK4 := Lib.hid (HSK.out.bl HV4.out)
      have HLV := Lib.hid (HL.out.bl HV4.out)
      have HBV := Lib.hid (below_call HBR.out HV4.out)
      clear hzall hwall HZ4 HZC HZW HWC HWW HRC HRW HR2 HR3 HRQ HB12 HV1 HV2 HV3 HV4 HX5 HL HSK HBR HT own3 gr3 hat3 HUC HUW HLC3 HLW3 HW4
      obtain ⟨V, rfl⟩ : ∃ V, V = v4 := ⟨_, rfl⟩
      go_wp2_with fail
      go_loopg [8, 9] l.length (fun q av iv wr => ∃ (a j : Nat), av = .int .i64 (a : Int) ∧ iv = .int .i64 (j : Int) ∧ Hid (j ≤ l.length ∧ q = l.length - j ∧ AtI Z4 a j ∧ Below V.heap.size V wr))
      case atStart => exact ⟨0, 0, rfl, rfl, Nat.zero_le _, rfl, ⟨Nat.zero_le _, by simp, fun x hx => by
        obtain ⟨y, hy⟩ := HPOS4.out x (by simpa using hx)
        simp; omega⟩, Below.refl _ _⟩
      case round =>
        obtain ⟨a, j, rfl, rfl, HH⟩ := hrel
        obtain ⟨r1, r2, r3, r4⟩ := HH.out
        have HQ := Lib.hid r2
        have HAT := Lib.hid r3
        have HBW0 := Lib.hid r4
        have ha : a ≤ Z4.length := r3.1
        clear HH r2 r3 r4
        by_cases hlt : j < l.length
        · have hj' : (j : Int) < (l.length : Int) := by omega
          have hj0 : (0 : Int) ≤ (j : Int) := by omega
          have hwj : wrap64 ((j : Int) + 1) = (j : Int) + 1 := by have := HLN.out; unfold wrap64; omega
          obtain ⟨x, hxe⟩ : ∃ x, x = l[j] := ⟨_, rfl⟩
          have hxj : l[j]? = some x := by rw [hxe]; exact List.getElem?_eq_getElem hlt
          obtain ⟨b, o, rfl, hx⟩ := ccs_cell (HLV.out.bl HBW0.out) hxj
          have HX := Lib.hid hx
          have hid : x.id = (j : Int) + 1 := by
            obtain ⟨m, f, t, rfl, _⟩ := HLG.out j x hxj
            rfl
          have HID := Lib.hid hid
          have HMX := Lib.hid (HM.out j x hxj)
          clear hxe hxj hx hid
          have p0 : wr.cell? ⟨b, o + j * 14, none⟩ = some (.int .i64 x.id) := HX.out 0 _ rfl
          have p1 : wr.cell? ⟨b, o + j * 14 + 1, none⟩ = some (.int .i64 x.meth) := HX.out 1 _ rfl
          have p2 : wr.cell? ⟨b, o + j * 14 + 2, none⟩ = some (.int .i64 x.kind) := HX.out 2 _ rfl
          have p3 : wr.cell? ⟨b, o + j * 14 + 3, none⟩ = some (.string x.name) := HX.out 3 _ rfl
          have p4 : wr.cell? ⟨b, o + j * 14 + 4, none⟩ = some (.int .i64 x.idx) := HX.out 4 _ rfl
          have p5 : wr.cell? ⟨b, o + j * 14 + 5, none⟩ = some (.slice x.aa x.an x.ac) := HX.out 5 _ rfl
          have p6 : wr.cell? ⟨b, o + j * 14 + 6, none⟩ = some (.int .i64 x.frm) := HX.out 6 _ rfl
          have p7 : wr.cell? ⟨b, o + j * 14 + 7, none⟩ = some (.int .i64 x.til) := HX.out 7 _ rfl
          have p8 : wr.cell? ⟨b, o + j * 14 + 8, none⟩ = some (.int .i64 x.par) := HX.out 8 _ rfl
          have p9 : wr.cell? ⟨b, o + j * 14 + 9, none⟩ = some (.int .i64 x.slo) := HX.out 9 _ rfl
          have p10 : wr.cell? ⟨b, o + j * 14 + 10, none⟩ = some (.slice x.ia x.in_ x.ic) := HX.out 10 _ rfl
          have p11 : wr.cell? ⟨b, o + j * 14 + 11, none⟩ = some (.slice x.ea x.en x.ec) := HX.out 11 _ rfl
          have p12 : wr.cell? ⟨b, o + j * 14 + 12, none⟩ = some (.slice x.da x.dn x.dc) := HX.out 12 _ rfl
          have p13 : wr.cell? ⟨b, o + j * 14 + 13, none⟩ = some (.slice x.la x.ln x.lc) := HX.out 13 _ rfl
          obtain ⟨B0, hB0⟩ : ∃ B0, B0 = (x.til != 0) := ⟨_, rfl⟩
          have hB0' : (x.til != 0) = B0 := hB0.symm
          have HB0 : Hid (B0 = true ↔ x.til ≠ 0) := Lib.hid (by rw [hB0]; simp)
          clear hB0
          go_upto_region 18 with fail
          obtain ⟨bx, hbx⟩ : ∃ bx, bx = wr.heap.size := ⟨_, rfl⟩
          obtain ⟨U, hU⟩ : ∃ U, U = wr.alloc (.cells #[.int .i64 x.id, .int .i64 x.meth, .int .i64 x.kind, .string x.name, .int .i64 x.idx, .slice x.aa x.an x.ac, .int .i64 x.frm, .int .i64 x.til, .int .i64 x.par, .int .i64 x.slo, .slice x.ia x.in_ x.ic, .slice x.ea x.en x.ec, .slice x.da x.dn x.dc, .slice x.la x.ln x.lc] 65) := ⟨_, rfl⟩
          have hbxU : U.heap[bx]? = some (.cells #[.int .i64 x.id, .int .i64 x.meth, .int .i64 x.kind, .string x.name, .int .i64 x.idx, .slice x.aa x.an x.ac, .int .i64 x.frm, .int .i64 x.til, .int .i64 x.par, .int .i64 x.slo, .slice x.ia x.in_ x.ic, .slice x.ea x.en x.ec, .slice x.da x.dn x.dc, .slice x.la x.ln x.lc] 65 (0, 0)) := by rw [hU, hbx]; exact blk_new wr _
          have HBXU := Lib.hid hbxU
          have HBU := Lib.hid (show Below V.heap.size V U by rw [hU]; exact bel_alloc HBW0.out _)
          rw [← hU, ← hbx]
          clear hbxU hU hbx p0 p1 p2 p3 p4 p5 p6 p7 p8 p9 p10 p11 p12 p13 hB0'
          go_wp2_with (go_at_call 29; (with_reducible refine (framesStk_any U g fs (HSK4.out.bl HBU.out) (by omega) HSM.out).mono ?_); rintro e v5 ⟨Af, cf, rfl, h1, h2⟩; have HRF := Lib.hid h1; have HB5 := Lib.hid (below_call HBU.out h2); have HBX5 := Lib.hid (below_blk h2 HBXU.out); clear h1 h2)
          obtain ⟨U5, rfl⟩ : ∃ U5, U5 = v5 := ⟨_, rfl⟩
          go_loopg [11, 13] fs.length (fun q fv iv wr => ∃ (k2 : Nat) (G : Bool), fv = .bool G ∧ iv = .int .i64 (k2 : Int) ∧ Hid (k2 ≤ fs.length ∧ q = fs.length - k2 ∧ (G = true ↔ Want (fs.take k2) x) ∧ Below U5.heap.size U5 wr))
          case atStart => exact ⟨0, B0, rfl, rfl, Nat.zero_le _, rfl, by rw [HB0.out]; simp [Want], Below.refl _ _⟩
          case round =>
            clear HB0
            obtain ⟨k2, G, rfl, rfl, HH⟩ := hrel
            obtain ⟨t1, t2, t3, t4⟩ := HH.out
            have HQ2 := Lib.hid t2
            have HG := Lib.hid t3
            have HBW := Lib.hid t4
            have HBX := Lib.hid (below_blk t4 HBX5.out)
            clear HH t2 t3 t4
            have s0 : wr.cell? ⟨bx, 0, none⟩ = some (.int .i64 x.id) := (cell_of_row _ _ 0 _ _ _ HBX.out).trans rfl; have s6 : wr.cell? ⟨bx, 6, none⟩ = some (.int .i64 x.frm) := (cell_of_row _ _ 6 _ _ _ HBX.out).trans rfl; have s7 : wr.cell? ⟨bx, 7, none⟩ = some (.int .i64 x.til) := (cell_of_row _ _ 7 _ _ _ HBX.out).trans rfl
            by_cases hlt2 : k2 < fs.length
            · have hk' : (k2 : Int) < (fs.length : Int) := by omega
              have hk0 : (0 : Int) ≤ (k2 : Int) := by omega
              obtain ⟨f, hfe⟩ : ∃ f, f = fs[k2] := ⟨_, rfl⟩
              have hfk : fs[k2]? = some f := by rw [hfe]; exact List.getElem?_eq_getElem hlt2
              obtain ⟨b2, o2, A', n', c', rfl, -, d0, d1, d2, d3, d4, -⟩ := dfs_at (HRF.out.bl HBW.out) hfk
              have htk : fs.take (k2 + 1) = fs.take k2 ++ [f] := by rw [List.take_add_one, hfk]; rfl
              have HALL : Hid (∀ G1 G2 : Bool, (G1 = true ↔ Want (fs.take k2) x) → (G2 = true ↔ G1 = true ∧ f.code ≠ x.id ∧ ¬ (x.frm ≤ f.world ∧ f.world < x.til)) → (G2 = true ↔ Want (fs.take (k2 + 1)) x)) := Lib.hid (fun G1 G2 h1 h2 => by
                rw [h2, h1, htk, want_snoc])
              clear hfe hfk htk
              cases G
              · skip
                go_wp2_with fail
                go_quiet (fail)
                go_wp2_with fail
                go_roundg (fs.length - (k2 + 1))
                case measure => have := HQ2.out; omega
                case rel => exact ⟨k2 + 1, false, rfl, by simp, by omega, rfl, HALL.out false false (by first | exact HG.out | (simp; done) | simpa using HG.out) (by simp), below_drewN' HBW.out _⟩
              · by_cases y1 : f.code = x.id
                · have y1b : (f.code != x.id) = false := by simpa using y1
                  have Y1 := Lib.hid (show SameI f.code x.id from y1)
                  clear y1
                  go_wp2_with fail
                  go_quiet (fail)
                  go_wp2_with fail
                  go_roundg (fs.length - (k2 + 1))
                  case measure => have := HQ2.out; omega
                  case rel => exact ⟨k2 + 1, false, rfl, by simp, by omega, rfl, HALL.out true false (by first | exact HG.out | (simp; done) | simpa using HG.out) (by have h := Y1.out; exact ⟨(fun e => by cases e), fun e => absurd h e.2.1⟩), below_drewN' HBW.out _⟩
                · have y1b : (f.code != x.id) = true := by simpa using y1
                  have Y1 := Lib.hid (show ¬ SameI f.code x.id from y1)
                  clear y1
                  by_cases y2 : x.frm ≤ f.world
                  · have y2b : decide (x.frm ≤ f.world) = true := by simpa using y2
                    by_cases y3 : f.world < x.til
                    · have y3b : decide (f.world < x.til) = true := by simpa using y3
                      go_wp2_with fail
                      go_quiet (fail)
                      go_wp2_with fail
                      go_roundg (fs.length - (k2 + 1))
                      case measure => have := HQ2.out; omega
                      case rel => exact ⟨k2 + 1, false, rfl, by simp, by omega, rfl, HALL.out true false (by first | exact HG.out | (simp; done) | simpa using HG.out) (by exact ⟨(fun e => by cases e), fun e => absurd (And.intro y2 y3) e.2.2⟩), below_drewN' HBW.out _⟩
                    · have y3b : decide (f.world < x.til) = false := by simpa using y3
                      go_wp2_with fail
                      go_quiet (fail)
                      go_wp2_with fail
                      go_roundg (fs.length - (k2 + 1))
                      case measure => have := HQ2.out; omega
                      case rel => exact ⟨k2 + 1, true, rfl, by simp, by omega, rfl, HALL.out true true (by first | exact HG.out | (simp; done) | simpa using HG.out) (by have h := Y1.out; exact ⟨fun _ => ⟨rfl, h, by omega⟩, fun _ => rfl⟩), below_drewN' HBW.out _⟩
                  · have y2b : decide (x.frm ≤ f.world) = false := by simpa using y2
                    go_wp2_with fail
                    go_quiet (fail)
                    go_wp2_with fail
                    go_roundg (fs.length - (k2 + 1))
                    case measure => have := HQ2.out; omega
                    case rel => exact ⟨k2 + 1, true, rfl, by simp, by omega, rfl, HALL.out true true (by first | exact HG.out | (simp; done) | simpa using HG.out) (by have h := Y1.out; exact ⟨fun _ => ⟨rfl, h, by omega⟩, fun _ => rfl⟩), below_drewN' HBW.out _⟩
            · obtain rfl : k2 = fs.length := by omega
              have hd : decide ((fs.length : Int) < (fs.length : Int)) = false := by simp
              have hG : G = true ↔ (j : Int) + 1 ∈ Z4 := by
                have h := HG.out
                rw [List.take_length] at h
                rw [h, HMX.out]
              have HGM := Lib.hid hG
              clear hG HG
              by_cases hm : (j : Int) + 1 ∈ Z4
              · obtain rfl : G = true := HGM.out.2 hm
                have hz := (HAT.out.mem HU4.out).1 hm
                have hal : a < Z4.length := (List.getElem?_eq_some_iff.1 hz).1
                have haI : (a : Int) < (Z4.length : Int) := by omega
                have ha0 : (0 : Int) ≤ (a : Int) := by omega
                obtain ⟨b4, o4, rfl, hc4⟩ := ints_at (HR4.out.bl (below_call HB5.out HBW.out)) hz
                have heq : ((j : Int) + 1 == x.id) = true := by rw [HID.out]; simp
                have hwa : wrap64 ((a : Int) + 1) = (a : Int) + 1 := by have := HZL4.out; unfold wrap64; omega
                have HZS := Lib.hid (HAT.out.step HU4.out hz)
                clear hm hz
                go_wp2_with fail
                go_quiet (fail)
                go_wp2_with fail
                go_roundg (l.length - (j + 1))
                case measure => exact meas3 HQ.out hlt
                case rel => exact ⟨a + 1, j + 1, by simp [hwa], by simp [hwj], hlt, rfl, HZS.out, below_drewN' (below_call HB5.out HBW.out) _⟩
              · obtain rfl : G = false := by
                  cases G
                  · rfl
                  · exact absurd (HGM.out.1 rfl) hm
                have HSK2 := Lib.hid (HAT.out.skip hm)
                by_cases hal : a < Z4.length
                · have haI : (a : Int) < (Z4.length : Int) := by omega
                  have ha0 : (0 : Int) ≤ (a : Int) := by omega
                  obtain ⟨z, hze⟩ : ∃ z, z = Z4[a] := ⟨_, rfl⟩
                  have hz : Z4[a]? = some z := by rw [hze]; exact List.getElem?_eq_getElem hal
                  obtain ⟨b4, o4, rfl, hc4⟩ := ints_at (HR4.out.bl (below_call HB5.out HBW.out)) hz
                  have heq : (z == x.id) = false := by
                    rw [HID.out]
                    simp
                    intro e
                    exact hm (e ▸ List.mem_of_getElem? hz)
                  clear hm hz hze
                  go_wp2_with fail
                  go_quiet (fail)
                  go_wp2_with fail
                  go_roundg (l.length - (j + 1))
                  case measure => exact meas3 HQ.out hlt
                  case rel => exact ⟨a, j + 1, by simp, by simp [hwj], hlt, rfl, HSK2.out, below_drewN' (below_call HB5.out HBW.out) _⟩
                · have hda : decide ((a : Int) < (Z4.length : Int)) = false := by simp; omega
                  clear hm
                  go_wp2_with fail
                  go_quiet (fail)
                  go_wp2_with fail
                  go_roundg (l.length - (j + 1))
                  case measure => exact meas3 HQ.out hlt
                  case rel => exact ⟨a, j + 1, by simp, by simp [hwj], hlt, rfl, HSK2.out, below_drewN' (below_call HB5.out HBW.out) _⟩
        · obtain rfl : j = l.length := by omega
          have hd : decide ((l.length : Int) < (l.length : Int)) = false := by simp
          have hae : a = Z4.length := by
            rcases Nat.lt_or_ge a Z4.length with h | h
            · have h1 := HAT.out.2.2 Z4[a] (by rw [List.drop_eq_getElem_cons h]; exact List.mem_cons_self)
              have h2 := HTOP.out Z4[a] (List.getElem_mem h)
              have := HLN.out
              omega
            · omega
          have haI : ((a : Int) == (Z4.length : Int)) = true := by rw [hae]; simp
          clear hae
          go_wp2_with (go_at_call 18; (with_reducible refine (sane37_any _).mono ?_); rintro e w9 ⟨rfl, h5⟩; have HB9 := Lib.hid (below_call (below_call HBV.out HBW0.out) h5); clear h5)
          go_ret
          exact ⟨rfl, HB9.out⟩
end Go.Proofs.Ytadpfhoenjodeaa
