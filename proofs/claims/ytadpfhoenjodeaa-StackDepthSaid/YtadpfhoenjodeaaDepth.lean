/- tellaw34.StackDepth, the walk. -/
import Derived.Test.YtadpfhoenjodeaaStk6
import Derived.Test.YtadpfhoenjodeaaWithin
import Derived.Test.YtadpfhoenjodeaaMk
import Derived.Test.YtadpfhoenjodeaaSane4
set_option linter.unusedVariables false
set_option linter.unusedSimpArgs false
namespace Go.Proofs.Ytadpfhoenjodeaa
open Go.RowKit Go.Maps
def mkP (i : Nat) : DF := ⟨0, 0, 1, (i : Int), []⟩
def prs (n : Nat) : List DF := (List.range n).map mkP
theorem prs_succ (n : Nat) : prs (n + 1) = prs n ++ [mkP n] := by simp [prs, List.range_succ]
theorem prs_length (n : Nat) : (prs n).length = n := by simp [prs]
theorem mkP_ok (i : Nat) : (mkP i).ok = true := by simp [DF.ok, mkP]
theorem pushLo_any (w : World) (g i : Nat) (h : SK w g (prs i)) (hi : i ≤ 48) : Calls Try.prog 21 #[.pointer (some ⟨g, 0, none⟩), .agg #[.int .i64 0, .int .i64 0, .int .i64 1, .int .i64 (i : Int), .slice none 0 0]] w fun e w' => e = .returned (.int .i64 0) ∧ SK w' g (prs (i + 1)) ∧ Kp w w' (skS w g) := by
  refine (push_any w g (prs i) h (mkP i) (by simp [mkP, vlsC]) (by rw [prs_length]; omega) (fun _ => False) none 0 (.nil _ _)).mono ?_
  rintro e w' ⟨rfl, h1, h2, -⟩
  have hpc : pushCode (prs i) (mkP i) = 0 := by rw [pushCode, mkP_ok, if_pos rfl, if_pos (by rw [prs_length]; exact hi)]
  have hpu : pushed (prs i) (mkP i) = prs (i + 1) := by rw [pushed, mkP_ok, prs_succ]; simp [prs_length, hi]
  rw [hpu] at h1
  rw [hpc]
  exact ⟨rfl, h1, h2⟩
theorem pushHi_any (w : World) (g i : Nat) (h : SK w g (prs 49)) : Calls Try.prog 21 #[.pointer (some ⟨g, 0, none⟩), .agg #[.int .i64 0, .int .i64 0, .int .i64 1, .int .i64 (i : Int), .slice none 0 0]] w fun e w' => e = .returned (.int .i64 9) ∧ SK w' g (prs 49) ∧ Kp w w' (skS w g) := by
  refine (push_any w g (prs 49) h (mkP i) (by simp [mkP, vlsC]) (by rw [prs_length]; omega) (fun _ => False) none 0 (.nil _ _)).mono ?_
  rintro e w' ⟨rfl, h1, h2, -⟩
  have hpc : pushCode (prs 49) (mkP i) = 9 := by rw [pushCode, mkP_ok, if_pos rfl, if_neg (by rw [prs_length]; omega)]
  have hpu : pushed (prs 49) (mkP i) = prs 49 := by rw [pushed, mkP_ok]; simp [prs_length]
  rw [hpu] at h1
  rw [hpc]
  exact ⟨rfl, h1, h2⟩
def GoodL (l : List DF) : Prop := ∀ (j : Nat) (f : DF), l[j]? = some f → f.pc = (j : Int) ∧ vlsC f.slots ≤ 1000000
theorem prs_good (n : Nat) : GoodL (prs n) := fun j f h => by
  unfold prs at h
  rw [List.getElem?_map] at h
  rcases Nat.lt_or_ge j n with hj | hj
  · rw [List.getElem?_range hj] at h
    simp at h
    subst h
    exact ⟨rfl, by simp [mkP, vlsC]⟩
  · rw [List.getElem?_eq_none (by simpa using hj)] at h
    cases h
theorem GoodL.snoc {l : List DF} {f : DF} (h : GoodL (l ++ [f])) : GoodL l ∧ f.pc = (l.length : Int) ∧ vlsC f.slots ≤ 1000000 := by
  refine ⟨fun j f' hj => h j f' ?_, h l.length f (by simp)⟩
  have hlt := (List.getElem?_eq_some_iff.1 hj).1
  rw [List.getElem?_append_left hlt]
  exact hj
theorem GoodL.put {l : List DF} {f : DF} (h : GoodL l) (h1 : f.pc = (l.length : Int)) (h2 : vlsC f.slots ≤ 1000000) : GoodL (l ++ [f]) := fun j f' hj => by
  rcases Nat.lt_or_ge j l.length with hlt | hge
  · rw [List.getElem?_append_left hlt] at hj
    exact h j f' hj
  · rw [List.getElem?_append_right hge] at hj
    have : j = l.length := by
      rcases Nat.eq_zero_or_pos (j - l.length) with h0 | h0
      · omega
      · rw [List.getElem?_eq_none (by simp; omega)] at hj; cases hj
    subst this
    simp at hj
    subst hj
    exact ⟨h1, h2⟩
theorem GoodL.small {l : List DF} (h : GoodL l) : ∀ f ∈ l, vlsC (DF.slots f) ≤ 1000000 := fun f hf => by
  obtain ⟨j, hj⟩ := List.getElem?_of_mem hf
  exact (h j f hj).2
def ReP (w : World) (g K : Nat) (w' : World) : Prop := (∃ L, SK w' g L ∧ GoodL L ∧ L.length = K + 1) ∧ Kp w w' (skS w g)
theorem replaceLo_any (w : World) (g K x : Nat) (h : SK w g (prs (K + 1))) (hK : K ≤ 100) (hx : x ≤ 200) (ok : Nat → Prop) (A : Option Addr) (c : Nat) (hr : Rd w ok (.slice A x c) (vlsTr (List.replicate x zV))) :
    Calls Try.prog 32 #[.pointer (some ⟨g, 0, none⟩), .agg #[.int .i64 0, .int .i64 0, .int .i64 1, .int .i64 (K : Int), .slice A x c]] w fun e w' => e = .returned (.int .i64 0) ∧ ReP w g K w' := by
  have hl : (List.replicate x zV).length = x := List.length_replicate
  have hc := replace_any w g (prs K) (mkP K) (by rw [← prs_succ]; exact h) ⟨0, 0, 1, (K : Int), List.replicate x zV⟩ (by show vlsC (List.replicate x zV) ≤ _; rw [zeros_cnt]; omega) (by rw [prs_length]; omega) ok A c (by show Rd w ok (.slice A (List.replicate x zV).length c) _; rw [hl]; exact hr)
  have hok : (DF.mk 0 0 1 (K : Int) (List.replicate x zV)).ok = true := by
    show (decide ((0 : Int) ≤ 0) && decide ((0 : Int) ≤ 0) && decide ((0 : Int) ≤ (K : Int)) && decide ((1 : Int) ≤ 1) && decide ((List.replicate x zV).length ≤ 200)) = true
    rw [hl, decide_eq_true hx, decide_eq_true (Int.natCast_nonneg K)]; rfl
  rw [hok] at hc
  have hc2 : Calls Try.prog 32 #[.pointer (some ⟨g, 0, none⟩), .agg #[.int .i64 0, .int .i64 0, .int .i64 1, .int .i64 (K : Int), .slice A (List.replicate x zV).length c]] w _ := hc
  rw [hl] at hc2
  refine hc2.mono ?_
  rintro e w' ⟨rfl, h1, h2⟩
  exact ⟨rfl, ⟨_, h1, (prs_good K).put (by rw [prs_length]) (by show vlsC (List.replicate x zV) ≤ _; rw [zeros_cnt]; omega), by simp [prs_length]⟩, h2⟩
theorem replaceHi_any (w : World) (g K x : Nat) (h : SK w g (prs (K + 1))) (hK : K ≤ 100) (hx : x = 201) (ok : Nat → Prop) (A : Option Addr) (c : Nat) (hr : Rd w ok (.slice A x c) (vlsTr (List.replicate x zV))) :
    Calls Try.prog 32 #[.pointer (some ⟨g, 0, none⟩), .agg #[.int .i64 0, .int .i64 0, .int .i64 1, .int .i64 (K : Int), .slice A x c]] w fun e w' => e = .returned (.int .i64 1) ∧ ReP w g K w' := by
  have hl : (List.replicate x zV).length = x := List.length_replicate
  have hc := replace_any w g (prs K) (mkP K) (by rw [← prs_succ]; exact h) ⟨0, 0, 1, (K : Int), List.replicate x zV⟩ (by show vlsC (List.replicate x zV) ≤ _; rw [zeros_cnt]; omega) (by rw [prs_length]; omega) ok A c (by show Rd w ok (.slice A (List.replicate x zV).length c) _; rw [hl]; exact hr)
  have hok : (DF.mk 0 0 1 (K : Int) (List.replicate x zV)).ok = false := by
    show (decide ((0 : Int) ≤ 0) && decide ((0 : Int) ≤ 0) && decide ((0 : Int) ≤ (K : Int)) && decide ((1 : Int) ≤ 1) && decide ((List.replicate x zV).length ≤ 200)) = false
    rw [hl, decide_eq_false (by omega : ¬ x ≤ 200), Bool.and_false]
  rw [hok] at hc
  have hc2 : Calls Try.prog 32 #[.pointer (some ⟨g, 0, none⟩), .agg #[.int .i64 0, .int .i64 0, .int .i64 1, .int .i64 (K : Int), .slice A (List.replicate x zV).length c]] w _ := hc
  rw [hl] at hc2
  refine hc2.mono ?_
  rintro e w' ⟨rfl, h1, h2⟩
  exact ⟨rfl, ⟨_, h1, (prs_good K).put (by rw [prs_length]; rfl) (by simp [mkP, vlsC]), by simp [prs_length]⟩, h2⟩
theorem bel_drewA (w : World) (o : Obj) : Below w.heap.size w (w.alloc o).drew := by
  have h := bel_alloc (Below.refl w.heap.size w) o
  exact ⟨h.os, h.tape, h.output, h.size, h.block⟩
theorem blk_drewA (w : World) (o : Obj) : (w.alloc o).drew.heap[w.heap.size]? = some o := heap_alloc_new w o
theorem popNil_any (w : World) (g : Nat) (h : SK w g []) : Calls Try.prog 33 #[.pointer (some ⟨g, 0, none⟩)] w fun e w' => e = .returned (.tuple #[.agg #[.int .i64 0, .int .i64 0, .int .i64 0, .int .i64 0, .slice none 0 0], .bool false]) ∧ SK w' g [] ∧ Below w.heap.size w w' := by
  refine (pop_any w g [] h (by simp) (by simp)).mono ?_
  rintro e w' (⟨_, h1, h2, h3⟩ | ⟨l', f, A, c, h1, _⟩)
  · exact ⟨h1, h2, h3⟩
  · simp at h1
theorem popGood_any (w : World) (g : Nat) (L : List DF) (m : Nat) (h : SK w g L) (hG : GoodL L) (hl : L.length = m + 1) (hm : m ≤ 1000) : Calls Try.prog 33 #[.pointer (some ⟨g, 0, none⟩)] w fun e w' => ∃ (c0 c1 c2 : Int) (A : Option Addr) (n c : Nat), e = .returned (.tuple #[.agg #[.int .i64 c0, .int .i64 c1, .int .i64 c2, .int .i64 (m : Int), .slice A n c], .bool true]) ∧ (∃ l', SK w' g l' ∧ GoodL l' ∧ l'.length = m) ∧ Kp w w' (fun b => b = g) := by
  refine (pop_any w g L h (by omega) hG.small).mono ?_
  rintro e w' (⟨h0, _⟩ | ⟨l', f, A, c, h1, h2, _, h4, h5⟩)
  · rw [h0] at hl
    simp at hl
  · subst h1
    obtain ⟨g1, g2, _⟩ := hG.snoc
    have hlm : l'.length = m := by simpa using hl
    rw [g2, hlm] at h2
    exact ⟨_, _, _, A, _, c, h2, ⟨l', h4, g1, hlm⟩, h5⟩
theorem rootsNil_any (w : World) (g : Nat) (h : SK w g []) : Calls Try.prog 23 #[.pointer (some ⟨g, 0, none⟩)] w fun e w' => ∃ A c, e = .returned (.slice A 0 c) ∧ Below w.heap.size w w' := by
  refine (roots_any w g [] h (by simp) (by simp [dfsC]) (by simp)).mono ?_
  rintro e w' ⟨A, c, Z, rfl, h1, _, h3, _, h5⟩
  have hZ : Z = [] := by
    rcases Z with _ | ⟨y, Z⟩
    · rfl
    · obtain ⟨f, hf, _⟩ := (h3 y (h1 y (by simp))).1 (by simp)
      cases hf
  subst hZ
  exact ⟨A, c, rfl, h5⟩
set_option maxRecDepth 100000 in
set_option maxHeartbeats 16000000 in
theorem stackDepthWalk (w : World) (z0 z1 : Int) (h0 : (Lit.int .i64 z0).wf = true) (h1 : (Lit.int .i64 z1).wf = true) : Calls Try.prog 6 #[.int .i64 z0, .int .i64 z1] w fun e w' => e = .returned (.bool true) ∧ Below w.heap.size w w' := by
  clear h0 h1
  have HB0 := Lib.hid (bel_alloc (Below.refl w.heap.size w) (.cells #[.slice none 0 0] 90 (0, 0)))
  have HSK0 := Lib.hid (SK.new w)
  go_enter Try.func6, Try.ntmps6
  go_wp2_with (first
    | (go_at_call 20; (with_reducible refine (newStk_any w).mono ?_); rintro e w1 ⟨rfl, rfl⟩)
    | (go_at_call 30; (with_reducible refine (within_any z0 0 52 (by omega) (by omega) (by omega) _).mono ?_); rintro e w2 ⟨m', rfl, hm, rfl⟩; obtain ⟨m, rfl⟩ : ∃ m : Nat, m' = (m : Int) := ⟨m'.toNat, by omega⟩))
  have hm52 : m ≤ 52 := by omega
  clear hm
  generalize hV : w.alloc (.cells #[.slice none 0 0] 90 (0, 0)) = V at *
  clear hV
  go_loopg [7] m (fun q iv wr => ∃ i : Nat, iv = .int .i64 (i : Int) ∧ Hid (i ≤ m ∧ q = m - i ∧ SK wr w.heap.size (prs (min i 49)) ∧ Below w.heap.size w wr))
  case atStart => exact ⟨0, rfl, Nat.zero_le _, rfl, HSK0.out, HB0.out⟩
  case round =>
    clear HSK0 HB0
    obtain ⟨i, rfl, HH⟩ := hrel
    obtain ⟨q1, q2, q3, q4⟩ := HH.out
    have HQ := Lib.hid q2
    have HSK := Lib.hid q3
    have HB := Lib.hid q4
    clear HH q2 q3 q4
    by_cases hlt : i < m
    · have hlt' : (i : Int) < (m : Int) := by omega
      have hw1 : wrap64 ((i : Int) + 1) = (i : Int) + 1 := by unfold wrap64; omega
      by_cases h48 : i ≤ 48
      · have h48' : (i : Int) ≤ 48 := by omega
        go_wp2_with (go_at_call 21; (with_reducible refine (pushLo_any wr w.heap.size i (by have := HSK.out; rwa [Nat.min_eq_left (by omega)] at this) h48).mono ?_); rintro e w3 ⟨rfl, h2, h3⟩; have HS3 := Lib.hid h2; have HB3 := Lib.hid (kp_below HB.out h3 (fun b hb => (SK.ge HSK.out hb).1)); clear h2 h3)
        go_roundg (m - (i + 1))
        case measure => have := HQ.out; omega
        case rel => exact ⟨i + 1, by simp, hlt, rfl, by rw [Nat.min_eq_left (by omega)]; exact HS3.out, HB3.out⟩
      · have h48' : ¬ (i : Int) ≤ 48 := by omega
        go_wp2_with (go_at_call 21; (with_reducible refine (pushHi_any wr w.heap.size i (by have := HSK.out; rwa [Nat.min_eq_right (by omega)] at this)).mono ?_); rintro e w3 ⟨rfl, h2, h3⟩; have HS3 := Lib.hid h2; have HB3 := Lib.hid (kp_below HB.out h3 (fun b hb => (SK.ge HSK.out hb).1)); clear h2 h3)
        go_roundg (m - (i + 1))
        case measure => have := HQ.out; omega
        case rel => exact ⟨i + 1, by simp, hlt, rfl, by rw [Nat.min_eq_right (by omega)]; exact HS3.out, HB3.out⟩
    · obtain rfl : i = m := by omega
      clear hlt
      obtain ⟨K, hK⟩ : ∃ K, K = min i 49 := ⟨_, rfl⟩
      have HSK1 := Lib.hid (show SK wr w.heap.size (prs K) by rw [hK]; exact HSK.out)
      have hmin : min (i : Int) 49 = (K : Int) := by omega
      clear HSK
      go_upto_region 14 with (first
        | (go_at_call 31; (with_reducible refine (lenStk_any _ w.heap.size (prs K) HSK1.out).mono ?_); rintro e w4 ⟨rfl, rfl⟩; rw [prs_length])
        | (go_at_call 30; (with_reducible refine (within_any z1 199 201 (by omega) (by omega) (by omega) _).mono ?_); rintro e w5 ⟨x', rfl, hx, rfl⟩; obtain ⟨x, rfl⟩ : ∃ x : Nat, x' = (x : Int) := ⟨x'.toNat, by omega⟩))
      have HK := Lib.hid hK
      clear hK hmin
      by_cases hi0 : ¬ (0 : Int) < (i : Int)
      · have hi1 : (i : Int) = 0 := by omega
        obtain ⟨N, hN⟩ : ∃ N, N = K := ⟨_, rfl⟩
        have HN : Hid (N ≤ 101) := Lib.hid (by have := HK.out; omega)
        have hwN : wrap64 ((N : Int) - 1) = (N : Int) - 1 := by have := HN.out; unfold wrap64; omega
        obtain ⟨L, hL⟩ : ∃ L, L = prs K := ⟨_, rfl⟩
        have HGE := Lib.hid (show GoodL L by rw [hL]; exact prs_good K)
        have HLE := Lib.hid (show L.length = N by rw [hL, prs_length, hN])
        have HSKE := Lib.hid (show SK wr.drew w.heap.size L by rw [hL]; exact HSK1.out.bl ⟨rfl, rfl, rfl, Nat.le_refl _, fun _ _ => rfl⟩)
        have HBE := Lib.hid (show Below w.heap.size w wr.drew from ⟨HB.out.os, HB.out.tape, HB.out.output, HB.out.size, HB.out.block⟩)
        clear hi0 hx hm52 hL hN HK HSK1 HB
        go_region
        go_wp2_with (go_at_call 31; (with_reducible refine (lenStk_any _ w.heap.size L HSKE.out).mono ?_); rintro e w6 ⟨rfl, rfl⟩; rw [HLE.out])
        go_loopg [10] N (fun q iv wr2 => ∃ (z : Int) (n : Nat) (L : List DF), iv = .int .i64 z ∧ Hid (z + 1 = (n : Int) ∧ q = n ∧ L.length = n ∧ n ≤ 101 ∧ GoodL L ∧ SK wr2 w.heap.size L ∧ Below w.heap.size w wr2))
        case atStart => exact ⟨_, N, L, rfl, by omega, rfl, HLE.out, HN.out, HGE.out, HSKE.out, HBE.out⟩
        case round =>
          clear HSKE HGE HLE HBE HN hwN
          obtain ⟨z, n, L, rfl, HH⟩ := hrel
          obtain ⟨p1, p2, p3, p4, p5, p6, p7⟩ := HH.out
          have HQ2 := Lib.hid p2
          have HL2 := Lib.hid p3
          have HG2 := Lib.hid p5
          have HS2 := Lib.hid p6
          have HB2 := Lib.hid p7
          clear HH p2 p3 p5 p6 p7
          rcases Nat.eq_zero_or_pos n with hn0 | hn0
          · subst hn0
            obtain rfl : z = -1 := by omega
            obtain rfl : L = [] := List.eq_nil_of_length_eq_zero HL2.out
            clear p1 p4
            go_wp2_with (first
              | (go_at_call 33; (with_reducible refine (popNil_any _ w.heap.size HS2.out).mono ?_); rintro e w7 ⟨rfl, h1, h2⟩; have HS3 := Lib.hid h1; have HB3 := Lib.hid (below_call HB2.out h2); clear h1 h2)
              | (go_at_call 31; (with_reducible refine (lenStk_any _ w.heap.size [] (HS3.out.bl (bel_alloc (Below.refl _ _) _))).mono ?_); rintro e w8 ⟨he, rfl⟩; have he' : e = .returned (.int .i64 0) := he; subst he'; clear he)
              | (go_at_call 23; (with_reducible refine (rootsNil_any _ w.heap.size (HS3.out.bl (bel_alloc (Below.refl _ _) _))).mono ?_); rintro e w9 ⟨A9, c9, rfl, h2⟩; have HB4 := Lib.hid (below_call (bel_alloc HB3.out _) h2); clear h2)
              | (go_at_call 25; (with_reducible refine (sane34_any _).mono ?_); rintro e w10 ⟨rfl, h2⟩; have HB5 := Lib.hid (below_call HB4.out h2); clear h2))
            go_ret
            exact ⟨rfl, HB5.out⟩
          · obtain ⟨m, rfl⟩ : ∃ m, n = m + 1 := ⟨n - 1, by omega⟩
            obtain rfl : z = (m : Int) := by omega
            have hm0 : (0 : Int) ≤ (m : Int) := by omega
            have hwm : wrap64 ((m : Int) - 1) = (m : Int) - 1 := by unfold wrap64; omega
            have HM4 := Lib.hid p4
            clear p1 p4 hn0
            go_wp2_with (go_at_call 33; (with_reducible refine (popGood_any _ w.heap.size L m HS2.out HG2.out HL2.out (by have := HM4.out; omega)).mono ?_); rintro e w7 ⟨c0, c1, c2, A7, n7, c7, rfl, ⟨l', h1, h2, h3⟩, h4⟩; have HS3 := Lib.hid h1; have HG3 := Lib.hid h2; have HL3 := Lib.hid h3; have HB3 := Lib.hid (kp_below HB2.out h4 (fun b hb => by subst hb; exact Nat.le_refl _)); clear h1 h2 h3 h4)
            go_roundg m
            case measure => have := HQ2.out; omega
            case rel => exact ⟨_, m, l', rfl, by omega, rfl, HL3.out, by have := HM4.out; omega, HG3.out, HS3.out.bl (bel_alloc (Below.refl _ _) _), bel_alloc HB3.out _⟩
      · have hi0' : (0 : Int) < (i : Int) := by omega
        clear hi0
        have hi0n : 0 < i := by omega
        have hK0 : K ≠ 0 := by have := HK.out; omega
        obtain ⟨K, rfl⟩ : ∃ K', K = K' + 1 := ⟨K - 1, by omega⟩
        have hK100 : K ≤ 100 := by have := HK.out; omega
        have HK100 := Lib.hid hK100
        have hwk : wrap64 (((K + 1 : Nat) : Int) - 1) = (K : Int) := by unfold wrap64; push_cast; omega
        have hwk2 : IntKind.i64.wrap (K : Int) = (K : Int) := wrap_i64 (by omega) (by omega)
        obtain ⟨cs, hmk, hread⟩ := mk_any x (by omega)
        have HRD := Lib.hid hread
        by_cases hx2 : x ≤ 200
        · have hx2' : (x : Int) ≤ 200 := by omega
          have HX2 := Lib.hid hx2
          clear hx hm52 hK0 hread hK100
          go_region_held_law (fun _ => True) (trivial) (first
            | (go_at_call 31; (with_reducible refine (lenStk_any _ w.heap.size (prs (K + 1)) (by first | exact HSK1.out.bl ⟨rfl, rfl, rfl, Nat.le_refl _, fun _ _ => rfl⟩ | exact HSK1.out.bl (bel_drewA wr _))).mono ?_); rintro e w4 ⟨rfl, rfl⟩; rw [prs_length])
            | (go_at_call 32; (with_reducible refine (replaceLo_any _ w.heap.size K x (HSK1.out.bl (bel_drewA wr (.cells cs 50))) HK100.out HX2.out (fun _ => True) (some ⟨wr.heap.size, 0, none⟩) x (HRD.out _ (fun _ => True) wr.heap.size trivial (blk_drewA wr _))).mono ?_); rintro e w5 ⟨rfl, ⟨L, r1, r2, r3⟩, r4⟩; have HSKE := Lib.hid r1; have HGE := Lib.hid r2; have HLE := Lib.hid r3; have HBE := Lib.hid (kp_below (below_call HB.out (bel_drewA wr (.cells cs 50))) r4 (fun b hb => (SK.ge (HSK1.out.bl (bel_drewA wr (.cells cs 50))) hb).1)); clear r1 r2 r3 r4))
          all_goals
            obtain ⟨N, hN⟩ : ∃ N, N = K + 1 := ⟨_, rfl⟩
            rw [← hN] at HLE
            have HN : Hid (N ≤ 101) := Lib.hid (by have := HK100.out; omega)
            have hwN : wrap64 ((N : Int) - 1) = (N : Int) - 1 := by have := HN.out; unfold wrap64; omega
            clear hN HK100 HK HSK1 hmk HRD hwk hwk2
            go_wp2_with (go_at_call 31; (with_reducible refine (lenStk_any _ w.heap.size L HSKE.out).mono ?_); rintro e w6 ⟨rfl, rfl⟩; rw [HLE.out])
            go_loopg [10] N (fun q iv wr2 => ∃ (z : Int) (n : Nat) (L : List DF), iv = .int .i64 z ∧ Hid (z + 1 = (n : Int) ∧ q = n ∧ L.length = n ∧ n ≤ 101 ∧ GoodL L ∧ SK wr2 w.heap.size L ∧ Below w.heap.size w wr2))
            case atStart => exact ⟨_, N, L, rfl, by omega, rfl, HLE.out, HN.out, HGE.out, HSKE.out, HBE.out⟩
            case round =>
              clear HSKE HGE HLE HBE HN hwN
              obtain ⟨z, n, L, rfl, HH⟩ := hrel
              obtain ⟨p1, p2, p3, p4, p5, p6, p7⟩ := HH.out
              have HQ2 := Lib.hid p2
              have HL2 := Lib.hid p3
              have HG2 := Lib.hid p5
              have HS2 := Lib.hid p6
              have HB2 := Lib.hid p7
              clear HH p2 p3 p5 p6 p7
              rcases Nat.eq_zero_or_pos n with hn0 | hn0
              · subst hn0
                obtain rfl : z = -1 := by omega
                obtain rfl : L = [] := List.eq_nil_of_length_eq_zero HL2.out
                clear p1 p4
                go_wp2_with (first
                  | (go_at_call 33; (with_reducible refine (popNil_any _ w.heap.size HS2.out).mono ?_); rintro e w7 ⟨rfl, h1, h2⟩; have HS3 := Lib.hid h1; have HB3 := Lib.hid (below_call HB2.out h2); clear h1 h2)
                  | (go_at_call 31; (with_reducible refine (lenStk_any _ w.heap.size [] (HS3.out.bl (bel_alloc (Below.refl _ _) _))).mono ?_); rintro e w8 ⟨he, rfl⟩; have he' : e = .returned (.int .i64 0) := he; subst he'; clear he)
                  | (go_at_call 23; (with_reducible refine (rootsNil_any _ w.heap.size (HS3.out.bl (bel_alloc (Below.refl _ _) _))).mono ?_); rintro e w9 ⟨A9, c9, rfl, h2⟩; have HB4 := Lib.hid (below_call (bel_alloc HB3.out _) h2); clear h2)
                  | (go_at_call 25; (with_reducible refine (sane34_any _).mono ?_); rintro e w10 ⟨rfl, h2⟩; have HB5 := Lib.hid (below_call HB4.out h2); clear h2))
                go_ret
                exact ⟨rfl, HB5.out⟩
              · obtain ⟨m, rfl⟩ : ∃ m, n = m + 1 := ⟨n - 1, by omega⟩
                obtain rfl : z = (m : Int) := by omega
                have hm0 : (0 : Int) ≤ (m : Int) := by omega
                have hwm : wrap64 ((m : Int) - 1) = (m : Int) - 1 := by unfold wrap64; omega
                have HM4 := Lib.hid p4
                clear p1 p4 hn0
                go_wp2_with (go_at_call 33; (with_reducible refine (popGood_any _ w.heap.size L m HS2.out HG2.out HL2.out (by have := HM4.out; omega)).mono ?_); rintro e w7 ⟨c0, c1, c2, A7, n7, c7, rfl, ⟨l', h1, h2, h3⟩, h4⟩; have HS3 := Lib.hid h1; have HG3 := Lib.hid h2; have HL3 := Lib.hid h3; have HB3 := Lib.hid (kp_below HB2.out h4 (fun b hb => by subst hb; exact Nat.le_refl _)); clear h1 h2 h3 h4)
                go_roundg m
                case measure => have := HQ2.out; omega
                case rel => exact ⟨_, m, l', rfl, by omega, rfl, HL3.out, by have := HM4.out; omega, HG3.out, HS3.out.bl (bel_alloc (Below.refl _ _) _), bel_alloc HB3.out _⟩
        · have hx3 : x = 201 := by omega
          have hx2' : ¬ (x : Int) ≤ 200 := by omega
          have HX3 := Lib.hid hx3
          clear hx hm52 hK0 hread hK100 hx3
          go_region_held_law (fun _ => True) (trivial) (first
            | (go_at_call 31; (with_reducible refine (lenStk_any _ w.heap.size (prs (K + 1)) (by first | exact HSK1.out.bl ⟨rfl, rfl, rfl, Nat.le_refl _, fun _ _ => rfl⟩ | exact HSK1.out.bl (bel_drewA wr _))).mono ?_); rintro e w4 ⟨rfl, rfl⟩; rw [prs_length])
            | (go_at_call 32; (with_reducible refine (replaceHi_any _ w.heap.size K x (HSK1.out.bl (bel_drewA wr (.cells cs 50))) HK100.out HX3.out (fun _ => True) (some ⟨wr.heap.size, 0, none⟩) x (HRD.out _ (fun _ => True) wr.heap.size trivial (blk_drewA wr _))).mono ?_); rintro e w5 ⟨rfl, ⟨L, r1, r2, r3⟩, r4⟩; have HSKE := Lib.hid r1; have HGE := Lib.hid r2; have HLE := Lib.hid r3; have HBE := Lib.hid (kp_below (below_call HB.out (bel_drewA wr (.cells cs 50))) r4 (fun b hb => (SK.ge (HSK1.out.bl (bel_drewA wr (.cells cs 50))) hb).1)); clear r1 r2 r3 r4))
          all_goals
            obtain ⟨N, hN⟩ : ∃ N, N = K + 1 := ⟨_, rfl⟩
            rw [← hN] at HLE
            have HN : Hid (N ≤ 101) := Lib.hid (by have := HK100.out; omega)
            have hwN : wrap64 ((N : Int) - 1) = (N : Int) - 1 := by have := HN.out; unfold wrap64; omega
            clear hN HK100 HK HSK1 hmk HRD hwk hwk2
            go_wp2_with (go_at_call 31; (with_reducible refine (lenStk_any _ w.heap.size L HSKE.out).mono ?_); rintro e w6 ⟨rfl, rfl⟩; rw [HLE.out])
            go_loopg [10] N (fun q iv wr2 => ∃ (z : Int) (n : Nat) (L : List DF), iv = .int .i64 z ∧ Hid (z + 1 = (n : Int) ∧ q = n ∧ L.length = n ∧ n ≤ 101 ∧ GoodL L ∧ SK wr2 w.heap.size L ∧ Below w.heap.size w wr2))
            case atStart => exact ⟨_, N, L, rfl, by omega, rfl, HLE.out, HN.out, HGE.out, HSKE.out, HBE.out⟩
            case round =>
              clear HSKE HGE HLE HBE HN hwN
              obtain ⟨z, n, L, rfl, HH⟩ := hrel
              obtain ⟨p1, p2, p3, p4, p5, p6, p7⟩ := HH.out
              have HQ2 := Lib.hid p2
              have HL2 := Lib.hid p3
              have HG2 := Lib.hid p5
              have HS2 := Lib.hid p6
              have HB2 := Lib.hid p7
              clear HH p2 p3 p5 p6 p7
              rcases Nat.eq_zero_or_pos n with hn0 | hn0
              · subst hn0
                obtain rfl : z = -1 := by omega
                obtain rfl : L = [] := List.eq_nil_of_length_eq_zero HL2.out
                clear p1 p4
                go_wp2_with (first
                  | (go_at_call 33; (with_reducible refine (popNil_any _ w.heap.size HS2.out).mono ?_); rintro e w7 ⟨rfl, h1, h2⟩; have HS3 := Lib.hid h1; have HB3 := Lib.hid (below_call HB2.out h2); clear h1 h2)
                  | (go_at_call 31; (with_reducible refine (lenStk_any _ w.heap.size [] (HS3.out.bl (bel_alloc (Below.refl _ _) _))).mono ?_); rintro e w8 ⟨he, rfl⟩; have he' : e = .returned (.int .i64 0) := he; subst he'; clear he)
                  | (go_at_call 23; (with_reducible refine (rootsNil_any _ w.heap.size (HS3.out.bl (bel_alloc (Below.refl _ _) _))).mono ?_); rintro e w9 ⟨A9, c9, rfl, h2⟩; have HB4 := Lib.hid (below_call (bel_alloc HB3.out _) h2); clear h2)
                  | (go_at_call 25; (with_reducible refine (sane34_any _).mono ?_); rintro e w10 ⟨rfl, h2⟩; have HB5 := Lib.hid (below_call HB4.out h2); clear h2))
                go_ret
                exact ⟨rfl, HB5.out⟩
              · obtain ⟨m, rfl⟩ : ∃ m, n = m + 1 := ⟨n - 1, by omega⟩
                obtain rfl : z = (m : Int) := by omega
                have hm0 : (0 : Int) ≤ (m : Int) := by omega
                have hwm : wrap64 ((m : Int) - 1) = (m : Int) - 1 := by unfold wrap64; omega
                have HM4 := Lib.hid p4
                clear p1 p4 hn0
                go_wp2_with (go_at_call 33; (with_reducible refine (popGood_any _ w.heap.size L m HS2.out HG2.out HL2.out (by have := HM4.out; omega)).mono ?_); rintro e w7 ⟨c0, c1, c2, A7, n7, c7, rfl, ⟨l', h1, h2, h3⟩, h4⟩; have HS3 := Lib.hid h1; have HG3 := Lib.hid h2; have HL3 := Lib.hid h3; have HB3 := Lib.hid (kp_below HB2.out h4 (fun b hb => by subst hb; exact Nat.le_refl _)); clear h1 h2 h3 h4)
                go_roundg m
                case measure => have := HQ2.out; omega
                case rel => exact ⟨_, m, l', rfl, by omega, rfl, HL3.out, by have := HM4.out; omega, HG3.out, HS3.out.bl (bel_alloc (Below.refl _ _) _), bel_alloc HB3.out _⟩
end Go.Proofs.Ytadpfhoenjodeaa
