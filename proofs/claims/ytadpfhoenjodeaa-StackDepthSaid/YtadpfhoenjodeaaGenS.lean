/- tellaw37.stacks: some stacks off a tape. -/
import Derived.Test.YtadpfhoenjodeaaGenC
import Derived.Test.YtadpfhoenjodeaaFrames
set_option linter.unusedVariables false
set_option linter.unusedSimpArgs false
namespace Go.Proofs.Ytadpfhoenjodeaa
open Go.RowKit Go.Maps

def mkF (c m wd : Int) : Fr := ⟨c, m, wd, 0, none, 0, 0⟩
def GoodF (f : Fr) : Prop := ∃ c m wd, f = mkF c m wd ∧ 0 ≤ c ∧ c ≤ 7 ∧ 0 ≤ m ∧ m ≤ 3 ∧ 1 ≤ wd ∧ wd ≤ 9
def GoodFs (l : List Fr) : Prop := ∀ f ∈ l, GoodF f
def GoodS (s : List (List Fr)) : Prop := ∀ l ∈ s, l.length ≤ 4 ∧ GoodFs l
theorem frame_info : (Try.prog.info? 43).map (fun i => (i.zero, i.size, i.bytes)) = some (some (.agg #[.int .i64 0, .int .i64 0, .int .i64 0, .int .i64 0, .slice none 0 0]), 5, 56) := by kernel_rfl
theorem slf_info : (Try.prog.info? 25).map (fun i => (i.zero, i.size, i.bytes)) = some (some (.slice none 0 0), 1, 24) := by kernel_rfl
def Fr.vs (f : Fr) : List Value := [.int .i64 f.code, .int .i64 f.meth, .int .i64 f.world, .int .i64 f.pc, .slice f.sa f.sn f.sc]
def frsE (l : List Fr) : List Tr := l.flatMap Fr.tr
theorem fr_tr (f : Fr) : f.tr = f.vs.map Tr.sc := rfl
theorem fr_flat (f : Fr) : ∀ e ∈ f.vs.map Tr.sc, e.flat := by
  intro e he
  obtain ⟨v, hv, rfl⟩ := List.mem_map.1 he
  refine ⟨v, rfl, ?_⟩
  simp only [Fr.vs, List.mem_cons, List.not_mem_nil, or_false] at hv
  rcases hv with h | h | h | h | h <;> subst h <;> rfl
theorem frsE_snoc (l : List Fr) (f : Fr) : frsE (l ++ [f]) = frsE l ++ f.vs.map Tr.sc := by simp [frsE, fr_tr]
theorem one_sl {w : World} {ok : Nat → Prop} {g t t2 sz n c : Nat} {A : Option Addr} {es : List Tr} (hg : ok g) (hb : w.heap[g]? = some (.cells #[.slice A n c] t (0, 0))) (h : Rd w ok (.slice A n c) (.sl t2 sz es)) : Rd w ok (.slice (some ⟨g, 0, none⟩) 1 1) (.sl t 1 [.sl t2 sz es]) := by
  refine .row g 0 1 1 _ 1 _ _ [.slice A n c] _ hg hb (Nat.le_refl _) (by simp [maxLen]) rfl rfl (fun j hj => ?_) (fun j u e hu he => ?_)
  · obtain rfl : j = 0 := by omega
    rfl
  · cases j with
    | zero => simp at hu he; subst hu he; exact h
    | succ j => simp at hu

set_option maxRecDepth 100000 in
set_option maxHeartbeats 8000000 in
theorem stacks_any (base g k0 : Nat) (hk0 : k0 ≤ 100000) (w : World) (ht : TpK w base g k0) :
    Calls Try.prog 10 #[.pointer (some ⟨g, 0, none⟩)] w fun e w' => ∃ A c s, e = .returned (.slice A s.length c) ∧ s.length ≤ 3 ∧ GoodS s ∧ (∃ k, k ≤ k0 + 100 ∧ TpK w' base g k) ∧ Rd w' (fun b => w.heap.size ≤ b) (.slice A s.length c) (stTr s) ∧ Kp w w' fun b => b = g := by
  obtain ⟨i0, hi, hz0, hz1, hz2⟩ := info_parts frame_info
  obtain ⟨i1, hi1, hy0, hy1, hy2⟩ := info_parts slf_info
  have HT0 := Lib.hid ht
  have hgl := ht.lt
  have hbg := ht.bg
  clear ht
  go_enter Try.func10, Try.ntmps10
  go_wp2_with (go_at_call 26; (with_reducible refine (tn_any 4 (by omega) (by omega) (by omega) HT0.out).mono ?_); rintro e w1 ⟨r, rfl, hr, htw1, hkpw1⟩; obtain ⟨m0, rfl⟩ : ∃ m0 : Nat, r = (m0 : Int) := ⟨r.toNat, by omega⟩; have HKPw1 := Lib.hid hkpw1; have Hr := Lib.hid hr; have HTw1 := Lib.hid htw1; clear hr htw1 hkpw1)
  go_loopg [3, 4] m0 (fun q lv iv wr => ∃ (m : Nat) (A : Option Addr) (C : Nat) (s : List (List Fr)) (k : Nat) (ok : Nat → Prop), lv = .slice A s.length C ∧ iv = .int .i64 (m : Int) ∧ Hid (q = m ∧ s.length + m ≤ 3 ∧ GoodS s ∧ TpK wr base g k ∧ k ≤ k0 + 1 + 20 * s.length ∧ Own wr ok w.heap.size 25 1 (.slice A s.length C) s.length (s.map frsTr) ∧ (∀ b, ok b → w.heap.size ≤ b ∧ b < wr.heap.size ∧ Value.ownBlock (.slice A s.length C) ≠ some b) ∧ Kp w wr fun b => b = g))
  case atStart => exact ⟨m0, none, 0, [], k0 + 1, fun _ => False, rfl, rfl, rfl, by have := Hr.out; simp; omega, (fun l hl => by cases hl), HTw1.out, by simp, Own.nil _ _ _ _ _, fun _ h => h.elim, HKPw1.out⟩
  case round =>
    clear HT0 HTw1 HKPw1 Hr
    obtain ⟨m, A, C, s, k, ok, rfl, rfl, HH⟩ := hrel
    obtain ⟨q1, q2, q3, q4, q5, q6, q7, q8⟩ := HH.out
    have HQ := Lib.hid q1
    have HG := Lib.hid q3
    have HT := Lib.hid q4
    have HO := Lib.hid q6
    have HOK := Lib.hid q7
    have HKP := Lib.hid q8
    clear HH q1 q3 q4 q6 q7 q8
    by_cases hm : 0 < m
    · have hmI : (0 : Int) < (m : Int) := by omega
      have hw1 : wrap64 ((m : Int) - 1) = (m : Int) - 1 := by unfold wrap64; omega
      go_wp2_with (go_at_call 26; (with_reducible refine (tn_any 5 (by omega) (by omega) (by omega) HT.out).mono ?_); rintro e w2 ⟨r2, rfl, hr2, htw2, hkpw2⟩; obtain ⟨p0, rfl⟩ : ∃ p0 : Nat, r2 = (p0 : Int) := ⟨r2.toNat, by omega⟩; have HKW := Lib.hid hkpw2; have HKPw2 := Lib.hid (HKP.out.trans hkpw2 (fun b _ h => h)); have Hr2 := Lib.hid hr2; have HTw2 := Lib.hid htw2; clear hr2 htw2 hkpw2)
      obtain ⟨W, rfl⟩ : ∃ W, W = w2 := ⟨_, rfl⟩
      have hgW0 : g < W.heap.size := HTw2.out.lt
      go_loopg [5, 6] p0 (fun q lv iv wr => ∃ (p : Nat) (A2 : Option Addr) (C2 : Nat) (l : List Fr) (k2 : Nat), lv = .slice A2 l.length C2 ∧ iv = .int .i64 (p : Int) ∧ Hid (q = p ∧ l.length + p ≤ 4 ∧ GoodFs l ∧ TpK wr base g k2 ∧ k2 ≤ k + 1 + 4 * l.length ∧ Own wr (fun _ => False) W.heap.size 43 5 (.slice A2 l.length C2) l.length (frsE l) ∧ Kp W wr fun b => b = g))
      case atStart => exact ⟨p0, none, 0, [], k + 1, rfl, rfl, rfl, by have := Hr2.out; simp; omega, (fun f hf => by cases hf), HTw2.out, by simp, Own.nil _ _ _ _ _, Kp.refl _ _⟩
      case round =>
        clear HTw2 Hr2
        obtain ⟨p, A2, C2, l, k2, rfl, rfl, HH⟩ := hrel
        obtain ⟨r1, r2, r3, r4, r5, r6, r7⟩ := HH.out
        have HQ2 := Lib.hid r1
        have HG2 := Lib.hid r3
        have HT2 := Lib.hid r4
        have HO2 := Lib.hid r6
        have HKP2 := Lib.hid r7
        clear HH r1 r3 r4 r6 r7
        by_cases hp : 0 < p
        · have hpI : (0 : Int) < (p : Int) := by omega
          have hw2 : wrap64 ((p : Int) - 1) = (p : Int) - 1 := by unfold wrap64; omega
          have hgW : g < W.heap.size := hgW0
          go_wp2_with (first
            | (go_at_call 26; (with_reducible refine (tn_any 8 (by omega) (by omega) (by omega) HT2.out).mono ?_); rintro e w3 ⟨z3, rfl, hz3, htw3, hkpw3⟩; have HKP3 := Lib.hid (HKP2.out.trans hkpw3 (fun b _ h => h)); have HO3 := Lib.hid (HO2.out.kp hkpw3 (fun _ h => h.elim) (fun b hb e => by have := (HO2.out.lt b hb).1; omega)); have Hz3 := Lib.hid hz3; have HTw3 := Lib.hid htw3; clear hz3 htw3 hkpw3)
            | (go_at_call 26; (with_reducible refine (tn_any 4 (by omega) (by omega) (by omega) HTw3.out).mono ?_); rintro e w4 ⟨z4, rfl, hz4, htw4, hkpw4⟩; have HKP4 := Lib.hid (HKP3.out.trans hkpw4 (fun b _ h => h)); have HO4 := Lib.hid (HO3.out.kp hkpw4 (fun _ h => h.elim) (fun b hb e => by have := (HO3.out.lt b hb).1; omega)); have Hz4 := Lib.hid hz4; have HTw4 := Lib.hid htw4; clear hz4 htw4 hkpw4)
            | (go_at_call 26; (with_reducible refine (tn_any 9 (by omega) (by omega) (by omega) HTw4.out).mono ?_); rintro e w5 ⟨z5, rfl, hz5, htw5, hkpw5⟩; have HKP5 := Lib.hid (HKP4.out.trans hkpw5 (fun b _ h => h)); have HO5 := Lib.hid (HO4.out.kp hkpw5 (fun _ h => h.elim) (fun b hb e => by have := (HO4.out.lt b hb).1; omega)); have hw3 : wrap64 (1 + z5) = 1 + z5 := (by unfold wrap64; omega); have Hz5 := Lib.hid hz5; have HTw5 := Lib.hid htw5; clear hz5 htw5 hkpw5)
            | (at_builtin; refine wpList_append_flat _ rfl (.tmp 19) (.tmp 28) 25 rfl W.heap.size 43 i0 _ 5 56 Try.underlying25 hi hz0 hz1 hz2 rfl (by omega) (fun _ => True) (.slice A2 l.length C2) l.length (frsE l) rfl (HO5.out.alloc _) _ 1 1 ((mkF z3 z4 (1 + z5)).vs.map Tr.sc) rfl (row_rd _ rfl trivial (blk_at _ _ (by simp))) (fr_flat _) (by simp only [maxLen]; omega) (by omega) (by have := HKP5.out.size; simp at this ⊢; omega) _ rfl ?_; intro A3 c3 w9 hown9 hgrow9 hat9))
          go_roundg (p - 1)
          case measure => have := HQ2.out; omega
          case rel =>
            have hrow : ∀ j, Value.ownBlock (.slice A2 l.length C2) = some j → W.heap.size ≤ j := fun j hj => (HO5.out.lt j hj).1
            have b3 := Hz3.out
            have b4 := Hz4.out
            have b5 := Hz5.out
            have hp1 : (p : Int) - 1 = ((p - 1 : Nat) : Int) := by omega
            rw [hp1]
            refine ⟨p - 1, A3, c3, l ++ [mkF z3 z4 (1 + z5)], _, by simp, rfl, rfl, by simp; omega, ?_, (HTw5.out.al _).grown hgrow9 (fun j hj => by have := hrow j hj; omega), by simp; omega, by rw [frsE_snoc]; simpa using hown9, (HKP5.out.alloc _).grown hgrow9 (fun j hj => .inr (hrow j hj))⟩
            unfold GoodFs
            intro f hf
            rw [List.mem_append, List.mem_singleton] at hf
            rcases hf with hf | rfl
            · exact HG2.out f hf
            · exact ⟨_, _, _, rfl, by omega, by omega, by omega, by omega, by omega, by omega⟩
        · obtain rfl : p = 0 := by omega
          obtain ⟨ok', hok'⟩ : ∃ ok' : Nat → Prop, ok' = fun b => ok b ∨ b = wr.heap.size ∨ Value.ownBlock (.slice A2 l.length C2) = some b := ⟨_, rfl⟩
          have hkp := HKW.out.trans HKP2.out (fun b _ h => h)
          have hsz1 := HKW.out.size
          have hsz2 := HKP2.out.size
          have hwW := HKPw2.out.size
          have hone : Own wr ok w.heap.size 25 1 (.slice A s.length C) s.length (s.map frsTr) := HO.out.kp hkp (fun b hb e => by have := HOK.out b hb; omega) (fun b hb e => by have := HO.out.lt b hb; omega)
          have hone2 : Own wr ok' w.heap.size 25 1 (.slice A s.length C) s.length (s.map frsTr) := hone.mono fun b hb _ => by rw [hok']; exact .inl hb
          have hrl : Rd wr ok' (.slice A2 l.length C2) (frsTr l) := HO2.out.rd (fun _ h => h.elim) (fun j hj => by rw [hok']; exact .inr (.inr hj))
          have hnew : ok' wr.heap.size := by rw [hok']; exact .inr (.inl rfl)
          have hne : ∀ b, Value.ownBlock (.slice A s.length C) = some b → ¬ ok' b := by
            intro b hb h
            have h1 := HO.out.lt b hb
            rw [hok'] at h
            rcases h with h | h | h
            · exact (HOK.out b h).2.2 hb
            · omega
            · have := (HO2.out.lt b h).1
              omega
          have hok2 : ∀ b, ok' b → w.heap.size ≤ b ∧ b < wr.heap.size + 1 := by
            intro b h
            rw [hok'] at h
            rcases h with h | h | h
            · have := HOK.out b h; omega
            · omega
            · have := HO2.out.lt b h; omega
          have HO3 := Lib.hid hone2
          have HRL := Lib.hid hrl
          have HNE := Lib.hid hne
          have HOK2 := Lib.hid hok2
          have HNEW := Lib.hid hnew
          have HROW : Hid (∀ j, Value.ownBlock (.slice A s.length C) = some j → w.heap.size ≤ j ∧ j < wr.heap.size) := Lib.hid (fun j hj => hone2.lt j hj)
          clear hone hone2 hrl hne hok2 hnew hok' HO hkp HOK
          go_wp2_with (at_builtin; refine wpList_append_rd _ rfl (.tmp 30) (.tmp 32) 23 rfl w.heap.size 25 i1 _ 1 24 Try.underlying23 hi1 hy0 hy1 hy2 rfl (by omega) ok' (.slice A s.length C) s.length (s.map frsTr) rfl (HO3.out.alloc _) _ 1 1 [frsTr l] rfl (one_sl HNEW.out (blk_at _ _ (by simp)) (HRL.out.alloc _)) (fun e he => by rw [List.mem_singleton] at he; subst he; trivial) HNE.out (by simp only [maxLen]; omega) (by omega) (by simp; omega) _ rfl ?_; intro A4 c4 w8 hown8 hgrow8 hat8)
          go_roundg (m - 1)
          case measure => have := HQ.out; omega
          case rel =>
            have hm1 : (m : Int) - 1 = ((m - 1 : Nat) : Int) := by omega
            rw [hm1]
            have hsz8 := hgrow8.size
            simp at hsz8
            refine ⟨m - 1, A4, c4, s ++ [l], k2, ok', by simp, rfl, rfl, by simp; omega, ?_, (HT2.out.al _).grown hgrow8 (fun j hj => by have := HROW.out j hj; omega), by simp; omega, by simpa using hown8, fun b hb => ?_, ((HKPw2.out.trans HKP2.out (fun b _ h => h)).alloc _).grown hgrow8 (fun j hj => .inr (HROW.out j hj).1)⟩
            · unfold GoodS
              intro l' hl'
              rw [List.mem_append, List.mem_singleton] at hl'
              rcases hl' with hl' | rfl
              · exact HG.out l' hl'
              · exact ⟨by omega, HG2.out⟩
            · have h1 := HOK2.out b hb
              refine ⟨h1.1, by omega, fun e => ?_⟩
              rcases hat8 b (by simpa using e) with h | h
              · exact HNE.out b h hb
              · simp at h; omega
    · obtain rfl : m = 0 := by omega
      go_wp2_with fail
      go_ret
      exact ⟨A, C, s, rfl, by omega, HG.out, ⟨k, by omega, HT.out⟩, HO.out.rd (fun b hb _ => (HOK.out b hb).1) (fun j hj => (HO.out.lt j hj).1), HKP.out⟩
end Go.Proofs.Ytadpfhoenjodeaa
