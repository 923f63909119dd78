/- callstack: Roots. -/
import Derived.Test.YtadpfhoenjodeaaRoots
set_option linter.unusedVariables false
set_option linter.unusedSimpArgs false
namespace Go.Proofs.Ytadpfhoenjodeaa
open Go.RowKit Go.Maps

def objV (x : Int) : Vl := .mk 5 x ⟨#[]⟩ []
def dfsC (l : List DF) : Nat := (l.map fun f => vlsC f.slots).sum
theorem dfsC_snoc (l : List DF) (f : DF) : dfsC (l ++ [f]) = dfsC l + vlsC f.slots := by simp [dfsC]
theorem dfsC_take (l : List DF) (i : Nat) : dfsC (l.take i) ≤ dfsC l := by
  have h := congrArg dfsC (List.take_append_drop i l)
  simp only [dfsC, List.map_append, List.sum_append] at h ⊢
  omega
/-- The objects of frames. -/
def RootP (l : List DF) (x : Int) : Prop := ∃ f ∈ l, x ∈ vlsO (DF.slots f)
theorem rootP_snoc (l : List DF) (f : DF) (x : Int) : RootP (l ++ [f]) x ↔ RootP l x ∨ x ∈ vlsO f.slots := by
  simp only [RootP, List.mem_append, List.mem_singleton]
  constructor
  · rintro ⟨h, hh | rfl, hx⟩
    · exact .inl ⟨h, hh, hx⟩
    · exact .inr hx
  · rintro (⟨h, hh, hx⟩ | hx)
    · exact ⟨h, .inl hh, hx⟩
    · exact ⟨f, .inr rfl, hx⟩
theorem kp_below {w w1 w2 : World} {S : Nat → Prop} (h : Below w.heap.size w w1) (k : Kp w1 w2 S) (hS : ∀ b, S b → w.heap.size ≤ b) : Below w.heap.size w w2 :=
  ((Kp.of_below h fun _ => False).trans k (fun b hb e => by have := hS b e; omega)).below
theorem vlsT_map_snoc (Z : List Int) (x : Int) : vlsT ((Z ++ [x]).map objV) = vlsT (Z.map objV) ++ (objV x).tr := by rw [List.map_append, vlsT_append, List.map_singleton, vlsT_one]

set_option maxRecDepth 100000 in
set_option maxHeartbeats 8000000 in
theorem roots_any (w : World) (g : Nat) (l : List DF) (h : SK w g l) (hl : l.length ≤ 100000) (hcn : dfsC l ≤ 1000000) (hft : ∀ f ∈ l, vlsF (DF.slots f)) :
    Calls Try.prog 23 #[.pointer (some ⟨g, 0, none⟩)] w fun e w' => ∃ A c Z, e = .returned (.slice A (List.length Z) c) ∧ (∀ x ∈ Z, (Lit.int .i64 x).wf = true) ∧ Up Z ∧ (∀ x, (Lit.int .i64 x).wf = true → (x ∈ Z ↔ RootP l x)) ∧ Rd w' (fun b => w.heap.size ≤ b) (.slice A (List.length Z) c) (vlsTr (Z.map objV)) ∧ Below w.heap.size w w' := by
  have hmm := @run_makeMap Try.prog
  obtain ⟨i0, hi, hz0, hz1, hz2⟩ := info_parts vls_info
  obtain ⟨As, cs, hblk, hown0⟩ := h
  have hr := hown0.rd
  obtain ⟨-, hn1, hn2⟩ := dfs_len hr
  simp only [maxLen] at hn2
  have hgc : (w.alloc (.map #[] 0)).cell? ⟨g, 0, none⟩ = some (.slice As l.length cs) := below_cell (bel_alloc (Below.refl _ _) _) ((cell_of_row _ _ 0 _ _ _ hblk).trans rfl)
  have HR := Lib.hid (hr.mono (ok' := fun b => b < w.heap.size) (fun b _ hlt => hlt))
  have HFT := Lib.hid hft
  have HCN := Lib.hid hcn
  clear hr hft hcn hown0 hblk
  go_enter Try.func23, Try.ntmps23
  go_wp2_with fail
  go_loopg [17] l.length (fun q iv wr => ∃ (i : Nat), iv = .int .i64 (i : Int) ∧ Hid (i ≤ l.length ∧ q = l.length - i ∧ ST6 wr w.heap.size (dfsC (l.take i)) (RootP (l.take i)) ∧ Below w.heap.size w wr))
  case atStart => exact ⟨0, rfl, Nat.zero_le _, rfl, (ST6.made w).mono (fun x => by simp [RootP]), bel_alloc (Below.refl _ _) _⟩
  case round =>
    clear hgc
    obtain ⟨i, rfl, HH⟩ := hrel
    obtain ⟨q1, q2, q3, q4⟩ := HH.out
    have HQ := Lib.hid q2
    have HS := Lib.hid q3
    have HBR := Lib.hid q4
    clear HH q2 q3 q4
    by_cases hlt : i < l.length
    · have hi' : (i : Int) < (l.length : Int) := by omega
      have hi0 : (0 : Int) ≤ (i : Int) := by omega
      obtain ⟨f, hfe⟩ : ∃ f, f = l[i] := ⟨_, rfl⟩
      have hfi : l[i]? = some f := by rw [hfe]; exact List.getElem?_eq_getElem hlt
      obtain ⟨b, o, A', n', c', rfl, -, p0, p1, p2, p3, p4, p5⟩ := dfs_at (HR.out.bl HBR.out) hfi
      obtain ⟨rfl, hs1, hs2⟩ := vls_len p5
      simp only [maxLen] at hs2
      have htj : l.take (i + 1) = l.take i ++ [f] := by rw [List.take_add_one, hfi]; rfl
      have hct : dfsC (l.take i) + vlsC f.slots ≤ 1000000 := by
        have h1 := dfsC_take l (i + 1)
        rw [htj, dfsC_snoc] at h1
        have := HCN.out
        omega
      have HTJ := Lib.hid htj
      have HCT := Lib.hid hct
      have HFF := Lib.hid (HFT.out f (List.mem_of_getElem? hfi))
      have HRS := Lib.hid p5
      have HRS0 : Hid (Rd w (fun b => b < w.heap.size) (.slice A' f.slots.length c') (vlsTr f.slots)) := Lib.hid (by
        obtain ⟨b', o', A2, n2, c2, e1, -, -, -, -, -, y4, y5⟩ := dfs_at HR.out hfi
        injection e1 with e1
        injection e1 with e1 e2
        subst e1 e2
        have y := (below_cell HBR.out y4).symm.trans p4
        simp at y
        obtain ⟨rfl, rfl, rfl⟩ := y
        exact y5)
      clear hfe hfi htj hct p5
      go_wp2_with fail
      go_loopg [24] f.slots.length (fun q jv wx => ∃ (j : Nat), jv = .int .i64 (j : Int) ∧ Hid (j ≤ f.slots.length ∧ q = f.slots.length - j ∧ ST6 wx w.heap.size (dfsC (l.take i) + vlsC (f.slots.take j)) (fun x => RootP (l.take i) x ∨ x ∈ vlsO (f.slots.take j)) ∧ Below w.heap.size w wx))
      case atStart => exact ⟨0, rfl, Nat.zero_le _, rfl, ((HS.out.alloc _).mono (fun x => by simp [vlsO])).le (by omega), bel_alloc HBR.out _⟩
      case round =>
        clear HS HBR
        obtain ⟨j, rfl, HH⟩ := hrel
        obtain ⟨r1, r2, r3, r4⟩ := HH.out
        have HQ2 := Lib.hid r2
        have HS := Lib.hid r3
        have HBW := Lib.hid r4
        clear HH r2 r3 r4
        by_cases hlt2 : j < f.slots.length
        · have hj' : (j : Int) < (f.slots.length : Int) := by omega
          have hj0 : (0 : Int) ≤ (j : Int) := by omega
          obtain ⟨x, hxe⟩ : ∃ x, x = f.slots[j] := ⟨_, rfl⟩
          have hxj : f.slots[j]? = some x := by rw [hxe]; exact List.getElem?_eq_getElem hlt2
          have hkp : wr.heap.size ≤ wr.heap.size := Nat.le_refl _
          obtain ⟨b2, o2, KA, KN, KC, rfl, hbl2, d0, d1, d2, d3, d4⟩ := vls_at (HRS0.out.bl HBW.out) hxj
          have hc1 := vlsC_take f.slots j x hxj
          have hc2 := vlsC_le f.slots (j + 1)
          have HXC : Hid (x.cnt ≤ 1000000) := Lib.hid (by have := HCT.out; omega)
          have HNB : Hid (dfsC (l.take i) + vlsC (f.slots.take j) + x.cnt ≤ 100000000) := Lib.hid (by have := HCT.out; omega)
          have HXF := Lib.hid (vlsF_at HFF.out x (List.mem_of_getElem? hxj))
          have HTK : Hid (f.slots.take (j + 1) = f.slots.take j ++ [x]) := Lib.hid (by rw [List.take_add_one, hxj]; rfl)
          have HC1 := Lib.hid hc1
          have D4 := Lib.hid d4
          clear hxe hxj hc1 hc2 d4
          go_wp2_with (go_at_call 47; (with_reducible refine (objects_any _ x (Nat.le_refl _) HXC.out HXF.out _ (fun b => b < w.heap.size) w.heap.size _ _ KA KN KC (HS.out.alloc _) HNB.out (D4.out.alloc _) (fun b hb => by omega)).mono ?_); rintro e w3 ⟨rfl, h1, h2⟩; have HS3 := Lib.hid h1; have HB3 := Lib.hid (kp_below (bel_alloc HBW.out _) h2 (fun b e => by omega)); clear h1 h2)
          go_roundg (f.slots.length - (j + 1))
          case measure => have := HQ2.out; omega
          case rel =>
            refine ⟨j + 1, by simp, by omega, rfl, ?_, HB3.out⟩
            have h := HS3.out
            rw [HC1.out, ← Nat.add_assoc]
            refine h.mono fun y => ?_
            rw [HTK.out, vlsO_append, vlsO_one, List.mem_append, or_assoc]
        · obtain rfl : j = f.slots.length := by omega
          have hd : decide ((f.slots.length : Int) < (f.slots.length : Int)) = false := by simp
          go_wp2_with fail
          go_roundg (l.length - (i + 1))
          case measure => have := HQ.out; omega
          case rel =>
            refine ⟨i + 1, by simp, by omega, rfl, ?_, HBW.out⟩
            have h := HS.out
            rw [List.take_length] at h
            rw [HTJ.out, dfsC_snoc]
            exact h.mono fun x => (rootP_snoc _ _ _).symm
    · obtain rfl : i = l.length := by omega
      have hd : decide ((l.length : Int) < (l.length : Int)) = false := by simp
      have hst := HS.out
      rw [List.take_length] at hst
      have HST := Lib.hid hst
      clear hst
      go_wp2_with (go_at_call 48; (with_reducible refine (sorted6_any _ _ _ _ HST.out HCN.out).mono ?_); rintro e w2 ⟨A2, c2, Z, rfl, h1, h2, h3, h4, h5, h6⟩; have HB2 := Lib.hid (below_call HBR.out h5); have HZ := Lib.hid (And.intro h1 (And.intro h2 h3)); have HRZ := Lib.hid (h4.mono (ok' := fun b => w.heap.size ≤ b ∧ b < w2.heap.size) (fun b hb hlt => ⟨Nat.le_trans HBR.out.size hb, hlt⟩)); have HZL : Hid (Z.length ≤ 1000000) := Lib.hid (Nat.le_trans h6 HCN.out); clear h1 h2 h3 h4 h5 h6)
      obtain ⟨V, rfl⟩ : ∃ V, V = w2 := ⟨_, rfl⟩
      have hzl := (i64s_len HRZ.out).2
      simp only [maxLen] at hzl
      have HZC : Hid (Z.length ≤ 1000000) := Lib.hid HZL.out
      have hzc := HZL.out
      clear HZL
      go_loopg [8, 36] Z.length (fun q sv iv wr => ∃ (i : Nat) (A' : Option Addr) (C : Nat), sv = .slice A' i C ∧ iv = .int .i64 (i : Int) ∧ Hid (i ≤ Z.length ∧ q = Z.length - i ∧ OwnD wr V.heap.size 50 4 (.slice A' i C) i (vlsT ((Z.take i).map objV)) ∧ Below V.heap.size V wr))
      case atStart => exact ⟨0, none, 0, rfl, rfl, Nat.zero_le _, rfl, OwnD.nil _ _ _ _, Below.refl _ _⟩
      case round =>
        obtain ⟨i, A1, C1, rfl, rfl, HH⟩ := hrel
        obtain ⟨r1, r2, r3, r4⟩ := HH.out
        have HQ2 := Lib.hid r2
        have HO := Lib.hid r3
        have HBW := Lib.hid r4
        clear HH r2 r3 r4
        by_cases hlt2 : i < Z.length
        · have hi' : (i : Int) < (Z.length : Int) := by omega
          have hi0 : (0 : Int) ≤ (i : Int) := by omega
          obtain ⟨x, hxe⟩ : ∃ x, x = Z[i] := ⟨_, rfl⟩
          have hxi : Z[i]? = some x := by rw [hxe]; exact List.getElem?_eq_getElem hlt2
          obtain ⟨b4, o4, rfl, hc4⟩ := i64s_at (HRZ.out.bl HBW.out) hxi
          have HTK : Hid (Z.take (i + 1) = Z.take i ++ [x]) := Lib.hid (by rw [List.take_add_one, hxi]; rfl)
          clear hxe hxi
          go_wp2_with (at_builtin; refine wpList_append_d _ rfl (.tmp 40) (.tmp 43) 41 rfl V.heap.size 50 i0 _ 4 56 Try.underlying41 hi hz0 hz1 hz2 rfl (by omega) (.slice A1 i C1) i (vlsT ((Z.take i).map objV)) rfl (HO.out.alloc _) _ [.int .i64 5, .int .i64 x, .string ⟨#[]⟩, .slice none 0 0] (objV x).tr rfl (blk_of _ _ rfl) HBW.out.size (fun e => by have := (HO.out.lt _ e).2; omega) rfl (fun _ => False) (vls_rdl (x := objV x) (.nil _ _)) (fun b hb _ => hb.elim) (objV x).tr_one (by simp only [maxLen]; omega) (by omega) (by have := HBW.out.size; simp; omega) ?_; intro A4 c4 w9 hown9 hgrow9 hat9)
          go_roundg (Z.length - (i + 1))
          case measure => have := HQ2.out; omega
          case rel => exact ⟨i + 1, A4, c4, rfl, by simp, by omega, rfl, by rw [HTK.out, vlsT_map_snoc]; exact hown9, bel_grown (bel_alloc HBW.out _) hgrow9 (fun j hj => (HO.out.lt j hj).1)⟩
        · obtain rfl : i = Z.length := by omega
          have hd2 : decide ((Z.length : Int) < (Z.length : Int)) = false := by simp
          go_wp2_with fail
          go_ret
          have h := HO.out.rd
          rw [List.take_length] at h
          exact ⟨A1, C1, Z, rfl, HZ.out.1, HZ.out.2.1, HZ.out.2.2, h.mono (fun b hb _ => Nat.le_trans HB2.out.size hb), below_call HB2.out HBW.out⟩
end Go.Proofs.Ytadpfhoenjodeaa
