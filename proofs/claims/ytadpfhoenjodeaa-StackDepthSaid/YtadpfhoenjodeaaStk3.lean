/- callstack: Frames. -/
import Derived.Test.YtadpfhoenjodeaaStk2
set_option linter.unusedVariables false
set_option linter.unusedSimpArgs false
namespace Go.Proofs.Ytadpfhoenjodeaa
open Go.RowKit Go.Maps

set_option maxRecDepth 100000 in
set_option maxHeartbeats 8000000 in
theorem framesStk_any (w : World) (g : Nat) (l : List DF) (h : SK w g l) (hl : l.length ≤ 100000) (hsm : ∀ f ∈ l, vlsC (DF.slots f) ≤ 1000000) :
    Calls Try.prog 29 #[.pointer (some ⟨g, 0, none⟩)] w fun e w' => ∃ A c, e = .returned (.slice A l.length c) ∧ Rd w' (fun b => w.heap.size ≤ b) (.slice A l.length c) (dfsTr l) ∧ Below w.heap.size w w' := by
  obtain ⟨i0, hi, hz0, hz1, hz2⟩ := info_parts dframe_info
  obtain ⟨As, cs, hblk, hown0⟩ := h
  have hr := hown0.rd
  obtain ⟨-, hn1, hn2⟩ := dfs_len hr
  simp only [maxLen] at hn2
  have hgc : w.cell? ⟨g, 0, none⟩ = some (.slice As l.length cs) := (cell_of_row _ _ 0 _ _ _ hblk).trans rfl
  have HR := Lib.hid hr
  have HSM := Lib.hid hsm
  clear hr hsm hown0 hblk
  go_enter Try.func29, Try.ntmps29
  go_wp2_with fail
  go_loopg [3, 11] l.length (fun q sv iv wr => ∃ (i : Nat) (A' : Option Addr) (C : Nat), sv = .slice A' i C ∧ iv = .int .i64 (i : Int) ∧ Hid (i ≤ l.length ∧ q = l.length - i ∧ OwnD wr w.heap.size 43 5 (.slice A' i C) i (dfsE (l.take i)) ∧ Below w.heap.size w wr))
  case atStart => exact ⟨0, none, 0, rfl, rfl, Nat.zero_le _, rfl, OwnD.nil _ _ _ _, Below.refl _ _⟩
  case round =>
    clear hgc
    obtain ⟨i, A1, C1, rfl, rfl, HH⟩ := hrel
    obtain ⟨q1, q2, q3, q4⟩ := HH.out
    have HQ := Lib.hid q2
    have HO := Lib.hid q3
    have HBR := Lib.hid q4
    clear HH q2 q3 q4
    by_cases hlt : i < l.length
    · obtain ⟨f, hfe⟩ : ∃ f, f = l[i] := ⟨_, rfl⟩
      have hx : l[i]? = some f := by rw [hfe]; exact List.getElem?_eq_getElem hlt
      obtain ⟨b, o, KA, KN, KC, rfl, -, p0, p1, p2, p3, p4, p5⟩ := dfs_at (HR.out.bl HBR.out) hx
      have HF := Lib.hid (HSM.out f (List.mem_of_getElem? hx))
      have htk : l.take (i + 1) = l.take i ++ [f] := by rw [List.take_add_one, hx]; rfl
      have HTK := Lib.hid htk
      have P5 := Lib.hid p5
      clear hx hfe htk p5
      have hlt' : (i : Int) < (l.length : Int) := by omega
      have hi0 : (0 : Int) ≤ (i : Int) := by omega
      go_wp2_with (first
        | (go_at_call 46; (with_reducible refine (ownFrame_any f HF.out _ (fun b => g + 1 ≤ b) KA KN KC (P5.out.alloc _)).mono ?_); rintro e w3 ⟨A2, c2, rfl, h1, h2⟩; have HR2 := Lib.hid h1; have HB2 := Lib.hid (below_call (bel_alloc (Below.refl _ _) _) h2); clear h1 h2)
        | (at_builtin; refine wpList_append_d _ rfl (.tmp 15) (.tmp 18) 25 rfl w.heap.size 43 i0 _ 5 56 Try.underlying25 hi hz0 hz1 hz2 rfl (by omega) (.slice A1 i C1) i (dfsE (l.take i)) rfl ((HO.out.bl HB2.out).alloc _) _ [.int .i64 f.code, .int .i64 f.meth, .int .i64 f.world, .int .i64 f.pc, .slice A2 f.slots.length c2] f.tr rfl (blk_of _ _ rfl) (by have := HBR.out.size; have := HB2.out.size; omega) (fun e => by have := (HO.out.lt _ e).2; have := HB2.out.size; omega) rfl (fun b => wr.heap.size < b) ((df_rdl (HR2.out.mono (fun b hb _ => by simp at hb; omega))).step (fun b hb hlt => ⟨hb, Below.heap_alloc _ _ b hlt⟩)) (fun b hb _ => ⟨by have := HBR.out.size; omega, fun e => by have := (HO.out.lt _ e).2; omega⟩) f.tr_one (by simp only [maxLen]; omega) (by omega) (by have := HBR.out.size; have := HB2.out.size; simp; omega) ?_; intro A4 c4 w9 hown9 hgrow9 hat9))
      go_roundg (l.length - (i + 1))
      case measure => have := HQ.out; omega
      case rel =>
        refine ⟨i + 1, A4, c4, rfl, by simp, by omega, rfl, by rw [HTK.out, dfsE_append, dfsE_one]; exact hown9, bel_grown (bel_alloc (below_call HBR.out HB2.out) _) hgrow9 (fun j hj => (HO.out.lt j hj).1)⟩
    · obtain rfl : i = l.length := by omega
      have hd : decide ((l.length : Int) < (l.length : Int)) = false := by simp
      go_wp2_with fail
      go_ret
      have h := HO.out.rd
      rw [List.take_length] at h
      exact ⟨A1, C1, rfl, h, HBR.out⟩
end Go.Proofs.Ytadpfhoenjodeaa
