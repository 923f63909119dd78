/- callstack: the stack at a pointer; New, Push, Len, Frames, Codes, Worlds. -/
import Derived.Test.YtadpfhoenjodeaaStk
import Derived.Test.YtadpfhoenjodeaaFrames
import Derived.Test.YtadpfhoenjodeaaSem
set_option linter.unusedVariables false
set_option linter.unusedSimpArgs false
namespace Go.Proofs.Ytadpfhoenjodeaa
open Go.RowKit Go.Maps

/-- A stack at block g. -/
def SK (w : World) (g : Nat) (l : List DF) : Prop := ∃ A c, w.heap[g]? = some (.cells #[.slice A l.length c] 90 (0, 0)) ∧ OwnD w (g + 1) 43 5 (.slice A l.length c) l.length (dfsE l)
/-- The blocks that a call on the stack may write. -/
def skS (w : World) (g b : Nat) : Prop := b = g ∨ ∃ v t fr, w.heap[g]? = some (.cells #[v] t fr) ∧ v.ownBlock = some b
theorem SK.ge {w : World} {g : Nat} {l : List DF} (h : SK w g l) {b : Nat} (hb : skS w g b) : g ≤ b ∧ b < w.heap.size := by
  obtain ⟨A, c, h1, h2⟩ := h
  rcases hb with rfl | ⟨v, t, fr, h3, h4⟩
  · exact ⟨Nat.le_refl _, lt_of_block h1⟩
  · rw [h1] at h3
    simp at h3
    obtain ⟨rfl, -, -⟩ := h3
    have := h2.lt b h4
    omega
theorem SK.kp {w w' : World} {g : Nat} {l : List DF} {S : Nat → Prop} (h : SK w g l) (k : Kp w w' S) (hS : ∀ b, g ≤ b → b < w.heap.size → ¬ S b) : SK w' g l := by
  obtain ⟨A, c, h1, h2⟩ := h
  exact ⟨A, c, k.blk h1 (hS g (Nat.le_refl _) (lt_of_block h1)), h2.kp k fun b hb hlt => hS b (by omega) hlt⟩
theorem SK.bl {w w' : World} {g : Nat} {l : List DF} (h : SK w g l) (k : Below w.heap.size w w') : SK w' g l := h.kp (Kp.of_below k fun _ => False) (fun _ _ _ h => h)
theorem SK.lt {w : World} {g : Nat} {l : List DF} (h : SK w g l) : g < w.heap.size := by
  obtain ⟨A, c, h1, h2⟩ := h
  exact lt_of_block h1
theorem SK.new (w : World) : SK (w.alloc (.cells #[.slice none 0 0] 90 (0, 0))) w.heap.size [] := ⟨none, 0, heap_alloc_new w _, OwnD.nil _ _ _ _⟩
theorem skS_bl {w w' : World} {g : Nat} (h : Below w.heap.size w w') (hg : g < w.heap.size) : ∀ b, b < w.heap.size → ¬ skS w g b → ¬ skS w' g b := by
  intro b hb hn hs
  rcases hs with rfl | ⟨v, t, fr, h3, h4⟩
  · exact hn (.inl rfl)
  · rw [h.block g hg] at h3
    exact hn (.inr ⟨v, t, fr, h3, h4⟩)
theorem newStk_any (w : World) : Calls Try.prog 20 #[] w fun e w' => e = .returned (.pointer (some ⟨w.heap.size, 0, none⟩)) ∧ w' = w.alloc (.cells #[.slice none 0 0] 90 (0, 0)) := by
  go_enter Try.func20, Try.ntmps20
  go_wp2_with fail
  go_ret
  exact ⟨rfl, rfl⟩
theorem lenStk_any (w : World) (g : Nat) (l : List DF) (h : SK w g l) : Calls Try.prog 31 #[.pointer (some ⟨g, 0, none⟩)] w fun e w' => e = .returned (.int .i64 (l.length : Int)) ∧ w = w' := by
  obtain ⟨A, c, hblk, -⟩ := h
  have hgc : w.cell? ⟨g, 0, none⟩ = some (.slice A l.length c) := (cell_of_row _ _ 0 _ _ _ hblk).trans rfl
  clear hblk
  go_enter Try.func31, Try.ntmps31
  go_wp2_with fail
  go_ret
  exact ⟨rfl, rfl⟩

/-- What a push does. -/
def pushed (l : List DF) (f : DF) : List DF := if f.ok && decide (l.length ≤ 48) then l ++ [f] else l
def pushCode (l : List DF) (f : DF) : Int := if f.ok then (if l.length ≤ 48 then 0 else 9) else 1
set_option maxRecDepth 100000 in
set_option maxHeartbeats 8000000 in
theorem push_any (w : World) (g : Nat) (l : List DF) (h : SK w g l) (f : DF) (hf : vlsC f.slots ≤ 1000000) (hl : l.length ≤ 100000) (ok : Nat → Prop) (A : Option Addr) (c : Nat) (hr : Rd w ok (.slice A f.slots.length c) (vlsTr f.slots)) :
    Calls Try.prog 21 #[.pointer (some ⟨g, 0, none⟩), .agg #[.int .i64 f.code, .int .i64 f.meth, .int .i64 f.world, .int .i64 f.pc, .slice A f.slots.length c]] w fun e w' => e = .returned (.int .i64 (pushCode l f)) ∧ SK w' g (pushed l f) ∧ Kp w w' (skS w g) ∧ ∀ b, b < w.heap.size → ¬ skS w g b → ¬ skS w' g b := by
  obtain ⟨i0, hi, hz0, hz1, hz2⟩ := info_parts dframe_info
  obtain ⟨As, cs, hblk, hown⟩ := id h
  have hglt := lt_of_block hblk
  have H := Lib.hid h
  have HO := Lib.hid hown
  have HBLK := Lib.hid hblk
  have HR := Lib.hid hr
  have HF := Lib.hid hf
  have HS : Hid (∀ b, Value.ownBlock (.slice As l.length cs) = some b → skS w g b) := Lib.hid (fun b hb => .inr ⟨_, _, _, hblk, hb⟩)
  have HGE : Hid (∀ b, skS w g b → g ≤ b ∧ b < w.heap.size) := Lib.hid (fun b hb => SK.ge h hb)
  clear h hown hblk hr hf
  by_cases hok : f.ok = true
  · by_cases h48 : l.length ≤ 48
    · have hp1 : pushed l f = l ++ [f] := by simp [pushed, hok, h48]
      have hp2 : pushCode l f = 0 := by simp [pushCode, hok, h48]
      rw [hp1, hp2]
      have h48I : ¬ (48 : Int) < (l.length : Int) := by omega
      have h48d : decide ((48 : Int) < (l.length : Int)) = false := by simp; omega
      clear hp1 hp2
      go_enter Try.func21, Try.ntmps21
      go_upto_region 5 with (go_at_call 45; (with_reducible refine (validF_any f _ A c).mono ?_); rintro e w2 ⟨rfl, hb2⟩; have hfb : w2.heap[w.heap.size]? = some (.cells #[.int .i64 f.code, .int .i64 f.meth, .int .i64 f.world, .int .i64 f.pc, .slice A f.slots.length c] 43 (0, 0)) := (hb2.block _ (by simp)).trans (blk_new w _); have hgb := below_blk (below_call (bel_alloc (Below.refl _ _) _) hb2) HBLK.out; have s0 : w2.cell? ⟨w.heap.size, 0, none⟩ = some (.int .i64 f.code) := (cell_of_row _ _ 0 _ _ _ hfb).trans rfl; have s1 : w2.cell? ⟨w.heap.size, 1, none⟩ = some (.int .i64 f.meth) := (cell_of_row _ _ 1 _ _ _ hfb).trans rfl; have s2 : w2.cell? ⟨w.heap.size, 2, none⟩ = some (.int .i64 f.world) := (cell_of_row _ _ 2 _ _ _ hfb).trans rfl; have s3 : w2.cell? ⟨w.heap.size, 3, none⟩ = some (.int .i64 f.pc) := (cell_of_row _ _ 3 _ _ _ hfb).trans rfl; have s4 : w2.cell? ⟨w.heap.size, 4, none⟩ = some (.slice A f.slots.length c) := (cell_of_row _ _ 4 _ _ _ hfb).trans rfl; have hgc : w2.cell? ⟨g, 0, none⟩ = some (.slice As l.length cs) := (cell_of_row _ _ 0 _ _ _ hgb).trans rfl; have HB2 := Lib.hid (below_call (bel_alloc (Below.refl _ _) _) hb2); have HGB := Lib.hid hgb; clear hb2 hfb hgb)
      go_region_law (first
        | (go_simp; go_at_call 46; (with_reducible refine (ownFrame_any f HF.out _ ok A f.slots.length c ((HR.out.bl HB2.out).drew)).mono ?_); rintro e w3 ⟨A2, c2, rfl, h1, h2⟩; have HR2 := Lib.hid (show Rd w3 (fun b => w2.heap.size ≤ b) (.slice A2 f.slots.length c2) (vlsTr f.slots) from h1); have HB3 := Lib.hid (show Below w2.heap.size w2 w3 from ⟨h2.os, h2.tape, h2.output, h2.size, h2.block⟩); have hgb3 := below_blk HB3.out HGB.out; have hgc3 : w3.cell? ⟨g, 0, none⟩ = some (.slice As l.length cs) := (cell_of_row _ _ 0 _ _ _ hgb3).trans rfl; have hg3lt := lt_of_block hgb3; have HGB3 := Lib.hid hgb3; clear h1 h2 hgb3)
        | (refine step_append_d _ rfl (.tmp 18) (.tmp 21) 25 rfl (g + 1) 43 i0 _ 5 56 Try.underlying25 hi hz0 hz1 hz2 rfl (by omega) (.slice As l.length cs) l.length (dfsE l) rfl ((HO.out.bl (below_call HB2.out HB3.out)).alloc _) _ [.int .i64 f.code, .int .i64 f.meth, .int .i64 f.world, .int .i64 f.pc, .slice A2 f.slots.length c2] f.tr rfl (blk_of _ _ (by simp)) (by have := HB2.out.size; have := HB3.out.size; omega) (fun e => by have := (HO.out.lt _ e).2; have := HB2.out.size; have := HB3.out.size; omega) rfl (fun b => w2.heap.size ≤ b) ((df_rdl HR2.out).step (fun b hb hlt => ⟨hb, Below.heap_alloc _ _ b hlt⟩)) (fun b hb _ => ⟨by have := HB2.out.size; omega, fun e => by have := (HO.out.lt _ e).2; have := HB2.out.size; omega⟩) f.tr_one (by simp only [maxLen]; omega) (by omega) (by have := HB2.out.size; have := HB3.out.size; simp; omega) ?_; intro A4 c4 w9 hown9 hgrow9 hat9; have hgb9 : w9.heap[g]? = some (.cells #[.slice As l.length cs] 90 (0, 0)) := (hgrow9.block g (by have := HB2.out.size; have := HB3.out.size; simp; omega) (fun e => by have := (HO.out.lt _ e.symm).1; omega)).trans ((Below.heap_alloc _ _ _ (by have := HB2.out.size; have := HB3.out.size; omega)).trans HGB3.out); have hgf9 := tp_frozen hgb9 0; have hgc9 : w9.cell? ⟨g, 0, none⟩ = some (.slice As l.length cs) := (cell_of_row _ _ 0 _ _ _ hgb9).trans rfl; have HO9 := Lib.hid hown9; have HGB9 := Lib.hid hgb9; have HG9 := Lib.hid hgrow9; clear hgb9 hown9 hgrow9))
      all_goals go_wp2_with fail
      all_goals
        go_ret
        have hkp : Kp w w9 (skS w g) := (((Kp.of_below HB2.out (skS w g)).trans (Kp.of_below HB3.out fun _ => False) (fun _ _ h => h.elim)).alloc _).grown HG9.out (fun j hj => .inl (HS.out j hj))
        have hset : (w9.setCell ⟨g, 0, none⟩ (.slice A4 (l.length + 1) c4)).heap[g]? = some (.cells #[.slice A4 (l.length + 1) c4] 90 (0, 0)) := by
          have := HGB9.out
          simp [World.setCell, Array.getElem?_modify, this]
        refine ⟨by rfl, ⟨A4, c4, by rw [hset]; simp, ?_⟩, hkp.setCell (p := ⟨g, 0, none⟩) (.inl (.inl rfl)) _, fun b hb hn hs => ?_⟩
        · have h := HO9.out.kp ((Kp.refl w9 fun b => b = g).setCell (p := ⟨g, 0, none⟩) (.inl rfl) (.slice A4 (l.length + 1) c4)) (fun b hb _ e => by omega)
          rw [dfsE_append, dfsE_one, List.length_append]
          exact h
        · rcases hs with rfl | ⟨v, t, fr, h3, h4⟩
          · exact hn (.inl rfl)
          · rw [hset] at h3
            simp at h3
            obtain ⟨rfl, -, -⟩ := h3
            have h5 := HO9.out.lt b h4
            rcases hat9 b h4 with h6 | h6
            · exact hn (HS.out b h6)
            · have := HB2.out.size
              have := HB3.out.size
              simp at h6
              omega
    · have hp1 : pushed l f = l := by simp [pushed, h48]
      have hp2 : pushCode l f = 9 := by simp [pushCode, hok, h48]
      rw [hp1, hp2]
      have h48I : (48 : Int) < (l.length : Int) := by omega
      clear hp1 hp2
      go_enter Try.func21, Try.ntmps21
      go_wp2_with (go_at_call 45; (with_reducible refine (validF_any f _ A c).mono ?_); rintro e w2 ⟨rfl, hb2⟩; have hgb := below_blk (below_call (bel_alloc (Below.refl _ _) _) hb2) HBLK.out; have hgc : w2.cell? ⟨g, 0, none⟩ = some (.slice As l.length cs) := (cell_of_row _ _ 0 _ _ _ hgb).trans rfl; have hfb : w2.heap[w.heap.size]? = some (.cells #[.int .i64 f.code, .int .i64 f.meth, .int .i64 f.world, .int .i64 f.pc, .slice A f.slots.length c] 43 (0, 0)) := (hb2.block _ (by simp)).trans (blk_new w _); have s0 : w2.cell? ⟨w.heap.size, 0, none⟩ = some (.int .i64 f.code) := (cell_of_row _ _ 0 _ _ _ hfb).trans rfl; have s1 : w2.cell? ⟨w.heap.size, 1, none⟩ = some (.int .i64 f.meth) := (cell_of_row _ _ 1 _ _ _ hfb).trans rfl; have s2 : w2.cell? ⟨w.heap.size, 2, none⟩ = some (.int .i64 f.world) := (cell_of_row _ _ 2 _ _ _ hfb).trans rfl; have s3 : w2.cell? ⟨w.heap.size, 3, none⟩ = some (.int .i64 f.pc) := (cell_of_row _ _ 3 _ _ _ hfb).trans rfl; have s4 : w2.cell? ⟨w.heap.size, 4, none⟩ = some (.slice A f.slots.length c) := (cell_of_row _ _ 4 _ _ _ hfb).trans rfl; have HB2 := Lib.hid (below_call (bel_alloc (Below.refl _ _) _) hb2); clear hb2 hgb hfb)
      go_ret
      exact ⟨rfl, H.out.bl HB2.out, Kp.of_below HB2.out _, skS_bl HB2.out (HGE.out g (.inl rfl)).2⟩
  · have hok2 : f.ok = false := by simpa using hok
    have hp1 : pushed l f = l := by simp [pushed, hok]
    have hp2 : pushCode l f = 1 := by simp [pushCode, hok]
    rw [hp1, hp2]
    clear hp1 hp2 hok
    go_enter Try.func21, Try.ntmps21
    go_wp2_with (go_at_call 45; (with_reducible refine (validF_any f _ A c).mono ?_); rintro e w2 ⟨rfl, hb2⟩; have HB2 := Lib.hid (below_call (bel_alloc (Below.refl _ _) _) hb2); clear hb2)
    go_ret
    exact ⟨rfl, H.out.bl HB2.out, Kp.of_below HB2.out _, skS_bl HB2.out (HGE.out g (.inl rfl)).2⟩

set_option maxRecDepth 100000 in
set_option maxHeartbeats 8000000 in
theorem codesStk_any (w : World) (g : Nat) (l : List DF) (h : SK w g l) (hwa : ∀ f ∈ l, (Lit.int .i64 (DF.code f)).wf = true) (hl : l.length ≤ 100000) :
    Calls Try.prog 27 #[.pointer (some ⟨g, 0, none⟩)] w fun e w' => ∃ A c Z, e = .returned (.slice A Z.length c) ∧ (∀ x ∈ Z, (Lit.int .i64 x).wf = true) ∧ Up Z ∧ (∀ x, (Lit.int .i64 x).wf = true → (x ∈ Z ↔ ∃ f ∈ l, 0 < f.code ∧ f.code = x)) ∧ Rd w' (fun b => w.heap.size ≤ b) (.slice A Z.length c) (intsTr Z) ∧ Below w.heap.size w w' := by
  have hmm := @run_makeMap Try.prog
  obtain ⟨As, cs, hblk, hown0⟩ := h
  have hr := hown0.rd
  obtain ⟨-, hn1, hn2⟩ := dfs_len hr
  simp only [maxLen] at hn2
  have hgc : (w.alloc (.map #[] 0)).cell? ⟨g, 0, none⟩ = some (.slice As l.length cs) := below_cell (bel_alloc (Below.refl _ _) _) ((cell_of_row _ _ 0 _ _ _ hblk).trans rfl)
  have HR := Lib.hid hr
  have HWA := Lib.hid hwa
  clear hr hwa hown0 hblk
  go_enter Try.func27, Try.ntmps27
  go_wp2_with fail
  go_loopg [12] l.length (fun q iv wr => ∃ (i : Nat), iv = .int .i64 (i : Int) ∧ Hid (i ≤ l.length ∧ q = l.length - i ∧ (∃ k, k ≤ i ∧ ST wr w.heap.size k (fun x => ∃ f ∈ l.take i, 0 < f.code ∧ f.code = x)) ∧ Below w.heap.size w wr))
  case atStart => exact ⟨0, rfl, Nat.zero_le _, rfl, ⟨0, Nat.le_refl _, (ST.made w).mono (fun x => by simp)⟩, bel_alloc (Below.refl _ _) _⟩
  case round =>
    clear hgc
    obtain ⟨i, rfl, HH⟩ := hrel
    obtain ⟨q1, q2, q3, q4⟩ := HH.out
    have HQ := Lib.hid q2
    have HS := Lib.hid q3
    have HBR := Lib.hid q4
    clear HH q2 q3 q4
    by_cases hlt : i < l.length
    · have hi' : (i : Int) < (l.length : Int) := by omega
      have hi0 : (0 : Int) ≤ (i : Int) := by omega
      obtain ⟨f, hfe⟩ : ∃ f, f = l[i] := ⟨_, rfl⟩
      have hfi : l[i]? = some f := by rw [hfe]; exact List.getElem?_eq_getElem hlt
      obtain ⟨b, o, A', n', c', rfl, -, p0, p1, p2, p3, p4, -⟩ := dfs_at (HR.out.bl HBR.out) hfi
      have hwf := HWA.out f (List.mem_of_getElem? hfi)
      have hkey := keyOf_int_mk Try.underlying3 hwf
      have htj : l.take (i + 1) = l.take i ++ [f] := by rw [List.take_add_one, hfi]; rfl
      have HTJ := Lib.hid htj
      obtain ⟨k, hk, D, hown, hD⟩ := HS.out
      have HD := Lib.hid hD
      have HK := Lib.hid hk
      have hkk : k < 200000 := by omega
      clear hfe hfi htj hD hk
      by_cases hpos : 0 < f.code
      · have HPOS := Lib.hid hpos
        go_wp2_with (first
          | (at_mapUpdate; refine wpList_mapUpdate_own _ rfl _ _ _ 85 rfl 3 4 lawI Try.underlying85 (plainElem (H := Unit) Try.prog 4) w.heap.size k D rfl (hown.alloc _) (by simp only [maxLen]; omega) _ _ _ rfl rfl hkey _ [] (plainElem_bool Try.underlying4 true) ?_; intro w2 hown2 hgrow2)
          | go_in)
        go_roundg (l.length - (i + 1))
        case measure => have := HQ.out; omega
        case rel =>
          have hst := ST.put hwf HD.out (hown.tidy lawI).isMap hown2
          refine ⟨i + 1, by simp, by omega, rfl, ⟨k + 1, by have := HK.out; omega, hst.mono fun x => ?_⟩, bel_grown (bel_alloc HBR.out _) hgrow2 (fun z hz => by cases hz; exact Nat.le_refl _)⟩
          rw [HTJ.out]; simp only [List.mem_append, List.mem_singleton]
          constructor
          · rintro (⟨g', hg, e⟩ | h)
            · exact ⟨g', .inl hg, e⟩
            · exact ⟨f, .inr rfl, HPOS.out, h.symm⟩
          · rintro ⟨g', hg | rfl, e⟩
            · exact .inl ⟨g', hg, e⟩
            · exact .inr e.2.symm
      · have hpos2 : f.code ≤ 0 := by omega
        have HPOS := Lib.hid hpos
        clear hpos
        go_wp2_with fail
        go_roundg (l.length - (i + 1))
        case measure => have := HQ.out; omega
        case rel =>
          have hst : ST wr w.heap.size k (fun x => ∃ f ∈ l.take i, 0 < f.code ∧ f.code = x) := ⟨D, hown, HD.out⟩
          refine ⟨i + 1, by simp, by omega, rfl, ⟨k, by have := HK.out; omega, (hst.alloc _).mono fun x => ?_⟩, bel_alloc HBR.out _⟩
          rw [HTJ.out]; simp only [List.mem_append, List.mem_singleton]
          constructor
          · rintro ⟨g', hg, e⟩
            exact ⟨g', .inl hg, e⟩
          · rintro ⟨g', hg | rfl, e⟩
            · exact ⟨g', hg, e⟩
            · exact absurd e.1 (by have := HPOS.out; omega)
    · obtain rfl : i = l.length := by omega
      have hd : decide ((l.length : Int) < (l.length : Int)) = false := by simp
      obtain ⟨k, hk, hst⟩ := HS.out
      rw [List.take_length] at hst
      have hkk : k ≤ 200000 := by omega
      go_wp2_with (go_at_call 41; (with_reducible refine (sorted_any _ _ _ _ hst (by omega)).mono ?_); rintro e w2 ⟨A2, c2, Z, rfl, h1, h2, h3, h4, h5⟩; have HB2 := Lib.hid (below_call HBR.out h5); have HZ := Lib.hid (And.intro h1 (And.intro h2 h3)); have HRZ := Lib.hid h4; clear h1 h2 h3 h4 h5)
      go_ret
      exact ⟨A2, c2, Z, rfl, HZ.out.1, HZ.out.2.1, HZ.out.2.2, HRZ.out.mono (fun b hb _ => Nat.le_trans HBR.out.size hb), HB2.out⟩

set_option maxRecDepth 100000 in
set_option maxHeartbeats 8000000 in
theorem worldsStk_any (w : World) (g : Nat) (l : List DF) (h : SK w g l) (hwa : ∀ f ∈ l, (Lit.int .i64 (DF.world f)).wf = true) (hl : l.length ≤ 100000) :
    Calls Try.prog 28 #[.pointer (some ⟨g, 0, none⟩)] w fun e w' => ∃ A c Z, e = .returned (.slice A Z.length c) ∧ (∀ x ∈ Z, (Lit.int .i64 x).wf = true) ∧ Up Z ∧ (∀ x, (Lit.int .i64 x).wf = true → (x ∈ Z ↔ ∃ f ∈ l, f.world = x)) ∧ Rd w' (fun b => w.heap.size ≤ b) (.slice A Z.length c) (intsTr Z) ∧ Below w.heap.size w w' := by
  have hmm := @run_makeMap Try.prog
  obtain ⟨As, cs, hblk, hown0⟩ := h
  have hr := hown0.rd
  obtain ⟨-, hn1, hn2⟩ := dfs_len hr
  simp only [maxLen] at hn2
  have hgc : (w.alloc (.map #[] 0)).cell? ⟨g, 0, none⟩ = some (.slice As l.length cs) := below_cell (bel_alloc (Below.refl _ _) _) ((cell_of_row _ _ 0 _ _ _ hblk).trans rfl)
  have HR := Lib.hid hr
  have HWA := Lib.hid hwa
  clear hr hwa hown0 hblk
  go_enter Try.func28, Try.ntmps28
  go_wp2_with fail
  go_loopg [12] l.length (fun q iv wr => ∃ (i : Nat), iv = .int .i64 (i : Int) ∧ Hid (i ≤ l.length ∧ q = l.length - i ∧ (∃ k, k ≤ i ∧ ST wr w.heap.size k (fun x => ∃ f ∈ l.take i, f.world = x)) ∧ Below w.heap.size w wr))
  case atStart => exact ⟨0, rfl, Nat.zero_le _, rfl, ⟨0, Nat.le_refl _, (ST.made w).mono (fun x => by simp)⟩, bel_alloc (Below.refl _ _) _⟩
  case round =>
    clear hgc
    obtain ⟨i, rfl, HH⟩ := hrel
    obtain ⟨q1, q2, q3, q4⟩ := HH.out
    have HQ := Lib.hid q2
    have HS := Lib.hid q3
    have HBR := Lib.hid q4
    clear HH q2 q3 q4
    by_cases hlt : i < l.length
    · have hi' : (i : Int) < (l.length : Int) := by omega
      have hi0 : (0 : Int) ≤ (i : Int) := by omega
      obtain ⟨f, hfe⟩ : ∃ f, f = l[i] := ⟨_, rfl⟩
      have hfi : l[i]? = some f := by rw [hfe]; exact List.getElem?_eq_getElem hlt
      obtain ⟨b, o, A', n', c', rfl, -, p0, p1, p2, p3, p4, -⟩ := dfs_at (HR.out.bl HBR.out) hfi
      have hwf := HWA.out f (List.mem_of_getElem? hfi)
      have hkey := keyOf_int_mk Try.underlying3 hwf
      have htj : l.take (i + 1) = l.take i ++ [f] := by rw [List.take_add_one, hfi]; rfl
      have HTJ := Lib.hid htj
      obtain ⟨k, hk, D, hown, hD⟩ := HS.out
      have HD := Lib.hid hD
      have HK := Lib.hid hk
      have hkk : k < 200000 := by omega
      clear hfe hfi htj hD hk
      go_wp2_with (first
        | (at_mapUpdate; refine wpList_mapUpdate_own _ rfl _ _ _ 85 rfl 3 4 lawI Try.underlying85 (plainElem (H := Unit) Try.prog 4) w.heap.size k D rfl (hown.alloc _) (by simp only [maxLen]; omega) _ _ _ rfl rfl hkey _ [] (plainElem_bool Try.underlying4 true) ?_; intro w2 hown2 hgrow2)
        | go_in)
      go_roundg (l.length - (i + 1))
      case measure => have := HQ.out; omega
      case rel =>
        have hst := ST.put hwf HD.out (hown.tidy lawI).isMap hown2
        refine ⟨i + 1, by simp, by omega, rfl, ⟨k + 1, by have := HK.out; omega, hst.mono fun x => ?_⟩, bel_grown (bel_alloc HBR.out _) hgrow2 (fun z hz => by cases hz; exact Nat.le_refl _)⟩
        rw [HTJ.out]; simp only [List.mem_append, List.mem_singleton]
        constructor
        · rintro (⟨g', hg, e⟩ | h)
          · exact ⟨g', .inl hg, e⟩
          · exact ⟨f, .inr rfl, h.symm⟩
        · rintro ⟨g', hg | rfl, e⟩
          · exact .inl ⟨g', hg, e⟩
          · exact .inr e.symm
    · obtain rfl : i = l.length := by omega
      have hd : decide ((l.length : Int) < (l.length : Int)) = false := by simp
      obtain ⟨k, hk, hst⟩ := HS.out
      rw [List.take_length] at hst
      have hkk : k ≤ 200000 := by omega
      go_wp2_with (go_at_call 41; (with_reducible refine (sorted_any _ _ _ _ hst (by omega)).mono ?_); rintro e w2 ⟨A2, c2, Z, rfl, h1, h2, h3, h4, h5⟩; have HB2 := Lib.hid (below_call HBR.out h5); have HZ := Lib.hid (And.intro h1 (And.intro h2 h3)); have HRZ := Lib.hid h4; clear h1 h2 h3 h4 h5)
      go_ret
      exact ⟨A2, c2, Z, rfl, HZ.out.1, HZ.out.2.1, HZ.out.2.2, HRZ.out.mono (fun b hb _ => Nat.le_trans HBR.out.size hb), HB2.out⟩

end Go.Proofs.Ytadpfhoenjodeaa
