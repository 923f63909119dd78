/- telref31.Unreachable. -/
import Derived.Test.YtadpfhoenjodeaaCodes
import Derived.Deep.DeepCutAuto
set_option linter.unusedVariables false
set_option linter.unusedSimpArgs false
namespace Go.Proofs.Ytadpfhoenjodeaa
open Go.RowKit Go.Maps

def Cc.zero (x : Cc) : Prop := x.til = 0
theorem bel_undrew {w w2 : World} (h : Below w.drew.heap.size w.drew w2) : Below w.heap.size w w2 := ⟨h.os, h.tape, h.output, h.size, h.block⟩
def Used (active : List Int) (ws : List Int) (x : Cc) : Prop := (x.til = 0 ∨ x.id ∈ active) ∨ ∃ y ∈ ws, validIn x y = true
theorem used_free (active ws : List Int) (x : Cc) : ¬ Used active ws x ↔ Free active ws x := by
  unfold Used Free validIn
  constructor
  · intro h
    refine ⟨fun e => h (.inl (.inl e)), fun e => h (.inl (.inr e)), fun y hy => ?_⟩
    rcases Classical.em (y < x.frm ∨ x.til ≤ y) with h1 | h1
    · exact h1
    · exact absurd (.inr ⟨y, hy, by simp; omega⟩) h
  · rintro ⟨h1, h2, h3⟩ ((h | h) | ⟨y, hy, h⟩)
    · exact h1 h
    · exact h2 h
    · have := h3 y hy
      simp at h
      omega
theorem used_snoc (active ws : List Int) (x : Cc) (y : Int) : Used active (ws ++ [y]) x ↔ Used active ws x ∨ validIn x y = true := by
  unfold Used
  simp only [List.mem_append, List.mem_singleton]
  constructor
  · rintro (h | ⟨z, hz | rfl, h⟩)
    · exact .inl (.inl h)
    · exact .inl (.inr ⟨z, hz, h⟩)
    · exact .inr h
  · rintro ((h | ⟨z, hz, h⟩) | h)
    · exact .inl h
    · exact .inr ⟨z, .inl hz, h⟩
    · exact .inr ⟨y, .inr rfl, h⟩
set_option maxRecDepth 100000 in
set_option maxHeartbeats 8000000 in
theorem unreachRef_any (all : List Cc) (active worlds : List Int) (w : World) (ok ok1 ok2 : Nat → Prop) (A A1 A2 : Option Addr) (n c n1 c1 n2 c2 : Nat) (ha : Rd w ok (.slice A n c) (ccsTr all)) (hb : Rd w ok1 (.slice A1 n1 c1) (intsTr active)) (hc : Rd w ok2 (.slice A2 n2 c2) (intsTr worlds)) (hla : all.length ≤ 100000) :
    Calls Try.prog 17 #[.slice A n c, .slice A1 n1 c1, .slice A2 n2 c2] w fun e w' => ∃ A c Z, e = .returned (.slice A Z.length c) ∧ Lists (FreeIds all active worlds) Z ∧ Rd w' (fun b => w.heap.size ≤ b) (.slice A Z.length c) (intsTr Z) ∧ Below w.heap.size w w' := by
  obtain ⟨hn, hn1, hn2⟩ := ccs_len ha
  obtain ⟨hm, hm1, hm2⟩ := ints_len hb
  obtain ⟨hk, hk1, hk2⟩ := ints_len hc
  simp only [maxLen] at hn2 hm2 hk2
  have HA := Lib.hid ha
  have HB := Lib.hid hb
  have HC := Lib.hid hc
  have HN := Lib.hid hn
  have HM := Lib.hid hm
  have HK := Lib.hid hk
  clear ha hb hc hn hm hk
  go_enter Try.func17, Try.ntmps17
  go_wp2_with fail
  go_loopg [7, 8] n (fun q lv iv wr => ∃ (j : Nat) (A' : Option Addr) (c' : Nat) (Z : List Int), lv = .slice A' Z.length c' ∧ iv = .int .i64 (j : Int) ∧ Hid (j ≤ n ∧ q = n - j ∧ PlainA A' ∧ Z.length ≤ j ∧ Lists (FreeIds (all.take j) active worlds) Z ∧ Rd wr (fun b => w.heap.size ≤ b) (.slice A' Z.length c') (intsTr Z) ∧ Below w.heap.size w wr))
  case atStart => exact ⟨0, none, 0, [], rfl, rfl, Nat.zero_le _, rfl, plain_none, by simp, Lists.nil.mono (fun x => by simp [FreeIds]), .nil _ _, Below.refl _ _⟩
  case round =>
    obtain ⟨j, A3, c3, Z, rfl, rfl, HH⟩ := hrel
    obtain ⟨q1, q2, q0, q3, q4, q5, q6⟩ := HH.out
    have HPL := Lib.hid q0
    clear q0
    have HQ := Lib.hid q2
    have HZL := Lib.hid q3
    have HZ := Lib.hid q4
    have HRZ := Lib.hid q5
    have HBR := Lib.hid q6
    clear HH q2 q3 q4 q5 q6
    by_cases hlt : j < n
    · have hj' : (j : Int) < (n : Int) := by omega
      have hj0 : (0 : Int) ≤ (j : Int) := by omega
      have hsl : j < all.length := by have := HN.out; omega
      obtain ⟨x, hxe⟩ : ∃ x, x = all[j] := ⟨_, rfl⟩
      have hxj : all[j]? = some x := by rw [hxe]; exact List.getElem?_eq_getElem hsl
      obtain ⟨b, o, rfl, hx⟩ := ccs_cell (HA.out.bl HBR.out) hxj
      have HX := Lib.hid hx
      have htj : all.take (j + 1) = all.take j ++ [x] := by rw [List.take_add_one, hxj]; rfl
      have HTJ := Lib.hid htj
      clear hxe hxj htj hx
      have p0 : wr.cell? ⟨b, o + j * 14, none⟩ = some (.int .i64 x.id) := HX.out 0 _ rfl
      have p1 : wr.cell? ⟨b, o + j * 14 + 1, none⟩ = some (.int .i64 x.meth) := HX.out 1 _ rfl
      have p2 : wr.cell? ⟨b, o + j * 14 + 2, none⟩ = some (.int .i64 x.kind) := HX.out 2 _ rfl
      have p3 : wr.cell? ⟨b, o + j * 14 + 3, none⟩ = some (.string x.name) := HX.out 3 _ rfl
      have p4 : wr.cell? ⟨b, o + j * 14 + 4, none⟩ = some (.int .i64 x.idx) := HX.out 4 _ rfl
      have p5 : wr.cell? ⟨b, o + j * 14 + 5, none⟩ = some (.slice x.aa x.an x.ac) := HX.out 5 _ rfl
      have p6 : wr.cell? ⟨b, o + j * 14 + 6, none⟩ = some (.int .i64 x.frm) := HX.out 6 _ rfl
      have p7 : wr.cell? ⟨b, o + j * 14 + 7, none⟩ = some (.int .i64 x.til) := HX.out 7 _ rfl
      have p8 : wr.cell? ⟨b, o + j * 14 + 8, none⟩ = some (.int .i64 x.par) := HX.out 8 _ rfl
      have p9 : wr.cell? ⟨b, o + j * 14 + 9, none⟩ = some (.int .i64 x.slo) := HX.out 9 _ rfl
      have p10 : wr.cell? ⟨b, o + j * 14 + 10, none⟩ = some (.slice x.ia x.in_ x.ic) := HX.out 10 _ rfl
      have p11 : wr.cell? ⟨b, o + j * 14 + 11, none⟩ = some (.slice x.ea x.en x.ec) := HX.out 11 _ rfl
      have p12 : wr.cell? ⟨b, o + j * 14 + 12, none⟩ = some (.slice x.da x.dn x.dc) := HX.out 12 _ rfl
      have p13 : wr.cell? ⟨b, o + j * 14 + 13, none⟩ = some (.slice x.la x.ln x.lc) := HX.out 13 _ rfl
      go_upto_region 6 with fail
      go_cut [10] (fun t10 wx => ∃ F : Bool, t10 = .bool F ∧ Hid (F = true ↔ x.til = 0 ∨ x.id ∈ active) ∧ wx = wr.alloc (.cells #[.int .i64 x.id, .int .i64 x.meth, .int .i64 x.kind, .string x.name, .int .i64 x.idx, .slice x.aa x.an x.ac, .int .i64 x.frm, .int .i64 x.til, .int .i64 x.par, .int .i64 x.slo, .slice x.ia x.in_ x.ic, .slice x.ea x.en x.ec, .slice x.da x.dn x.dc, .slice x.la x.ln x.lc] 65))
      case first =>
        by_cases ht : x.til = 0
        · have htb : (x.til == 0) = true := by simpa using ht
          have HTP := Lib.hid (show x.zero from ht)
          clear ht
          go_wp2_with fail
          go_meet
          exact ⟨true, rfl, ⟨fun _ => .inl HTP.out, fun _ => rfl⟩, rfl⟩
        · have htb : (x.til == 0) = false := by simpa using ht
          have HTP := Lib.hid (show ¬ x.zero from ht)
          clear ht
          go_wp2_with (go_at_call 42; (with_reducible refine (contains_any active x.id _ ok1 A1 n1 c1 ((HB.out.bl HBR.out).alloc _)).mono ?_); rintro e w2 ⟨rfl, rfl⟩)
          go_meet
          exact ⟨decide (x.id ∈ active), rfl, ⟨fun h => .inr (of_decide_eq_true h), fun h => h.elim (fun h => absurd h HTP.out) (fun h => decide_eq_true h)⟩, rfl⟩
      case rest =>
        clear p0 p1 p2 p3 p4 p5 p6 p7 p8 p9 p10 p11 p12 p13
        obtain ⟨F, rfl, HF, rfl⟩ := hcut
        obtain ⟨W3, rfl⟩ : ∃ W3, W3 = wr := ⟨_, rfl⟩
        obtain ⟨W4, hW4⟩ : ∃ W4, W4 = W3.alloc (.cells #[.int .i64 x.id, .int .i64 x.meth, .int .i64 x.kind, .string x.name, .int .i64 x.idx, .slice x.aa x.an x.ac, .int .i64 x.frm, .int .i64 x.til, .int .i64 x.par, .int .i64 x.slo, .slice x.ia x.in_ x.ic, .slice x.ea x.en x.ec, .slice x.da x.dn x.dc, .slice x.la x.ln x.lc] 65) := ⟨_, rfl⟩
        have hbel4 : Below w.heap.size w W4 := by rw [hW4]; exact bel_alloc HBR.out _
        have hblk4 : W4.heap[W3.heap.size]? = some (.cells #[.int .i64 x.id, .int .i64 x.meth, .int .i64 x.kind, .string x.name, .int .i64 x.idx, .slice x.aa x.an x.ac, .int .i64 x.frm, .int .i64 x.til, .int .i64 x.par, .int .i64 x.slo, .slice x.ia x.in_ x.ic, .slice x.ea x.en x.ec, .slice x.da x.dn x.dc, .slice x.la x.ln x.lc] 65 (0, 0)) := by rw [hW4]; exact blk_new W3 _
        have HB4 := Lib.hid hbel4
        have HBLK4 := Lib.hid hblk4
        have HRZ4 := Lib.hid (show Rd W4 (fun b => w.heap.size ≤ b) (.slice A3 Z.length c3) (intsTr Z) by rw [hW4]; exact HRZ.out.alloc _)
        rw [← hW4]
        clear hbel4 hblk4 hW4 HRZ
        go_wp2_with fail
        go_loopg [10, 11] n2 (fun q fv iv wr => ∃ (k : Nat) (G : Bool), fv = .bool G ∧ iv = .int .i64 (k : Int) ∧ Hid (k ≤ n2 ∧ q = n2 - k ∧ (G = true ↔ Used active (worlds.take k) x) ∧ Below W4.heap.size W4 wr))
        case atStart => exact ⟨0, F, rfl, rfl, Nat.zero_le _, rfl, by rw [HF.out]; simp [Used], Below.refl _ _⟩
        case round =>
          clear HF
          obtain ⟨k, G, rfl, rfl, HH⟩ := hrel
          obtain ⟨r1, r2, r3, r4⟩ := HH.out
          have HQ2 := Lib.hid r2
          have HG := Lib.hid r3
          have HBX := Lib.hid r4
          have HBLK := Lib.hid (below_blk r4 HBLK4.out)
          clear HH r2 r3 r4
          by_cases hlt2 : k < n2
          · have hk' : (k : Int) < (n2 : Int) := by omega
            have hk0 : (0 : Int) ≤ (k : Int) := by omega
            have hsl2 : k < worlds.length := by have := HK.out; omega
            obtain ⟨y, hye⟩ : ∃ y, y = worlds[k] := ⟨_, rfl⟩
            have hyk : worlds[k]? = some y := by rw [hye]; exact List.getElem?_eq_getElem hsl2
            obtain ⟨b2, o2, rfl, hc2⟩ := ints_at (HC.out.bl (below_call HB4.out HBX.out)) hyk
            have htk : worlds.take (k + 1) = worlds.take k ++ [y] := by rw [List.take_add_one, hyk]; rfl
            have HTK := Lib.hid htk
            clear hye hyk htk
            have HALL : Hid (∀ G1 G2 : Bool, (G1 = true ↔ Used active (worlds.take k) x) → (G2 = true ↔ G1 = true ∨ validIn x y = true) → (G2 = true ↔ Used active (worlds.take (k + 1)) x)) := Lib.hid (fun G1 G2 h1 h2 => by
              rw [h2, h1, HTK.out, used_snoc])
            cases G
            · skip
              have s0 : wr.cell? ⟨W3.heap.size, 0, none⟩ = some (.int .i64 x.id) := (cell_of_row _ _ 0 _ _ _ HBLK.out).trans rfl
              have s1 : wr.cell? ⟨W3.heap.size, 1, none⟩ = some (.int .i64 x.meth) := (cell_of_row _ _ 1 _ _ _ HBLK.out).trans rfl
              have s2 : wr.cell? ⟨W3.heap.size, 2, none⟩ = some (.int .i64 x.kind) := (cell_of_row _ _ 2 _ _ _ HBLK.out).trans rfl
              have s3 : wr.cell? ⟨W3.heap.size, 3, none⟩ = some (.string x.name) := (cell_of_row _ _ 3 _ _ _ HBLK.out).trans rfl
              have s4 : wr.cell? ⟨W3.heap.size, 4, none⟩ = some (.int .i64 x.idx) := (cell_of_row _ _ 4 _ _ _ HBLK.out).trans rfl
              have s5 : wr.cell? ⟨W3.heap.size, 5, none⟩ = some (.slice x.aa x.an x.ac) := (cell_of_row _ _ 5 _ _ _ HBLK.out).trans rfl
              have s6 : wr.cell? ⟨W3.heap.size, 6, none⟩ = some (.int .i64 x.frm) := (cell_of_row _ _ 6 _ _ _ HBLK.out).trans rfl
              have s7 : wr.cell? ⟨W3.heap.size, 7, none⟩ = some (.int .i64 x.til) := (cell_of_row _ _ 7 _ _ _ HBLK.out).trans rfl
              have s8 : wr.cell? ⟨W3.heap.size, 8, none⟩ = some (.int .i64 x.par) := (cell_of_row _ _ 8 _ _ _ HBLK.out).trans rfl
              have s9 : wr.cell? ⟨W3.heap.size, 9, none⟩ = some (.int .i64 x.slo) := (cell_of_row _ _ 9 _ _ _ HBLK.out).trans rfl
              have s10 : wr.cell? ⟨W3.heap.size, 10, none⟩ = some (.slice x.ia x.in_ x.ic) := (cell_of_row _ _ 10 _ _ _ HBLK.out).trans rfl
              have s11 : wr.cell? ⟨W3.heap.size, 11, none⟩ = some (.slice x.ea x.en x.ec) := (cell_of_row _ _ 11 _ _ _ HBLK.out).trans rfl
              have s12 : wr.cell? ⟨W3.heap.size, 12, none⟩ = some (.slice x.da x.dn x.dc) := (cell_of_row _ _ 12 _ _ _ HBLK.out).trans rfl
              have s13 : wr.cell? ⟨W3.heap.size, 13, none⟩ = some (.slice x.la x.ln x.lc) := (cell_of_row _ _ 13 _ _ _ HBLK.out).trans rfl
              go_wp2_with fail
              go_region_law ((go_simp; go_at_call 43; (with_reducible refine (validIn_any x y _).mono ?_); rintro e w2 ⟨rfl, hb2⟩; have HB2 : Hid (Below W4.heap.size W4 w2) := Lib.hid (below_call HBX.out (bel_undrew hb2)); clear hb2))
              all_goals go_wp2_with fail
              all_goals
                go_roundg (n2 - (k + 1))
                case measure => have := HQ2.out; omega
                case rel => exact ⟨k + 1, validIn x y, rfl, by simp, by omega, rfl, HALL.out false (validIn x y) (by first | exact HG.out | (simp; done) | simpa using HG.out) (by simp), HB2.out⟩
            · go_wp2_with fail
              go_quiet (fail)
              go_wp2_with fail
              go_roundg (n2 - (k + 1))
              case measure => have := HQ2.out; omega
              case rel => exact ⟨k + 1, true, rfl, by simp, by omega, rfl, HALL.out true true (by first | exact HG.out | (simp; done) | simpa using HG.out) (by simp), below_drewN' HBX.out _⟩
          · obtain rfl : k = n2 := by omega
            have hd : decide ((k : Int) < (k : Int)) = false := by simp
            have hfree : G = true ↔ ¬ Free active worlds x := by
              have h := HG.out
              rw [List.take_of_length_le (by have := HK.out; omega)] at h
              rw [← used_free, Classical.not_not]
              exact h
            have HFREE := Lib.hid hfree
            have s0 : wr.cell? ⟨W3.heap.size, 0, none⟩ = some (.int .i64 x.id) := (cell_of_row _ _ 0 _ _ _ HBLK.out).trans rfl
            clear hfree HG
            cases G
            · go_wp2_with (go_at_call 40; (with_reducible refine (inserted_any _ Z x.id _ (fun b => w.heap.size ≤ b) A3 _ c3 (HRZ4.out.bl HBX.out) HZ.out HPL.out (by have := HZL.out; have := HN.out; omega)).mono ?_); rintro e w2 ⟨A5, c5, Z5, rfl, r1, r0, r2, r3, r4⟩; have HPL5 := Lib.hid r0; clear r0; have HR1 := Lib.hid r1; have HR2 := Lib.hid r2; have HR3 := Lib.hid r3; have HR4 := Lib.hid r4; clear r1 r2 r3 r4)
              go_roundg (n - (j + 1))
              case measure => have := HQ.out; omega
              case rel =>
                have hbw := below_call HB4.out HBX.out
                refine ⟨j + 1, A5, c5, Z5, rfl, by simp, by omega, rfl, HPL5.out, by have := HZL.out; have := HR2.out; omega, HR1.out.mono fun z => ?_, HR3.out.mono (fun b hb _ => hb.elim id (fun h => Nat.le_trans hbw.size h)), below_call hbw HR4.out⟩
                rw [HTJ.out]
                exact freeIds_snoc (by simpa using HFREE.out) z
            · go_wp2_with fail
              go_roundg (n - (j + 1))
              case measure => have := HQ.out; omega
              case rel =>
                refine ⟨j + 1, A3, c3, Z, rfl, by simp, by omega, rfl, HPL.out, by have := HZL.out; omega, HZ.out.mono fun z => ?_, HRZ4.out.bl HBX.out, below_call HB4.out HBX.out⟩
                rw [HTJ.out]
                exact freeIds_skip (by simpa using HFREE.out) z
    · obtain rfl : j = n := by omega
      have hd : decide ((j : Int) < (j : Int)) = false := by simp
      have e : all.take j = all := List.take_of_length_le (by have := HN.out; omega)
      have hz := HZ.out
      rw [e] at hz
      have HZ2 := Lib.hid hz
      clear hz e
      go_wp2_with fail
      go_ret
      exact ⟨A3, c3, Z, rfl, HZ2.out, HRZ.out, HBR.out⟩
end Go.Proofs.Ytadpfhoenjodeaa
