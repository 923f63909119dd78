/- reclaim.Unreachable. -/
import Derived.Test.YtadpfhoenjodeaaCodes
import Derived.Deep.DeepCutAuto
set_option linter.unusedVariables false
set_option linter.unusedSimpArgs false
namespace Go.Proofs.Ytadpfhoenjodeaa
open Go.RowKit Go.Maps

theorem all_snoc (p : Prop) (q : Int → Prop) (l : List Int) (y : Int) : ((p ∧ ∀ z ∈ l, q z) ∧ q y) ↔ (p ∧ ∀ z ∈ l ++ [y], q z) := by
  simp only [List.mem_append, List.mem_singleton]
  constructor
  · rintro ⟨⟨h1, h2⟩, h3⟩
    refine ⟨h1, fun z hz => ?_⟩
    rcases hz with hz | rfl
    · exact h2 z hz
    · exact h3
  · rintro ⟨h1, h2⟩
    exact ⟨⟨h1, fun z hz => h2 z (.inl hz)⟩, h2 y (.inr rfl)⟩
set_option maxRecDepth 100000 in
set_option maxHeartbeats 8000000 in
theorem unreach_any (all : List Cc) (active worlds : List Int) (w : World) (ok ok1 ok2 : Nat → Prop) (A A1 A2 : Option Addr) (n c n1 c1 n2 c2 : Nat) (ha : Rd w ok (.slice A n c) (ccsTr all)) (hb : Rd w ok1 (.slice A1 n1 c1) (intsTr active)) (hc : Rd w ok2 (.slice A2 n2 c2) (intsTr worlds))
    (hwa : ∀ x ∈ active, (Lit.int .i64 x).wf = true) (hwi : ∀ x ∈ all, (Lit.int .i64 x.id).wf = true) (hla : all.length ≤ 100000) (hlb : active.length ≤ 100000) :
    Calls Try.prog 16 #[.slice A n c, .slice A1 n1 c1, .slice A2 n2 c2] w fun e w' => ∃ A c Z, e = .returned (.slice A Z.length c) ∧ (∀ x ∈ Z, (Lit.int .i64 x).wf = true) ∧ Up Z ∧ (∀ x, (Lit.int .i64 x).wf = true → (x ∈ Z ↔ FreeIds all active worlds x)) ∧ Rd w' (fun b => w.heap.size ≤ b) (.slice A Z.length c) (intsTr Z) ∧ Below w.heap.size w w' := by
  have hmm := @run_makeMap Try.prog
  obtain ⟨hn, hn1, hn2⟩ := ccs_len ha
  obtain ⟨hm, hm1, hm2⟩ := ints_len hb
  obtain ⟨hk, hk1, hk2⟩ := ints_len hc
  simp only [maxLen] at hn2 hm2 hk2
  have HA := Lib.hid ha
  have HB := Lib.hid hb
  have HC := Lib.hid hc
  have HN := Lib.hid hn
  have HM := Lib.hid hm
  have HK := Lib.hid hk
  have HWA := Lib.hid hwa
  have HWI := Lib.hid hwi
  clear ha hb hc hn hm hk hwa hwi
  go_enter Try.func16, Try.ntmps16
  go_wp2_with fail
  go_loopg [19] n1 (fun q iv wr => ∃ (i : Nat), iv = .int .i64 (i : Int) ∧ Hid (i ≤ n1 ∧ q = n1 - i ∧ (∃ k, k ≤ i ∧ ST wr w.heap.size k (fun x => x ∈ active.take i)) ∧ Below w.heap.size w wr))
  case atStart => exact ⟨0, rfl, Nat.zero_le _, rfl, ⟨0, Nat.le_refl _, (ST.made w).mono (fun x => by simp)⟩, bel_alloc (Below.refl _ _) _⟩
  case round =>
    obtain ⟨i, rfl, HH⟩ := hrel
    obtain ⟨q1, q2, q3, q4⟩ := HH.out
    have HQ := Lib.hid q2
    have HS := Lib.hid q3
    have HBR := Lib.hid q4
    clear HH q2 q3 q4
    by_cases hlt : i < n1
    · have hi' : (i : Int) < (n1 : Int) := by omega
      have hi0 : (0 : Int) ≤ (i : Int) := by omega
      have hsl : i < active.length := by have := HM.out; omega
      obtain ⟨a, hae⟩ : ∃ a, a = active[i] := ⟨_, rfl⟩
      have hai : active[i]? = some a := by rw [hae]; exact List.getElem?_eq_getElem hsl
      obtain ⟨b, o, rfl, hc0⟩ := ints_at HB.out hai
      have hcell := below_cell HBR.out hc0
      have hwf := HWA.out a (List.mem_of_getElem? hai)
      have hkey := keyOf_int_mk Try.underlying3 hwf
      have htj : active.take (i + 1) = active.take i ++ [a] := by rw [List.take_add_one, hai]; rfl
      have HTJ := Lib.hid htj
      obtain ⟨k, hk, D, hown, hD⟩ := HS.out
      have HD := Lib.hid hD
      have HKK := Lib.hid hk
      have hkk : k < 200000 := by have := HM.out; omega
      clear hae hai htj hD hc0 hk
      go_wp2_with (first
        | (at_mapUpdate; refine wpList_mapUpdate_own _ rfl _ _ _ 85 rfl 3 4 lawI Try.underlying85 (plainElem (H := Unit) Try.prog 4) w.heap.size k D rfl (hown) (by simp only [maxLen]; omega) _ _ _ rfl rfl hkey _ [] (plainElem_bool Try.underlying4 true) ?_; intro w2 hown2 hgrow2)
        | go_in)
      go_roundg (n1 - (i + 1))
      case measure => have := HQ.out; omega
      case rel =>
        have hst := ST.put hwf HD.out (hown.tidy lawI).isMap hown2
        refine ⟨i + 1, by simp, by omega, rfl, ⟨k + 1, by have := HKK.out; omega, hst.mono fun x => ?_⟩, bel_grown HBR.out hgrow2 (fun z hz => by cases hz; exact Nat.le_refl _)⟩
        rw [HTJ.out]; simp
    · obtain rfl : i = n1 := by omega
      have hd : decide ((i : Int) < (i : Int)) = false := by simp
      obtain ⟨W1, rfl⟩ : ∃ W1, W1 = wr := ⟨_, rfl⟩
      have hact : ∃ k, ST W1 w.heap.size k (fun x => x ∈ active) := by
        obtain ⟨k, hk, hst⟩ := HS.out
        have e : active.take i = active := List.take_of_length_le (by have := HM.out; omega)
        rw [e] at hst
        exact ⟨k, hst⟩
      have hlt12 : w.heap.size < W1.heap.size := by
        obtain ⟨k, D, hown, _⟩ := hact
        exact hown.lt
      have HACT := Lib.hid hact
      clear hact HS
      go_wp2_with fail
      go_loopg [29] n (fun q iv wr => ∃ (i : Nat), iv = .int .i64 (i : Int) ∧ Hid (i ≤ n ∧ q = n - i ∧ (∃ k, ST wr w.heap.size k (fun x => x ∈ active)) ∧ (∃ k, k ≤ i ∧ ST wr W1.heap.size k (FreeIds (all.take i) active worlds)) ∧ Below w.heap.size w wr))
      case atStart =>
        obtain ⟨k, hst⟩ := HACT.out
        exact ⟨0, rfl, Nat.zero_le _, rfl, ⟨k, hst.alloc _⟩, ⟨0, Nat.le_refl _, (ST.made W1).mono (fun x => by simp [FreeIds])⟩, bel_alloc HBR.out _⟩
      case round =>
        clear HACT HBR HQ hd
        obtain ⟨j, rfl, HH⟩ := hrel
        obtain ⟨q1', q2, q3, q4, q5⟩ := HH.out
        have HQ := Lib.hid q2
        have HS1 := Lib.hid q3
        have HS2 := Lib.hid q4
        have HBR := Lib.hid q5
        clear HH q2 q3 q4 q5
        by_cases hlt' : j < n
        · have hj' : (j : Int) < (n : Int) := by omega
          have hj0 : (0 : Int) ≤ (j : Int) := by omega
          have hsl : j < all.length := by have := HN.out; omega
          obtain ⟨x, hxe⟩ : ∃ x, x = all[j] := ⟨_, rfl⟩
          have hxj : all[j]? = some x := by rw [hxe]; exact List.getElem?_eq_getElem hsl
          obtain ⟨b, o, rfl, hx⟩ := ccs_cell (HA.out.bl HBR.out) hxj
          have HX := Lib.hid hx
          have hwf := HWI.out x (List.mem_of_getElem? hxj)
          have hkey := keyOf_int_mk Try.underlying3 hwf
          have htj : all.take (j + 1) = all.take j ++ [x] := by rw [List.take_add_one, hxj]; rfl
          have HTJ := Lib.hid htj
          clear hxe hxj htj hx
          have p0 : wr.cell? ⟨b, o + j * 14, none⟩ = some (.int .i64 x.id) := HX.out 0 _ rfl
          have p1 : wr.cell? ⟨b, o + j * 14 + 1, none⟩ = some (.int .i64 x.meth) := HX.out 1 _ rfl
          have p2 : wr.cell? ⟨b, o + j * 14 + 2, none⟩ = some (.int .i64 x.kind) := HX.out 2 _ rfl
          have p3 : wr.cell? ⟨b, o + j * 14 + 3, none⟩ = some (.string x.name) := HX.out 3 _ rfl
          have p4 : wr.cell? ⟨b, o + j * 14 + 4, none⟩ = some (.int .i64 x.idx) := HX.out 4 _ rfl
          have p5 : wr.cell? ⟨b, o + j * 14 + 5, none⟩ = some (.slice x.aa x.an x.ac) := HX.out 5 _ rfl
          have p6 : wr.cell? ⟨b, o + j * 14 + 6, none⟩ = some (.int .i64 x.frm) := HX.out 6 _ rfl
          have p7 : wr.cell? ⟨b, o + j * 14 + 7, none⟩ = some (.int .i64 x.til) := HX.out 7 _ rfl
          have p8 : wr.cell? ⟨b, o + j * 14 + 8, none⟩ = some (.int .i64 x.par) := HX.out 8 _ rfl
          have p9 : wr.cell? ⟨b, o + j * 14 + 9, none⟩ = some (.int .i64 x.slo) := HX.out 9 _ rfl
          have p10 : wr.cell? ⟨b, o + j * 14 + 10, none⟩ = some (.slice x.ia x.in_ x.ic) := HX.out 10 _ rfl
          have p11 : wr.cell? ⟨b, o + j * 14 + 11, none⟩ = some (.slice x.ea x.en x.ec) := HX.out 11 _ rfl
          have p12 : wr.cell? ⟨b, o + j * 14 + 12, none⟩ = some (.slice x.da x.dn x.dc) := HX.out 12 _ rfl
          have p13 : wr.cell? ⟨b, o + j * 14 + 13, none⟩ = some (.slice x.la x.ln x.lc) := HX.out 13 _ rfl
          go_upto_region 11 with fail
          go_cut [13] (fun t13 wx => ∃ F : Bool, t13 = .bool F ∧ Hid (F = true ↔ x.til ≠ 0 ∧ x.id ∉ active) ∧ wx = wr.alloc (.cells #[.int .i64 x.id, .int .i64 x.meth, .int .i64 x.kind, .string x.name, .int .i64 x.idx, .slice x.aa x.an x.ac, .int .i64 x.frm, .int .i64 x.til, .int .i64 x.par, .int .i64 x.slo, .slice x.ia x.in_ x.ic, .slice x.ea x.en x.ec, .slice x.da x.dn x.dc, .slice x.la x.ln x.lc] 65))
          case first =>
            by_cases ht : x.til = 0
            · have htb : (x.til != 0) = false := by simpa using ht
              have htp : ¬ (x.til ≠ 0) := by simpa using ht
              have HTP := Lib.hid htp
              clear ht htp
              go_wp2_with fail
              go_meet
              exact ⟨false, rfl, by simp; intro h; exact absurd h HTP.out, rfl⟩
            · have htb : (x.til != 0) = true := by simpa using ht
              have HTP := Lib.hid ht
              clear ht
              obtain ⟨k, hst⟩ := HS1.out
              obtain ⟨B, hrun, hB⟩ := (hst.alloc (.cells #[.int .i64 x.id, .int .i64 x.meth, .int .i64 x.kind, .string x.name, .int .i64 x.idx, .slice x.aa x.an x.ac, .int .i64 x.frm, .int .i64 x.til, .int .i64 x.par, .int .i64 x.slo, .slice x.ia x.in_ x.ic, .slice x.ea x.en x.ec, .slice x.da x.dn x.dc, .slice x.la x.ln x.lc] 65)).look hwf
              have HBB := Lib.hid hB
              clear hst hB
              go_wp2_with fail
              go_meet
              exact ⟨!B, rfl, by have h1 := HBB.out; have h2 := HTP.out; cases B <;> simp_all, rfl⟩
          case rest =>
            clear p0 p1 p2 p3 p4 p5 p6 p7 p8 p9 p10 p11 p12 p13
            obtain ⟨F, rfl, HF, rfl⟩ := hcut
            obtain ⟨W3, rfl⟩ : ∃ W3, W3 = wr := ⟨_, rfl⟩
            go_wp2_with fail
            go_loopg [13, 45] n2 (fun q fv iv wr => ∃ (k : Nat) (G : Bool), fv = .bool G ∧ iv = .int .i64 (k : Int) ∧ Hid (k ≤ n2 ∧ q = n2 - k ∧ (G = true ↔ (x.til ≠ 0 ∧ x.id ∉ active) ∧ ∀ y ∈ worlds.take k, y < x.frm ∨ x.til ≤ y) ∧ wr = W3.alloc (.cells #[.int .i64 x.id, .int .i64 x.meth, .int .i64 x.kind, .string x.name, .int .i64 x.idx, .slice x.aa x.an x.ac, .int .i64 x.frm, .int .i64 x.til, .int .i64 x.par, .int .i64 x.slo, .slice x.ia x.in_ x.ic, .slice x.ea x.en x.ec, .slice x.da x.dn x.dc, .slice x.la x.ln x.lc] 65)))
            case atStart => exact ⟨0, F, rfl, rfl, Nat.zero_le _, rfl, by simpa using HF.out, rfl⟩
            case round =>
              clear HF
              obtain ⟨k, G, rfl, rfl, HH⟩ := hrel
              obtain ⟨r1, r2, r3, rfl⟩ := HH.out
              have HQ2 := Lib.hid r2
              have HG := Lib.hid r3
              clear HH r2 r3
              by_cases hlt2 : k < n2
              · have hk' : (k : Int) < (n2 : Int) := by omega
                have hk0 : (0 : Int) ≤ (k : Int) := by omega
                have hsl2 : k < worlds.length := by have := HK.out; omega
                obtain ⟨y, hye⟩ : ∃ y, y = worlds[k] := ⟨_, rfl⟩
                have hyk : worlds[k]? = some y := by rw [hye]; exact List.getElem?_eq_getElem hsl2
                obtain ⟨b2, o2, rfl, hc2⟩ := ints_at (HC.out.bl (bel_alloc HBR.out (.cells #[.int .i64 x.id, .int .i64 x.meth, .int .i64 x.kind, .string x.name, .int .i64 x.idx, .slice x.aa x.an x.ac, .int .i64 x.frm, .int .i64 x.til, .int .i64 x.par, .int .i64 x.slo, .slice x.ia x.in_ x.ic, .slice x.ea x.en x.ec, .slice x.da x.dn x.dc, .slice x.la x.ln x.lc] 65))) hyk
                have htk : worlds.take (k + 1) = worlds.take k ++ [y] := by rw [List.take_add_one, hyk]; rfl
                have HTK := Lib.hid htk
                clear hye hyk htk
                have HALL : Hid (∀ G1 G2 : Bool, (G1 = true ↔ (x.til ≠ 0 ∧ x.id ∉ active) ∧ ∀ y ∈ worlds.take k, y < x.frm ∨ x.til ≤ y) → (G2 = true ↔ G1 = true ∧ (y < x.frm ∨ x.til ≤ y)) → (G2 = true ↔ (x.til ≠ 0 ∧ x.id ∉ active) ∧ ∀ y ∈ worlds.take (k + 1), y < x.frm ∨ x.til ≤ y)) := Lib.hid (fun G1 G2 h1 h2 => by
                  rw [h2, h1, HTK.out]
                  exact all_snoc _ (fun y => y < x.frm ∨ x.til ≤ y) _ _)
                cases G
                · skip
                  have HG' : Hid (false = true ↔ false = true ∧ (y < x.frm ∨ x.til ≤ y)) := Lib.hid (by simp)
                  go_wp2_with fail
                  go_roundg (n2 - (k + 1))
                  case measure => have := HQ2.out; omega
                  case rel =>
                    refine ⟨k + 1, false, rfl, by simp, by omega, rfl, ?_, rfl⟩
                    exact HALL.out false false (by first | exact HG.out | (simp; done) | simpa using HG.out) (by first | exact HG'.out | (simp; done) | simpa using HG'.out)
                · by_cases h1 : y < x.frm
                  · have h1b : decide (y < x.frm) = true := by simpa using h1
                    have HG' : Hid (true = true ↔ true = true ∧ (y < x.frm ∨ x.til ≤ y)) := Lib.hid (by simp [h1])
                    go_wp2_with fail
                    go_roundg (n2 - (k + 1))
                    case measure => have := HQ2.out; omega
                    case rel =>
                      refine ⟨k + 1, true, rfl, by simp, by omega, rfl, ?_, rfl⟩
                      exact HALL.out true true (by first | exact HG.out | (simp; done) | simpa using HG.out) (by first | exact HG'.out | (simp; done) | simpa using HG'.out)
                  · have h1b : decide (y < x.frm) = false := by simpa using h1
                    by_cases h2 : x.til ≤ y
                    · have h2b : decide (x.til ≤ y) = true := by simpa using h2
                      have HG' : Hid (true = true ↔ true = true ∧ (y < x.frm ∨ x.til ≤ y)) := Lib.hid (by simp [h2])
                      go_wp2_with fail
                      go_roundg (n2 - (k + 1))
                      case measure => have := HQ2.out; omega
                      case rel =>
                        refine ⟨k + 1, true, rfl, by simp, by omega, rfl, ?_, rfl⟩
                        exact HALL.out true true (by first | exact HG.out | (simp; done) | simpa using HG.out) (by first | exact HG'.out | (simp; done) | simpa using HG'.out)
                    · have h2b : decide (x.til ≤ y) = false := by simpa using h2
                      have HG' : Hid (false = true ↔ true = true ∧ (y < x.frm ∨ x.til ≤ y)) := Lib.hid (by simp; omega)
                      go_wp2_with fail
                      go_roundg (n2 - (k + 1))
                      case measure => have := HQ2.out; omega
                      case rel =>
                        refine ⟨k + 1, false, rfl, by simp, by omega, rfl, ?_, rfl⟩
                        exact HALL.out true false (by first | exact HG.out | (simp; done) | simpa using HG.out) (by first | exact HG'.out | (simp; done) | simpa using HG'.out)
              · obtain rfl : k = n2 := by omega
                have hd : decide ((k : Int) < (k : Int)) = false := by simp
                have hfree : G = true ↔ Free active worlds x := by
                  have h := HG.out
                  rw [List.take_of_length_le (by have := HK.out; omega)] at h
                  rw [h, and_assoc]
                  exact Iff.rfl
                have HFREE := Lib.hid hfree
                clear hfree HG
                obtain ⟨k2, hk2, D, hown, hD⟩ := HS2.out
                have HD := Lib.hid hD
                have HK2 := Lib.hid hk2
                have hkk : k2 < 200000 := by have := HN.out; omega
                clear hD hk2
                cases G
                · go_wp2_with fail
                  go_roundg (n - (j + 1))
                  case measure => have := HQ.out; omega
                  case rel =>
                    obtain ⟨k3, hst3⟩ := HS1.out
                    have hst2 : ST W3 W1.heap.size k2 (FreeIds (all.take j) active worlds) := ⟨D, hown, HD.out⟩
                    refine ⟨j + 1, by simp, by omega, rfl, ⟨k3, hst3.alloc _⟩, ⟨k2, by have := HK2.out; omega, (hst2.alloc _).mono fun z => ?_⟩, bel_alloc HBR.out _⟩
                    rw [HTJ.out]
                    exact freeIds_skip (by simpa using HFREE.out) z
                · go_wp2_with (first
                    | (at_mapUpdate; refine wpList_mapUpdate_own _ rfl _ _ _ 85 rfl 3 4 lawI Try.underlying85 (plainElem (H := Unit) Try.prog 4) W1.heap.size k2 D rfl (hown.alloc _) (by simp only [maxLen]; omega) _ _ _ rfl rfl hkey _ [] (plainElem_bool Try.underlying4 true) ?_; intro w2 hown2 hgrow2)
                    | go_in)
                  go_roundg (n - (j + 1))
                  case measure => have := HQ.out; omega
                  case rel =>
                    obtain ⟨k3, hst3⟩ := HS1.out
                    have hst := ST.put hwf HD.out (hown.tidy lawI).isMap hown2
                    refine ⟨j + 1, by simp, by omega, rfl, ⟨k3, (hst3.alloc _).kept hgrow2 (by intro e; injection e with e; omega)⟩, ⟨k2 + 1, by have := HK2.out; omega, hst.mono fun z => ?_⟩, bel_grown (bel_alloc HBR.out _) hgrow2 (fun z hz => by cases hz; omega)⟩
                    rw [HTJ.out]
                    exact freeIds_snoc (by simpa using HFREE.out) z
        · obtain rfl : j = n := by omega
          have hd : decide ((j : Int) < (j : Int)) = false := by simp
          obtain ⟨k, hk, hst⟩ := HS2.out
          have e : all.take j = all := List.take_of_length_le (by have := HN.out; omega)
          rw [e] at hst
          have hkk : k ≤ 200000 := by have := HN.out; omega
          go_wp2_with (go_at_call 41; (with_reducible refine (sorted_any _ _ _ _ hst (by omega)).mono ?_); rintro e w2 ⟨A2, c2, Z, rfl, h1, h2, h3, h4, h5⟩; have HB2 := Lib.hid (below_call HBR.out h5); have HZ := Lib.hid (And.intro h1 (And.intro h2 h3)); have HRZ := Lib.hid h4; clear h1 h2 h3 h4 h5)
          go_ret
          exact ⟨A2, c2, Z, rfl, HZ.out.1, HZ.out.2.1, HZ.out.2.2, HRZ.out.mono (fun b hb _ => Nat.le_trans HBR.out.size hb), HB2.out⟩
end Go.Proofs.Ytadpfhoenjodeaa
