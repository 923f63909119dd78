/- telref31.LiveWorlds, ActiveCodes. -/
import Derived.Test.YtadpfhoenjodeaaFrames
import Derived.Test.YtadpfhoenjodeaaIns
set_option linter.unusedVariables false
set_option linter.unusedSimpArgs false
namespace Go.Proofs.Ytadpfhoenjodeaa
open Go.RowKit

set_option maxRecDepth 100000 in
set_option maxHeartbeats 8000000 in
theorem liveRef_any (newest : Int) (s : List (List Fr)) (w : World) (ok : Nat → Prop) (A : Option Addr) (n c : Nat) (hl : s.flatten.length ≤ 500000) (hr : Rd w ok (.slice A n c) (stTr s)) :
    Calls Try.prog 11 #[.int .i64 newest, .slice A n c] w fun e w' => ∃ A' c' Z, e = .returned (.slice A' Z.length c') ∧ Z.length ≤ 1 + s.flatten.length ∧ Lists (fun x => x = newest ∨ ∃ f ∈ s.flatten, f.world = x) Z ∧ Rd w' (fun b => w.heap.size ≤ b) (.slice A' Z.length c') (intsTr Z) ∧ Below w.heap.size w w' := by
  obtain ⟨hn, hn1, hn2⟩ := st_len hr
  simp only [maxLen] at hn2
  have HR := Lib.hid hr
  have HN := Lib.hid hn
  clear hr hn
  go_enter Try.func11, Try.ntmps11
  go_wp2_with fail
  go_loopg [5, 6] n (fun q lv iv wr => ∃ (i : Nat) (A' : Option Addr) (c' : Nat) (Z : List Int), lv = .slice A' Z.length c' ∧ iv = .int .i64 (i : Int) ∧ Hid (i ≤ n ∧ q = n - i ∧ PlainA A' ∧ Z.length ≤ 1 + ((s.take i).flatten).length ∧ Lists (fun x => x = newest ∨ ∃ f ∈ (s.take i).flatten, f.world = x) Z ∧ Rd wr (fun b => w.heap.size ≤ b) (.slice A' Z.length c') (intsTr Z) ∧ Below w.heap.size w wr))
  case atStart => exact ⟨0, some ⟨w.heap.size, 0, none⟩, 1, [newest], rfl, rfl, Nat.zero_le _, rfl, plain_some _ _, by simp, (Lists.one newest).mono (fun x => by simp), one_rd (by simp) (blk_new w _), bel_alloc (Below.refl _ _) _⟩
  case round =>
    obtain ⟨i, A1, c1, Z1, rfl, rfl, HH⟩ := hrel
    obtain ⟨q1, q2, q0, q3, q4, q5, q6⟩ := HH.out
    have HPL1 := Lib.hid q0
    clear q0
    have HQ := Lib.hid q2
    have HZL := Lib.hid q3
    have HL := Lib.hid q4
    have HRZ := Lib.hid q5
    have HBR0 := Lib.hid q6
    clear HH q2 q3 q4 q5 q6
    by_cases hlt : i < n
    · have hi' : (i : Int) < (n : Int) := by omega
      have hi0 : (0 : Int) ≤ (i : Int) := by omega
      have hsl : i < s.length := by have := HN.out; omega
      obtain ⟨l, hle⟩ : ∃ l, l = s[i] := ⟨_, rfl⟩
      have hsi : s[i]? = some l := by rw [hle]; exact List.getElem?_eq_getElem hsl
      obtain ⟨b, o, A', n', c', rfl, hc0, hrl⟩ := st_at HR.out hsi
      obtain ⟨hn', hn1', hn2'⟩ := frs_len hrl
      simp only [maxLen] at hn2'
      have htk : (s.take (i + 1)).flatten = (s.take i).flatten ++ l := by rw [List.take_add_one, hsi]; simp
      have htl : ((s.take i).flatten ++ l).length ≤ 500000 := by
        rw [← htk]
        refine Nat.le_trans ?_ hl
        have h9 := congrArg (fun z => z.flatten.length) (List.take_append_drop (i + 1) s)
        simp only [List.flatten_append, List.length_append] at h9
        omega
      have HTK := Lib.hid htk
      have HRL := Lib.hid hrl
      have HSI := Lib.hid hsi
      have HN' := Lib.hid hn'
      have HTL := Lib.hid htl
      have HC0 := Lib.hid hc0
      clear hle hsi hrl hn' htk htl hc0
      go_wp2_with fail
      go_loopg [5, 7] n' (fun q lv jv wr => ∃ (j : Nat) (A2 : Option Addr) (c2 : Nat) (Z2 : List Int), lv = .slice A2 Z2.length c2 ∧ jv = .int .i64 (j : Int) ∧ Hid (j ≤ n' ∧ q = n' - j ∧ PlainA A2 ∧ Z2.length ≤ 1 + ((s.take i).flatten ++ l.take j).length ∧ Lists (fun x => x = newest ∨ ∃ f ∈ (s.take i).flatten ++ l.take j, f.world = x) Z2 ∧ Rd wr (fun b => w.heap.size ≤ b) (.slice A2 Z2.length c2) (intsTr Z2) ∧ Below w.heap.size w wr))
      case atStart => exact ⟨0, A1, c1, Z1, rfl, rfl, Nat.zero_le _, rfl, HPL1.out, by simpa using HZL.out, HL.out.mono (fun x => by simp), HRZ.out, HBR0.out⟩
      case round =>
        clear HBR0 HZL HL HRZ
        obtain ⟨j, A2, c2, Z2, rfl, rfl, HH⟩ := hrel
        obtain ⟨q1', q2, q0, q3, q4, q5, q6⟩ := HH.out
        have HPL2 := Lib.hid q0
        clear q0
        have HQ' := Lib.hid q2
        have HZL2 := Lib.hid q3
        have HL2 := Lib.hid q4
        have HRZ2 := Lib.hid q5
        have HBR := Lib.hid q6
        have hcell := below_cell q6 HC0.out
        clear HH q2 q3 q4 q5 q6
        by_cases hlt' : j < n'
        · have hj' : (j : Int) < (n' : Int) := by omega
          have hj0 : (0 : Int) ≤ (j : Int) := by omega
          have hjl : j < l.length := by have := HN'.out; omega
          obtain ⟨f, hfe⟩ : ∃ f, f = l[j] := ⟨_, rfl⟩
          have hfj : l[j]? = some f := by rw [hfe]; exact List.getElem?_eq_getElem hjl
          obtain ⟨b2, o2, rfl, p0, p1, p2, p3, p4⟩ := frs_at (HRL.out.bl HBR.out) hfj
          have htj : l.take (j + 1) = l.take j ++ [f] := by rw [List.take_add_one, hfj]; rfl
          have HTJ := Lib.hid htj
          clear hfe hfj htj p1 p3 p4
          go_wp2_with (go_at_call 40; (with_reducible refine (inserted_any _ Z2 f.world _ (fun b => w.heap.size ≤ b) A2 _ c2 HRZ2.out HL2.out HPL2.out (by have := HZL2.out; have := HTL.out; have : (l.take j).length ≤ l.length := (by rw [List.length_take]; omega); simp only [List.length_append] at *; omega)).mono ?_); rintro e w2 ⟨A3, c3, Z3, rfl, r1, r0, r2, r3, r4⟩; have HPL3 := Lib.hid r0; clear r0; have HR1 := Lib.hid r1; have HR2 := Lib.hid r2; have HR3 := Lib.hid r3; have HR4 := Lib.hid r4; clear r1 r2 r3 r4)
          go_roundg (n' - (j + 1))
          case measure => have := HQ'.out; omega
          case rel =>
            refine ⟨j + 1, A3, c3, Z3, rfl, by simp, by omega, rfl, HPL3.out, ?_, ?_, HR3.out.mono (fun b hb _ => hb.elim id (fun h => Nat.le_trans HBR.out.size h)), below_call HBR.out HR4.out⟩
            · have h1 := HR2.out; have h2 := HZL2.out; rw [HTJ.out]; simp only [List.length_append, List.length_singleton] at *; omega
            · refine HR1.out.mono fun x => ?_
              rw [HTJ.out]; simp only [List.mem_append, List.mem_singleton]
              constructor
              · rintro (h | h)
                · rcases h with h | ⟨g, hg, e⟩
                  · exact .inl h
                  · exact .inr ⟨g, hg.elim .inl (fun h => .inr (.inl h)), e⟩
                · exact .inr ⟨f, .inr (.inr rfl), h.symm⟩
              · rintro (h | ⟨g, hg | hg | rfl, e⟩)
                · exact .inl (.inl h)
                · exact .inl (.inr ⟨g, .inl hg, e⟩)
                · exact .inl (.inr ⟨g, .inr hg, e⟩)
                · exact .inr e.symm
        · obtain rfl : j = n' := by omega
          have hd : decide ((j : Int) < (j : Int)) = false := by simp
          go_wp2_with fail
          go_roundg (n - (i + 1))
          case measure => have := HQ.out; omega
          case rel =>
            have e : l.take j = l := List.take_of_length_le (by have := HN'.out; omega)
            have hk := HZL2.out
            have hst := HL2.out
            rw [e, ← HTK.out] at hk hst
            exact ⟨i + 1, A2, c2, Z2, rfl, by simp, by omega, rfl, HPL2.out, hk, hst, HRZ2.out, HBR.out⟩
    · obtain rfl : i = n := by omega
      have hd : decide ((i : Int) < (i : Int)) = false := by simp
      have e : s.take i = s := List.take_of_length_le (by have := HN.out; omega)
      have hk := HZL.out
      have hst := HL.out
      rw [e] at hk hst
      have HK := Lib.hid hk
      have HST := Lib.hid hst
      clear hk hst e
      go_wp2_with fail
      go_ret
      exact ⟨A1, c1, Z1, rfl, HK.out, HST.out, HRZ.out, HBR0.out⟩
set_option maxRecDepth 100000 in
set_option maxHeartbeats 8000000 in
theorem activeRef_any (s : List (List Fr)) (w : World) (ok : Nat → Prop) (A : Option Addr) (n c : Nat) (hl : s.flatten.length ≤ 500000) (hr : Rd w ok (.slice A n c) (stTr s)) :
    Calls Try.prog 12 #[.slice A n c] w fun e w' => ∃ A' c' Z, e = .returned (.slice A' Z.length c') ∧ Z.length ≤ 1 + s.flatten.length ∧ Lists (fun x => ∃ f ∈ s.flatten, 0 < f.code ∧ f.code = x) Z ∧ Rd w' (fun b => w.heap.size ≤ b) (.slice A' Z.length c') (intsTr Z) ∧ Below w.heap.size w w' := by
  obtain ⟨hn, hn1, hn2⟩ := st_len hr
  simp only [maxLen] at hn2
  have HR := Lib.hid hr
  have HN := Lib.hid hn
  clear hr hn
  go_enter Try.func12, Try.ntmps12
  go_wp2_with fail
  go_loopg [3, 4] n (fun q lv iv wr => ∃ (i : Nat) (A' : Option Addr) (c' : Nat) (Z : List Int), lv = .slice A' Z.length c' ∧ iv = .int .i64 (i : Int) ∧ Hid (i ≤ n ∧ q = n - i ∧ PlainA A' ∧ Z.length ≤ 1 + ((s.take i).flatten).length ∧ Lists (fun x => ∃ f ∈ (s.take i).flatten, 0 < f.code ∧ f.code = x) Z ∧ Rd wr (fun b => w.heap.size ≤ b) (.slice A' Z.length c') (intsTr Z) ∧ Below w.heap.size w wr))
  case atStart => exact ⟨0, none, 0, [], rfl, rfl, Nat.zero_le _, rfl, plain_none, by simp, Lists.nil.mono (fun x => by simp), .nil _ _, Below.refl _ _⟩
  case round =>
    obtain ⟨i, A1, c1, Z1, rfl, rfl, HH⟩ := hrel
    obtain ⟨q1, q2, q0, q3, q4, q5, q6⟩ := HH.out
    have HPL1 := Lib.hid q0
    clear q0
    have HQ := Lib.hid q2
    have HZL := Lib.hid q3
    have HL := Lib.hid q4
    have HRZ := Lib.hid q5
    have HBR0 := Lib.hid q6
    clear HH q2 q3 q4 q5 q6
    by_cases hlt : i < n
    · have hi' : (i : Int) < (n : Int) := by omega
      have hi0 : (0 : Int) ≤ (i : Int) := by omega
      have hsl : i < s.length := by have := HN.out; omega
      obtain ⟨l, hle⟩ : ∃ l, l = s[i] := ⟨_, rfl⟩
      have hsi : s[i]? = some l := by rw [hle]; exact List.getElem?_eq_getElem hsl
      obtain ⟨b, o, A', n', c', rfl, hc0, hrl⟩ := st_at HR.out hsi
      obtain ⟨hn', hn1', hn2'⟩ := frs_len hrl
      simp only [maxLen] at hn2'
      have htk : (s.take (i + 1)).flatten = (s.take i).flatten ++ l := by rw [List.take_add_one, hsi]; simp
      have htl : ((s.take i).flatten ++ l).length ≤ 500000 := by
        rw [← htk]
        refine Nat.le_trans ?_ hl
        have h9 := congrArg (fun z => z.flatten.length) (List.take_append_drop (i + 1) s)
        simp only [List.flatten_append, List.length_append] at h9
        omega
      have HTK := Lib.hid htk
      have HRL := Lib.hid hrl
      have HSI := Lib.hid hsi
      have HN' := Lib.hid hn'
      have HTL := Lib.hid htl
      have HC0 := Lib.hid hc0
      clear hle hsi hrl hn' htk htl hc0
      go_wp2_with fail
      go_loopg [3, 5] n' (fun q lv jv wr => ∃ (j : Nat) (A2 : Option Addr) (c2 : Nat) (Z2 : List Int), lv = .slice A2 Z2.length c2 ∧ jv = .int .i64 (j : Int) ∧ Hid (j ≤ n' ∧ q = n' - j ∧ PlainA A2 ∧ Z2.length ≤ 1 + ((s.take i).flatten ++ l.take j).length ∧ Lists (fun x => ∃ f ∈ (s.take i).flatten ++ l.take j, 0 < f.code ∧ f.code = x) Z2 ∧ Rd wr (fun b => w.heap.size ≤ b) (.slice A2 Z2.length c2) (intsTr Z2) ∧ Below w.heap.size w wr))
      case atStart => exact ⟨0, A1, c1, Z1, rfl, rfl, Nat.zero_le _, rfl, HPL1.out, by simpa using HZL.out, HL.out.mono (fun x => by simp), HRZ.out, HBR0.out⟩
      case round =>
        clear HBR0 HZL HL HRZ
        obtain ⟨j, A2, c2, Z2, rfl, rfl, HH⟩ := hrel
        obtain ⟨q1', q2, q0, q3, q4, q5, q6⟩ := HH.out
        have HPL2 := Lib.hid q0
        clear q0
        have HQ' := Lib.hid q2
        have HZL2 := Lib.hid q3
        have HL2 := Lib.hid q4
        have HRZ2 := Lib.hid q5
        have HBR := Lib.hid q6
        have hcell := below_cell q6 HC0.out
        clear HH q2 q3 q4 q5 q6
        by_cases hlt' : j < n'
        · have hj' : (j : Int) < (n' : Int) := by omega
          have hj0 : (0 : Int) ≤ (j : Int) := by omega
          have hjl : j < l.length := by have := HN'.out; omega
          obtain ⟨f, hfe⟩ : ∃ f, f = l[j] := ⟨_, rfl⟩
          have hfj : l[j]? = some f := by rw [hfe]; exact List.getElem?_eq_getElem hjl
          obtain ⟨b2, o2, rfl, p0, p1, p2, p3, p4⟩ := frs_at (HRL.out.bl HBR.out) hfj
          have htj : l.take (j + 1) = l.take j ++ [f] := by rw [List.take_add_one, hfj]; rfl
          have HTJ := Lib.hid htj
          clear hfe hfj htj p1 p3 p4
          by_cases hpos : 0 < f.code
          · have HPOS := Lib.hid hpos
            go_wp2_with (go_at_call 40; (with_reducible refine (inserted_any _ Z2 f.code _ (fun b => w.heap.size ≤ b) A2 _ c2 HRZ2.out HL2.out HPL2.out (by have := HZL2.out; have := HTL.out; have : (l.take j).length ≤ l.length := (by rw [List.length_take]; omega); simp only [List.length_append] at *; omega)).mono ?_); rintro e w2 ⟨A3, c3, Z3, rfl, r1, r0, r2, r3, r4⟩; have HPL3 := Lib.hid r0; clear r0; have HR1 := Lib.hid r1; have HR2 := Lib.hid r2; have HR3 := Lib.hid r3; have HR4 := Lib.hid r4; clear r1 r2 r3 r4)
            go_roundg (n' - (j + 1))
            case measure => have := HQ'.out; omega
            case rel =>
              refine ⟨j + 1, A3, c3, Z3, rfl, by simp, by omega, rfl, HPL3.out, ?_, ?_, HR3.out.mono (fun b hb _ => hb.elim id (fun h => Nat.le_trans HBR.out.size h)), below_call HBR.out HR4.out⟩
              · have h1 := HR2.out; have h2 := HZL2.out; rw [HTJ.out]; simp only [List.length_append, List.length_singleton] at *; omega
              · refine HR1.out.mono fun x => ?_
                rw [HTJ.out]; simp only [List.mem_append, List.mem_singleton]
                constructor
                · rintro (⟨g, hg, e⟩ | h)
                  · exact ⟨g, hg.elim .inl (fun h => .inr (.inl h)), e⟩
                  · exact ⟨f, .inr (.inr rfl), HPOS.out, h.symm⟩
                · rintro ⟨g, hg | hg | rfl, e⟩
                  · exact .inl ⟨g, .inl hg, e⟩
                  · exact .inl ⟨g, .inr hg, e⟩
                  · exact .inr e.2.symm
          · have hpos2 : f.code ≤ 0 := by omega
            have HPOS := Lib.hid hpos
            clear hpos
            go_wp2_with fail
            go_roundg (n' - (j + 1))
            case measure => have := HQ'.out; omega
            case rel =>
              refine ⟨j + 1, A2, c2, Z2, rfl, by simp, by omega, rfl, HPL2.out, ?_, ?_, HRZ2.out, HBR.out⟩
              · have h2 := HZL2.out; rw [HTJ.out]; simp only [List.length_append, List.length_singleton] at *; omega
              · refine HL2.out.mono fun x => ?_
                rw [HTJ.out]; simp only [List.mem_append, List.mem_singleton]
                constructor
                · rintro ⟨g, hg, e⟩
                  exact ⟨g, hg.elim .inl (fun h => .inr (.inl h)), e⟩
                · rintro ⟨g, hg | hg | rfl, e⟩
                  · exact ⟨g, .inl hg, e⟩
                  · exact ⟨g, .inr hg, e⟩
                  · exact absurd e.1 (by have := HPOS.out; omega)
        · obtain rfl : j = n' := by omega
          have hd : decide ((j : Int) < (j : Int)) = false := by simp
          go_wp2_with fail
          go_roundg (n - (i + 1))
          case measure => have := HQ.out; omega
          case rel =>
            have e : l.take j = l := List.take_of_length_le (by have := HN'.out; omega)
            have hk := HZL2.out
            have hst := HL2.out
            rw [e, ← HTK.out] at hk hst
            exact ⟨i + 1, A2, c2, Z2, rfl, by simp, by omega, rfl, HPL2.out, hk, hst, HRZ2.out, HBR.out⟩
    · obtain rfl : i = n := by omega
      have hd : decide ((i : Int) < (i : Int)) = false := by simp
      have e : s.take i = s := List.take_of_length_le (by have := HN.out; omega)
      have hk := HZL.out
      have hst := HL.out
      rw [e] at hk hst
      have HK := Lib.hid hk
      have HST := Lib.hid hst
      clear hk hst e
      go_wp2_with fail
      go_ret
      exact ⟨A1, c1, Z1, rfl, HK.out, HST.out, HRZ.out, HBR0.out⟩
end Go.Proofs.Ytadpfhoenjodeaa
