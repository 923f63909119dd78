/- reclaim.ActiveCodes. -/
import Derived.Test.YtadpfhoenjodeaaFrames
set_option linter.unusedVariables false
set_option linter.unusedSimpArgs false
namespace Go.Proofs.Ytadpfhoenjodeaa
open Go.RowKit Go.Maps

set_option maxRecDepth 100000 in
set_option maxHeartbeats 8000000 in
theorem activeCodes_any (s : List (List Fr)) (w : World) (ok : Nat → Prop) (A : Option Addr) (n c : Nat) (hf : ∀ l ∈ s, ∀ f ∈ l, (Lit.int .i64 f.code).wf = true) (hl : s.flatten.length ≤ 500000)
    (hr : Rd w ok (.slice A n c) (stTr s)) :
    Calls Try.prog 15 #[.slice A n c] w fun e w' => ∃ A c Z, e = .returned (.slice A Z.length c) ∧ (∀ x ∈ Z, (Lit.int .i64 x).wf = true) ∧ Up Z ∧ (∀ x, (Lit.int .i64 x).wf = true → (x ∈ Z ↔ ∃ f ∈ s.flatten, 0 < f.code ∧ f.code = x)) ∧ Rd w' (fun b => w.heap.size ≤ b) (.slice A Z.length c) (intsTr Z) ∧ Below w.heap.size w w' := by
  have hst1 : ST (w.alloc (.map #[] 0)) w.heap.size 0 (fun _ => False) := ST.made w
  have hb1 : Below w.heap.size w (w.alloc (.map #[] 0)) := (Below.refl _ _).alloc (Nat.le_refl _) _
  have hmm := @run_makeMap Try.prog
  obtain ⟨hn, hn1, hn2⟩ := st_len hr
  simp only [maxLen] at hn2
  have HR := Lib.hid hr
  have HF := Lib.hid hf
  have HN := Lib.hid hn
  have HST := Lib.hid hst1
  have HB1 := Lib.hid hb1
  clear hr hf hn hst1 hb1
  go_enter Try.func15, Try.ntmps15
  go_wp2_with fail
  go_loopg [11] n (fun q iv wr => ∃ (i : Nat), iv = .int .i64 (i : Int) ∧ Hid (i ≤ n ∧ q = n - i ∧ (∃ k, k ≤ 1 + (s.take i).flatten.length ∧ ST wr w.heap.size k (fun x => ∃ f ∈ (s.take i).flatten, 0 < f.code ∧ f.code = x)) ∧ Below w.heap.size w wr))
  case atStart => exact ⟨0, rfl, Nat.zero_le _, rfl, ⟨0, by simp, HST.out.mono (fun x => by simp)⟩, HB1.out⟩
  case round =>
    obtain ⟨i, rfl, HH⟩ := hrel
    obtain ⟨q1, q2, q3, q4⟩ := HH.out
    have HQ := Lib.hid q2
    have HS := Lib.hid q3
    have HBR := Lib.hid q4
    clear HH q2 q3 q4
    by_cases hlt : i < n
    · have hi' : (i : Int) < (n : Int) := by omega
      have hi0 : (0 : Int) ≤ (i : Int) := by omega
      have hsl : i < s.length := by have := HN.out; omega
      obtain ⟨l, hle⟩ : ∃ l, l = s[i] := ⟨_, rfl⟩
      have hsi : s[i]? = some l := by rw [hle]; exact List.getElem?_eq_getElem hsl
      obtain ⟨b, o, A', n', c', rfl, hc0, hrl⟩ := st_at HR.out hsi
      have hcell := below_cell HBR.out hc0
      obtain ⟨hn', hn1', hn2'⟩ := frs_len hrl
      simp only [maxLen] at hn2'
      have htk : (s.take (i + 1)).flatten = (s.take i).flatten ++ l := by rw [List.take_add_one, hsi]; simp
      have htl : ((s.take i).flatten ++ l).length ≤ 500000 := by
        rw [← htk]
        refine Nat.le_trans ?_ hl
        have h9 := congrArg (fun z => z.flatten.length) (List.take_append_drop (i + 1) s)
        simp only [List.flatten_append, List.length_append] at h9
        omega
      have HTK := Lib.hid htk
      have HRL := Lib.hid hrl
      have HSI := Lib.hid hsi
      have HN' := Lib.hid hn'
      have HTL := Lib.hid htl
      clear hle hsi hrl hn' htk htl hc0
      go_wp2_with fail
      go_loopg [17] n' (fun q jv wr => ∃ (j : Nat), jv = .int .i64 (j : Int) ∧ Hid (j ≤ n' ∧ q = n' - j ∧ (∃ k, k ≤ 1 + ((s.take i).flatten ++ l.take j).length ∧ ST wr w.heap.size k (fun x => ∃ f ∈ (s.take i).flatten ++ l.take j, 0 < f.code ∧ f.code = x)) ∧ Below w.heap.size w wr))
      case atStart =>
        obtain ⟨k, hk, hst⟩ := HS.out
        exact ⟨0, rfl, Nat.zero_le _, rfl, ⟨k, by simpa using hk, hst.mono (fun x => by simp)⟩, HBR.out⟩
      case round =>
        clear HBR HS hcell
        obtain ⟨j, rfl, HH⟩ := hrel
        obtain ⟨q1', q2, q3, q4⟩ := HH.out
        have HQ' := Lib.hid q2
        have HS := Lib.hid q3
        have HBR := Lib.hid q4
        clear HH q2 q3 q4
        by_cases hlt' : j < n'
        · have hj' : (j : Int) < (n' : Int) := by omega
          have hj0 : (0 : Int) ≤ (j : Int) := by omega
          have hjl : j < l.length := by have := HN'.out; omega
          obtain ⟨f, hfe⟩ : ∃ f, f = l[j] := ⟨_, rfl⟩
          have hfj : l[j]? = some f := by rw [hfe]; exact List.getElem?_eq_getElem hjl
          obtain ⟨b2, o2, rfl, p0, p1, p2, p3, p4⟩ := frs_at (HRL.out.bl HBR.out) hfj
          have hwf : (Lit.int .i64 f.code).wf = true := HF.out l (List.mem_of_getElem? HSI.out) f (List.mem_of_getElem? hfj)
          have htj : l.take (j + 1) = l.take j ++ [f] := by rw [List.take_add_one, hfj]; rfl
          have HTJ := Lib.hid htj
          obtain ⟨k, hk, D, hown, hD⟩ := HS.out
          have hkk : k ≤ 600000 := by
            have h1 := HTL.out
            have h2 : (l.take j).length ≤ l.length := by rw [List.length_take]; omega
            simp at h1 hk
            omega
          have HD := Lib.hid hD
          have HK := Lib.hid hk
          have hkey := keyOf_int_mk Try.underlying3 hwf
          clear hfe hfj htj hD hk
          by_cases hpos : 0 < f.code
          · have hposI : (0 : Int) < f.code := hpos
            have HPOS := Lib.hid hpos
            go_wp2_with (first
              | (at_mapUpdate; refine wpList_mapUpdate_own _ rfl _ _ _ 85 rfl 3 4 lawI Try.underlying85 (plainElem (H := Unit) Try.prog 4) w.heap.size k D rfl (hown.alloc _) (by simp only [maxLen]; omega) _ _ _ rfl rfl hkey _ [] (plainElem_bool Try.underlying4 true) ?_; intro w2 hown2 hgrow2)
              | go_in)
            go_roundg (n' - (j + 1))
            case measure => have := HQ'.out; omega
            case rel =>
              have hst := ST.put hwf HD.out (hown.tidy lawI).isMap hown2
              refine ⟨j + 1, by simp, by omega, rfl, ⟨k + 1, ?_, hst.mono fun x => ?_⟩, (HBR.out.alloc HBR.out.size _).grown hgrow2 (by have := HBR.out.size; simp; omega) (fun z hz => by cases hz; exact Nat.le_refl _)⟩
              · have := HK.out; rw [HTJ.out]; simp at this ⊢; omega
              · rw [HTJ.out]; simp only [List.mem_append, List.mem_singleton]
                constructor
                · rintro (⟨g, hg, e⟩ | h)
                  · exact ⟨g, hg.elim .inl (fun h => .inr (.inl h)), e⟩
                  · exact ⟨f, .inr (.inr rfl), HPOS.out, h.symm⟩
                · rintro ⟨g, hg | hg | rfl, e⟩
                  · exact .inl ⟨g, .inl hg, e⟩
                  · exact .inl ⟨g, .inr hg, e⟩
                  · exact .inr e.2.symm
          · have hposI : ¬ (0 : Int) < f.code := hpos
            have HPOS := Lib.hid hpos
            clear hpos
            go_wp2_with fail
            go_roundg (n' - (j + 1))
            case measure => have := HQ'.out; omega
            case rel =>
              have hst : ST (wr.alloc (.cells #[.int .i64 f.code, .int .i64 f.meth, .int .i64 f.world, .int .i64 f.pc, .slice f.sa f.sn f.sc] 43)) w.heap.size k (fun x => ∃ f ∈ (s.take i).flatten ++ l.take j, 0 < f.code ∧ f.code = x) := ⟨D, hown.alloc _, HD.out⟩
              refine ⟨j + 1, by simp, by omega, rfl, ⟨k, ?_, hst.mono fun x => ?_⟩, HBR.out.alloc HBR.out.size _⟩
              · have := HK.out; rw [HTJ.out]; simp at this ⊢; omega
              · rw [HTJ.out]; simp only [List.mem_append, List.mem_singleton]
                constructor
                · rintro ⟨g, hg, e⟩
                  exact ⟨g, hg.elim .inl (fun h => .inr (.inl h)), e⟩
                · rintro ⟨g, hg | hg | rfl, e⟩
                  · exact ⟨g, .inl hg, e⟩
                  · exact ⟨g, .inr hg, e⟩
                  · exact absurd e.1 (by have := HPOS.out; omega)
        · obtain rfl : j = n' := by omega
          have hd : decide ((j : Int) < (j : Int)) = false := by simp
          go_wp2_with fail
          go_roundg (n - (i + 1))
          case measure => have := HQ.out; omega
          case rel =>
            obtain ⟨k, hk, hst⟩ := HS.out
            have e : l.take j = l := List.take_of_length_le (by have := HN'.out; omega)
            rw [e, ← HTK.out] at hk hst
            exact ⟨i + 1, by simp, by omega, rfl, ⟨k, hk, hst⟩, HBR.out⟩
    · obtain rfl : i = n := by omega
      have hd : decide ((i : Int) < (i : Int)) = false := by simp
      obtain ⟨k, hk, hst⟩ := HS.out
      have e : s.take i = s := List.take_of_length_le (by have := HN.out; omega)
      rw [e] at hk hst
      go_wp2_with (go_at_call 41; (with_reducible refine (sorted_any _ _ _ _ hst (by omega)).mono ?_); rintro e w2 ⟨A2, c2, Z, rfl, h1, h2, h3, h4, h5⟩; have HB2 := Lib.hid (below_call HBR.out h5); have HZ := Lib.hid (And.intro h1 (And.intro h2 h3)); have HRZ := Lib.hid h4; clear h1 h2 h3 h4 h5)
      go_ret
      exact ⟨A2, c2, Z, rfl, HZ.out.1, HZ.out.2.1, HZ.out.2.2, HRZ.out.mono (fun b hb _ => Nat.le_trans HBR.out.size hb), HB2.out⟩
end Go.Proofs.Ytadpfhoenjodeaa
