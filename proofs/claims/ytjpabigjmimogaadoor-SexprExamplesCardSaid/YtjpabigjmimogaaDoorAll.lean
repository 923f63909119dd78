/- (*parser).all. -/
import Derived.Test.YtjpabigjmimogaaDoorParen
import Derived.Test.YtjpabigjmimogaaDoorQuoted
set_option linter.unusedVariables false
set_option linter.unusedSimpArgs false
namespace Go.Proofs.YtjpabigjmimogaaDoor
open Go.RowKit

theorem qScan_done (s : ByteArray) : ∀ n k a E t, qScan s n k a = some (.done E t) → k < E ∧ E ≤ s.size := by
  intro n
  induction n with
  | zero => intro k a E t h; simp [qScan] at h
  | succ n ih =>
    intro k a E t h
    simp only [qScan] at h
    by_cases h1 : k < s.size
    · rw [if_pos h1] at h
      by_cases h2 : bat s k = 34
      · rw [if_pos h2] at h
        simp at h
        omega
      · rw [if_neg h2] at h
        by_cases h3 : isS (bat s k) = false
        · rw [if_pos h3] at h; simp at h
        · rw [if_neg h3] at h
          by_cases h4 : bat s k = 92
          · rw [if_pos h4] at h
            by_cases h5 : k + 1 = s.size
            · rw [if_pos h5] at h; simp at h
            · rw [if_neg h5] at h
              by_cases h6 : bat s (k + 1) = 34
              · rw [if_pos h6] at h; have := ih _ _ _ _ h; omega
              · rw [if_neg h6] at h
                by_cases h7 : bat s (k + 1) = 92
                · rw [if_pos h7] at h; have := ih _ _ _ _ h; omega
                · rw [if_neg h7] at h; simp at h
          · rw [if_neg h4] at h; have := ih _ _ _ _ h; omega
    · rw [if_neg h1] at h; simp at h
theorem wEnd_gt (s : ByteArray) (n k : Nat) (hn : s.size - k ≤ n) (hk : k < s.size) (hw : isW (bat s k) = true) : k < wEnd s n k := by
  obtain ⟨h1, h2, h3, h4⟩ := wEnd_spec s n k hn (Nat.le_of_lt hk)
  rcases Nat.eq_or_lt_of_le h1 with h | h
  · rw [← h] at h4
    rw [hw] at h4
    exact absurd (h4 hk) (by simp)
  · exact h
theorem cEnd_gt (s : ByteArray) (n k : Nat) (hn : s.size - k ≤ n) (hk : k < s.size) (hw : bat s k ≠ 10) : k < cEnd s n k := by
  obtain ⟨h1, h2, h3, h4⟩ := cEnd_spec s n k hn (Nat.le_of_lt hk)
  rcases Nat.eq_or_lt_of_le h1 with h | h
  · rw [← h] at h4
    exact absurd (h4 hk) hw
  · exact h

def AllPost (w : World) (base g : Nat) (s : ByteArray) (r : PR) (e : Ending) (w' : World) : Prop :=
  match r with
  | .fail a b => FailPost w base a b e w'
  | .ok l => e = .returned (.tuple #[]) ∧ (∃ top : Fr, top.kids = l ∧ PS w' base g s s.size [top]) ∧ Below base w w'
theorem allPost_fail {w w1 w' : World} {base g : Nat} {s : ByteArray} {a b : Int} {e : Ending} (hB : Below base w w1) (h : FailPost w1 base a b e w') : AllPost w base g s (.fail a b) e w' := ⟨h.1, hB.trans h.2⟩

set_option maxHeartbeats 1000000 in
theorem all_long {w : World} {base g : Nat} {s : ByteArray} {fs : List Fr} (h : PS w base g s 0 fs) (hs : 65536 < s.size) (hsm : s.size ≤ 9223372036854775807) : Calls Tryd.prog 36 #[.pointer (some ⟨g, 0, none⟩)] w (FailPost w base 4 0) := by
  obtain ⟨o, cap, vs, h⟩ := h
  obtain ⟨c0, c1, c2, f0, f1, f2⟩ := h.cells
  have HB := Lib.hid (Below.refl base w)
  have hd : decide ((65536 : Int) < (s.size : Int)) = true := by simp; omega
  clear h
  go_enter Tryd.func36, Tryd.ntmps36
  go_wp2_with (go_at_call 52; refine (fail_any _ _ _).mono ?_; rintro e w' ⟨rfl, rfl⟩)
  exact ⟨rfl, rfl, HB.out⟩

/-- What holds at the head of the loop. -/
structure AInv (w wr : World) (base g : Nat) (s : ByteArray) (k : Nat) (top : Fr) (below : List Fr) : Prop where
  ps : PS wr base g s k (below.reverse ++ [top])
  bel : Below base w wr
  bb : base ≤ g
  deep : below.length ≤ 40
  few : ∀ f, f = top ∨ f ∈ below → f.kids.length ≤ k

set_option maxRecDepth 100000 in
set_option maxHeartbeats 8000000 in
theorem all_any {w : World} {base g : Nat} {s : ByteArray} (h : PS w base g s 0 [⟨0, 0, []⟩]) (hs : s.size ≤ 65536) (n : Nat) (r : PR) (hr : allF s n 0 ⟨0, 0, []⟩ [] = some r) :
    Calls Tryd.prog 36 #[.pointer (some ⟨g, 0, none⟩)] w (AllPost w base g s r) := by
  obtain ⟨o0, cap0, vs0, h0⟩ := h
  obtain ⟨c0, c1, c2, f0, f1, f2⟩ := h0.cells
  have HI := Lib.hid (show AInv w w base g s 0 ⟨0, 0, []⟩ [] from ⟨⟨o0, cap0, vs0, h0⟩, Below.refl _ _, h0.bg, by simp, fun f hf => by rcases hf with rfl | hf; simp; simp at hf⟩)
  have HR := Lib.hid hr
  have hd : decide ((65536 : Int) < (s.size : Int)) = false := by simp; omega
  clear h0 hr
  go_enter Tryd.func36, Tryd.ntmps36
  go_wp2
  clear c0 c1 c2 f0 f1 f2
  go_loopg [] n (fun q wr => ∃ k top below, Hid (allF s q k top below = some r ∧ k ≤ s.size ∧ AInv w wr base g s k top below))
  case atStart => exact ⟨0, ⟨0, 0, []⟩, [], HR.out, by omega, HI.out⟩
  case round =>
    obtain ⟨k, top, below, HQ⟩ := hrel
    obtain ⟨q1, r1, r2⟩ := HQ.out
    obtain ⟨o, cap, vs, hP⟩ := r2.ps
    obtain ⟨c0, c1, c2, f0, f1, f2⟩ := hP.cells
    have hlen : (below.reverse ++ [top]).length = below.length + 1 := by simp
    rw [hlen] at c2
    have hvl := hP.len
    rw [hlen] at hvl
    obtain ⟨vpre, v, rfl⟩ : ∃ vpre v, vs = vpre ++ [v] := by
      rcases List.eq_nil_or_concat vs with rfl | ⟨vpre, v, rfl⟩
      · simp at hvl
      · exact ⟨vpre, v, by simp⟩
    have hm : below.reverse.length ≤ 1000 := by have := r2.deep; simp; omega
    have hK : top.kids.length ≤ 100000 := by have := r2.few top (.inl rfl); omega
    have HP := Lib.hid hP
    have HA := Lib.hid r2
    have Hm := Lib.hid hm
    have HK := Lib.hid hK
    have HV := Lib.hid hvl
    have hat := bat_at s k
    clear HQ r2 hP hm hK hlen hvl
    cases gk with
    | zero => simp [allF] at q1
    | succ q =>
    unfold allF at q1
    by_cases hks : k < s.size
    · rw [if_pos hks] at q1
      have hks' : (k : Int) < (s.size : Int) := by omega
      obtain ⟨c, hc⟩ : ∃ c, c = bat s k := ⟨_, rfl⟩
      rw [← hc] at q1 hat
      have HC := Lib.hid hc
      clear hc
      by_cases h32 : c = 32 ∨ c = 10
      · rw [if_pos h32] at q1
        have Hq := Lib.hid q1
        clear q1
        have fin : ∀ (W : World), Below base wr W → PInv 39 67 W base g o cap s (k + 1) (below.reverse ++ [top]) (vpre ++ [v]) → ∃ k2 top2 below2, Hid (allF s q k2 top2 below2 = some r ∧ k2 ≤ s.size ∧ AInv w W base g s k2 top2 below2) :=
          fun W hB hP => ⟨k + 1, top, below, Hq.out, by omega, ⟨o, cap, _, hP⟩, HA.out.bel.trans hB, HA.out.bb, HA.out.deep, fun f hf => by have := HA.out.few f hf; omega⟩
        have Fin := Lib.hid fin
        clear fin
        rcases h32 with h32 | h10
        · have b32 : (c == 32) = true := by simpa using h32
          clear h32
          go_wp2_with fail
          go_quiet (fail)
          go_wp2_with fail
          go_quiet (fail)
          go_wp2_with fail
          go_roundg q
          case measure => omega
          case rel =>
            refine Fin.out _ ((below_drewN' (Below.refl base wr) _).setCell (p := ⟨g, 1, none⟩) HA.out.bb _) ?_
            have hq2 := fun n : Nat => (HP.out.drewN n).setPos (k + 1)
            simpa using hq2 _
        · have b32 : (c == 32) = false := by simp [h10]
          have b10 : (c == 10) = true := by simpa using h10
          clear h10
          go_wp2_with fail
          go_quiet (fail)
          go_wp2_with fail
          go_quiet (fail)
          go_wp2_with fail
          go_roundg q
          case measure => omega
          case rel =>
            refine Fin.out _ ((below_drewN' (Below.refl base wr) _).setCell (p := ⟨g, 1, none⟩) HA.out.bb _) ?_
            have hq2 := fun n : Nat => (HP.out.drewN n).setPos (k + 1)
            simpa using hq2 _
      · rw [if_neg h32] at q1
        have b32 : (c == 32) = false := by simp; omega
        have b10 : (c == 10) = false := by simp; omega
        by_cases h59 : c = 59
        · rw [if_pos h59] at q1
          have b59 : (c == 59) = true := by simpa using h59
          have hgt : k < cEnd s (s.size - k) k := cEnd_gt s _ k (Nat.le_refl _) hks (by rw [← HC.out, h59]; decide)
          obtain ⟨-, hle, -, -⟩ := cEnd_spec s (s.size - k) k (Nat.le_refl _) (Nat.le_of_lt hks)
          have Hq := Lib.hid (And.intro q1 (And.intro hgt hle))
          clear q1 h59 h32 hgt hle
          go_wp2_with fail
          go_quiet (fail)
          go_wp2_with fail
          go_quiet (fail)
          go_wp2_with (go_at_call 53; refine (comment_any (by exact HP.out.drewN _) r1 hs _ rfl).mono ?_; rintro e w' ⟨rfl, hP2, hB2⟩; have HP2 := Lib.hid hP2; have HB2 := Lib.hid hB2; clear hP2 hB2)
          go_roundg q
          case measure => omega
          case rel => exact ⟨_, top, below, Hq.out.1, Hq.out.2.2, ⟨o, cap, _, HP2.out⟩, (below_drewN' HA.out.bel _).trans HB2.out, HA.out.bb, HA.out.deep, fun f hf => by have := HA.out.few f hf; have := Hq.out.2.1; omega⟩
        · rw [if_neg h59] at q1
          have b59 : (c == 59) = false := by simpa using h59
          by_cases h40 : c = 40
          · rw [if_pos h40] at q1
            have b40 : (c == 40) = true := by simpa using h40
            have hc40 : bat s k = 40 := by rw [← HC.out]; exact h40
            by_cases hdp : 40 ≤ below.length
            · rw [if_pos hdp] at q1
              obtain rfl := (Option.some.inj q1).symm
              clear q1 h59 h32 h40
              go_wp2_with fail
              go_quiet (fail)
              go_wp2_with fail
              go_quiet (fail)
              go_wp2_with (go_at_call 54; refine (paren_deep (by exact HP.out.drewN _) hks hs Hm.out hc40 (by simpa using hdp)).mono ?_; rintro e w' ⟨rfl, hB2⟩)
              exact ⟨rfl, rfl, (below_drewN' HA.out.bel _).trans hB2⟩
            · rw [if_neg hdp] at q1
              have Hq := Lib.hid q1
              clear q1 h59 h32 h40
              go_wp2_with fail
              go_quiet (fail)
              go_wp2_with fail
              go_quiet (fail)
              go_wp2_with (go_at_call 54; refine (paren_open (by exact HP.out.drewN _) hks hs (by simp; omega) hc40).mono ?_; rintro e w' ⟨rfl, hP2, hB2⟩; have HP2 := Lib.hid hP2; have HB2 := Lib.hid hB2; clear hP2 hB2)
              go_roundg q
              case measure => omega
              case rel =>
                refine ⟨k + 1, ⟨3, k, []⟩, top :: below, Hq.out, by omega, ?_, (below_drewN' HA.out.bel _).trans HB2.out, HA.out.bb, ?_, ?_⟩
                · have := HP2.out
                  rw [List.reverse_cons]
                  exact this
                · simp; omega
                · intro f hf
                  rcases hf with rfl | hf
                  · simp
                  · have := HA.out.few f (by simpa using hf); omega
          · rw [if_neg h40] at q1
            have b40 : (c == 40) = false := by simpa using h40
            by_cases h41 : c = 41
            · rw [if_pos h41] at q1
              have b41 : (c == 41) = true := by simpa using h41
              have hc41 : bat s k = 41 := by rw [← HC.out]; exact h41
              cases below with
              | nil =>
                simp only at q1
                obtain rfl := (Option.some.inj q1).symm
                clear q1 h59 h32 h40 h41
                go_wp2_with fail
                go_quiet (fail)
                go_wp2_with fail
                go_quiet (fail)
                go_wp2_with (go_at_call 54; refine (paren_none (by simpa using HP.out.drewN _) hks hs hc41).mono ?_; rintro e w' ⟨rfl, hB2⟩)
                exact ⟨rfl, rfl, (below_drewN' HA.out.bel _).trans hB2⟩
              | cons f b =>
                simp only at q1
                have Hq := Lib.hid q1
                clear q1 h59 h32 h40 h41
                obtain ⟨vpre2, u, hvp⟩ : ∃ vpre2 u, vpre = vpre2 ++ [u] := by
                  rcases List.eq_nil_or_concat vpre with rfl | ⟨vpre2, u, rfl⟩
                  · have := HV.out; simp at this
                  · exact ⟨vpre2, u, by simp⟩
                subst hvp
                have hl2 : vpre2.length = b.reverse.length := by have := HV.out; simp at this; simp; omega
                have hm2 : b.reverse.length ≤ 1000 := by have := Hm.out; simp at this; simp; omega
                have hK2 : f.kids.length ≤ 100000 := by have := HA.out.few f (.inr (by simp)); omega
                have HP5 := Lib.hid (show PInv 39 67 wr base g o cap s k (b.reverse ++ [f, top]) (vpre2 ++ [u, v]) by have := HP.out; simpa using this)
                go_wp2_with fail
                go_quiet (fail)
                go_wp2_with fail
                go_quiet (fail)
                go_wp2_with (go_at_call 54; refine (paren_close (by exact HP5.out.drewN _) hl2 hks hs hm2 hK2 hc41).mono ?_; rintro e w' ⟨rfl, hP2, hB2⟩; have HP2 := Lib.hid hP2; have HB2 := Lib.hid hB2; clear hP2 hB2)
                go_roundg q
                case measure => omega
                case rel =>
                  refine ⟨k + 1, f.add top.nd, b, Hq.out, by omega, HP2.out, (below_drewN' HA.out.bel _).trans HB2.out, HA.out.bb, ?_, ?_⟩
                  · have := HA.out.deep; simp at this; omega
                  · intro f2 hf
                    rcases hf with rfl | hf
                    · have := HA.out.few f (.inr (by simp)); simp [Fr.add]; omega
                    · have := HA.out.few f2 (.inr (by simp [hf])); omega
            · rw [if_neg h41] at q1
              have b41 : (c == 41) = false := by simpa using h41
              by_cases h34 : c = 34
              · rw [if_pos h34] at q1
                have b34 : (c == 34) = true := by simpa using h34
                cases hqs : qScan s (s.size - k) (k + 1) [] with
                | none => rw [hqs] at q1; simp at q1
                | some rq =>
                  rw [hqs] at q1
                  cases rq with
                  | bad pp =>
                    simp only at q1
                    obtain rfl := (Option.some.inj q1).symm
                    have HQS := Lib.hid hqs
                    clear q1 h59 h32 h40 h41 h34 hqs
                    go_wp2_with fail
                    go_quiet (fail)
                    go_wp2_with fail
                    go_quiet (fail)
                    go_wp2_with (go_at_call 55; refine (quoted_any (by exact HP.out.drewN _) hks hs Hm.out HK.out _ _ HQS.out).mono ?_; rintro e w' ⟨rfl, hB2⟩)
                    exact ⟨rfl, rfl, (below_drewN' HA.out.bel _).trans hB2⟩
                  | done E t =>
                    simp only at q1
                    have hE := qScan_done s _ _ _ _ _ hqs
                    have HQS := Lib.hid hqs
                    clear hqs
                    by_cases hbig : 2000 < t.length
                    · rw [if_pos hbig] at q1
                      obtain rfl := (Option.some.inj q1).symm
                      clear q1 h59 h32 h40 h41 h34
                      go_wp2_with fail
                      go_quiet (fail)
                      go_wp2_with fail
                      go_quiet (fail)
                      go_wp2_with (go_at_call 55; refine (quoted_any (by exact HP.out.drewN _) hks hs Hm.out HK.out _ _ HQS.out).mono ?_; intro e w' hqp; unfold QPost at hqp; simp only at hqp; rw [if_pos hbig] at hqp; obtain ⟨rfl, hB2⟩ := hqp)
                      exact ⟨rfl, rfl, (below_drewN' HA.out.bel _).trans hB2⟩
                    · rw [if_neg hbig] at q1
                      have Hq := Lib.hid q1
                      clear q1 h59 h32 h40 h41 h34
                      go_wp2_with fail
                      go_quiet (fail)
                      go_wp2_with fail
                      go_quiet (fail)
                      go_wp2_with (go_at_call 55; refine (quoted_any (by exact HP.out.drewN _) hks hs Hm.out HK.out _ _ HQS.out).mono ?_; intro e w' hqp; unfold QPost at hqp; simp only at hqp; rw [if_neg hbig] at hqp; obtain ⟨rfl, ⟨v2, hP2⟩, hB2⟩ := hqp; have HP2 := Lib.hid hP2; have HB2 := Lib.hid hB2; clear hP2 hB2)
                      go_roundg q
                      case measure => omega
                      case rel => exact ⟨E, _, below, Hq.out, hE.2, ⟨o, cap, _, HP2.out⟩, (below_drewN' HA.out.bel _).trans HB2.out, HA.out.bb, HA.out.deep, fun f hf => by
                        rcases hf with rfl | hf
                        · have := HA.out.few top (.inl rfl); simp [Fr.add]; omega
                        · have := HA.out.few f (.inr hf); omega⟩
              · rw [if_neg h34] at q1
                have b34 : (c == 34) = false := by simpa using h34
                by_cases hW : isW c = true
                · rw [if_pos hW] at q1
                  have hgt : k < wEnd s (s.size - k) k := wEnd_gt s _ k (Nat.le_refl _) hks (by rw [← HC.out]; exact hW)
                  obtain ⟨-, hle, -, -⟩ := wEnd_spec s (s.size - k) k (Nat.le_refl _) (Nat.le_of_lt hks)
                  obtain ⟨E, hE⟩ : ∃ E, E = wEnd s (s.size - k) k := ⟨_, rfl⟩
                  rw [← hE] at q1 hgt hle
                  have HE := Lib.hid hE
                  clear hE
                  by_cases hlong : 24 < E - k
                  · rw [if_pos hlong] at q1
                    obtain rfl := (Option.some.inj q1).symm
                    clear q1 h59 h32 h40 h41 h34
                    go_wp2_with fail
                    go_quiet (fail)
                    go_wp2_with fail
                    go_quiet (fail)
                    go_wp2_with (first | (go_at_call 49; refine (isWordByte_any _ _).mono ?_; rintro e w' ⟨rfl, rfl⟩) | (go_at_call 56; refine (word_loop (by exact HP.out.drewN _) hks hs Hm.out HK.out E HE.out hlong).mono ?_; rintro e w' ⟨rfl, hB2⟩))
                    exact ⟨rfl, rfl, (below_drewN' HA.out.bel _).trans hB2⟩
                  · rw [if_neg hlong] at q1
                    have Hq := Lib.hid q1
                    clear q1 h59 h32 h40 h41 h34
                    go_wp2_with fail
                    go_quiet (fail)
                    go_wp2_with fail
                    go_quiet (fail)
                    go_wp2_with (first | (go_at_call 49; refine (isWordByte_any _ _).mono ?_; rintro e w' ⟨rfl, rfl⟩) | (go_at_call 56; refine (word_any (by exact HP.out.drewN _) hks hs Hm.out HK.out E HE.out hlong).mono ?_; rintro e w' ⟨rfl, ⟨v2, hP2⟩, hB2⟩; have HP2 := Lib.hid hP2; have HB2 := Lib.hid hB2; clear hP2 hB2))
                    go_roundg q
                    case measure => omega
                    case rel => exact ⟨E, _, below, Hq.out, hle, ⟨o, cap, _, HP2.out⟩, (below_drewN' HA.out.bel _).trans HB2.out, HA.out.bb, HA.out.deep, fun f hf => by
                      rcases hf with rfl | hf
                      · have := HA.out.few top (.inl rfl); simp [Fr.add]; omega
                      · have := HA.out.few f (.inr hf); omega⟩
                · rw [if_neg hW] at q1
                  have hW' : isW c = false := by simpa using hW
                  obtain rfl := (Option.some.inj q1).symm
                  clear q1 h59 h32 h40 h41 h34 hW
                  go_wp2_with fail
                  go_quiet (fail)
                  go_wp2_with fail
                  go_quiet (fail)
                  go_wp2_with (first | (go_at_call 49; refine (isWordByte_any _ _).mono ?_; rintro e w' ⟨rfl, rfl⟩) | (go_at_call 52; refine (fail_any _ _ _).mono ?_; rintro e w' ⟨rfl, rfl⟩))
                  exact ⟨rfl, rfl, below_drewN' HA.out.bel _⟩
    · rw [if_neg hks] at q1
      have hd2 : decide ((k : Int) < (s.size : Int)) = false := by simp; omega
      obtain rfl : k = s.size := by omega
      by_cases hb : 0 < below.length
      · rw [if_pos hb] at q1
        obtain rfl := (Option.some.inj q1).symm
        clear q1
        have hb' : (1 : Int) < (below.length : Int) + 1 := by omega
        go_wp2_with fail
        go_quiet (fail)
        go_wp2_with (go_at_call 52; refine (fail_any _ _ _).mono ?_; rintro e w' ⟨rfl, rfl⟩)
        exact ⟨rfl, rfl, below_drewN' HA.out.bel _⟩
      · rw [if_neg hb] at q1
        obtain rfl := (Option.some.inj q1).symm
        clear q1
        obtain rfl : below = [] := List.eq_nil_of_length_eq_zero (by omega)
        go_wp2_with fail
        go_quiet (fail)
        go_wp2_with fail
        go_end0
        exact ⟨rfl, ⟨top, rfl, o, cap, _, by simpa using HP.out.drewN _⟩, below_drewN' HA.out.bel _⟩
end Go.Proofs.YtjpabigjmimogaaDoor
