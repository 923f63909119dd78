/- The parser and the reference parser compute the same. No program is named here. -/
import Derived.Test.YtoepnohmhpdeiaaRSpec
set_option linter.unusedVariables false
set_option linter.unusedSimpArgs false
namespace Go.Proofs.Ytoepnohmhpdeiaa
open Go.RowKit

def Same (s : ByteArray) (n : Nat) (top : Fr) (below : List Fr) (R : PR) (r : RR) : Prop :=
  match r with
  | .bad a b => R = .fail a b
  | .at_ e l => match below with
    | [] => R = .ok l
    | f :: bl => ∃ n', n' < n ∧ allF s n' (e + 1) (f.add (.mk top.kind ⟨#[]⟩ l top.off)) bl = some R

theorem Same.succ {s : ByteArray} {n n1 : Nat} {top top' : Fr} {below : List Fr} {R : PR} {r : RR} (h : Same s n top below R r) (hn : n ≤ n1) (h1 : top.kind = top'.kind) (h2 : top.off = top'.off) : Same s n1 top' below R r := by
  unfold Same at h ⊢
  cases r with
  | bad a b => exact h
  | at_ e l =>
    cases below with
    | nil => exact h
    | cons f bl =>
      obtain ⟨n', h3, h4⟩ := h
      exact ⟨n', by omega, by rw [← h1, ← h2]; exact h4⟩

theorem all_ref (s : ByteArray) : ∀ n, ∀ N, N ≤ n → ∀ k top below R, k ≤ s.size → allF s N k top below = some R → ∃ m r, refF s m below.length k top.kids = some r ∧ Same s N top below R r := by
  intro n
  induction n with
  | zero =>
    intro N hN k top below R hk h
    obtain rfl : N = 0 := by omega
    simp [allF] at h
  | succ n ih =>
    intro N hN k top below R hk h
    cases N with
    | zero => simp [allF] at h
    | succ N =>
    rw [allF.eq_def] at h
    simp only at h
    split at h
    · rename_i hlt
      split at h
      · rename_i c1
        obtain ⟨m, r, h1, h2⟩ := ih N (by omega) _ _ _ _ (by omega) h
        exact ⟨m + 1, r, by rw [refF, if_pos hlt, if_pos c1]; exact h1, h2.succ (by omega) rfl rfl⟩
      · rename_i c1
        split at h
        · rename_i c2
          have hc2 := (cEnd_spec s (s.size - k) k (Nat.le_refl _) hk).2.1
          obtain ⟨m, r, h1, h2⟩ := ih N (by omega) _ _ _ _ hc2 h
          exact ⟨m + 1, r, by rw [refF, if_pos hlt, if_neg c1, if_pos c2]; exact h1, h2.succ (by omega) rfl rfl⟩
        · rename_i c2
          split at h
          · rename_i c3
            have c4 : ¬ bat s k = 41 := by omega
            split at h
            · rename_i c5
              obtain rfl := (Option.some.inj h).symm
              exact ⟨1, .bad 9 k, by rw [refF, if_pos hlt, if_neg c1, if_neg c2, if_neg c4, if_pos c3, if_pos c5], rfl⟩
            · rename_i c5
              obtain ⟨m, r, h1, h2⟩ := ih N (by omega) _ _ _ _ (by omega) h
              simp only [List.length_cons] at h1
              cases r with
              | bad a b =>
                refine ⟨m + 1, .bad a b, ?_, h2⟩
                rw [refF, if_pos hlt, if_neg c1, if_neg c2, if_neg c4, if_pos c3, if_neg c5, h1]
              | at_ e l =>
                obtain ⟨n', h3, h4⟩ := h2
                have hb := refF_at s _ _ _ _ _ _ (by omega) h1
                obtain ⟨m', r', h5, h6⟩ := ih n' (by omega) _ _ _ _ (by omega) h4
                refine ⟨max m m' + 1, r', ?_, h6.succ (by omega) rfl rfl⟩
                rw [refF, if_pos hlt, if_neg c1, if_neg c2, if_neg c4, if_pos c3, if_neg c5, refF_mono s _ _ _ _ _ h1 _ (Nat.le_max_left m m')]
                exact refF_mono s _ _ _ _ _ h5 _ (Nat.le_max_right m m')
          · rename_i c3
            split at h
            · rename_i c4
              cases below with
              | nil =>
                obtain rfl := (Option.some.inj h).symm
                exact ⟨1, .bad 2 k, by rw [refF, if_pos hlt, if_neg c1, if_neg c2, if_pos c4]; rfl, rfl⟩
              | cons f bl =>
                refine ⟨1, .at_ k top.kids, by rw [refF, if_pos hlt, if_neg c1, if_neg c2, if_pos c4]; rfl, N, by omega, h⟩
            · rename_i c4
              split at h
              · rename_i c5
                split at h
                · rename_i e t hq
                  have h2 := qScan_done _ _ _ _ _ _ hq
                  split at h
                  · rename_i c6
                    obtain rfl := (Option.some.inj h).symm
                    refine ⟨1, .bad 4 k, ?_, rfl⟩
                    rw [refF, if_pos hlt, if_neg c1, if_neg c2, if_neg c4, if_neg c3, if_pos c5, hq]
                    exact if_pos c6
                  · rename_i c6
                    obtain ⟨m, r, h1, h2⟩ := ih N (by omega) _ _ _ _ (by omega) h
                    refine ⟨m + 1, r, ?_, h2.succ (by omega) rfl rfl⟩
                    rw [refF, if_pos hlt, if_neg c1, if_neg c2, if_neg c4, if_neg c3, if_pos c5, hq]
                    exact (if_neg c6).trans h1
                · rename_i p hq
                  obtain rfl := (Option.some.inj h).symm
                  refine ⟨1, .bad 2 p, ?_, rfl⟩
                  rw [refF, if_pos hlt, if_neg c1, if_neg c2, if_neg c4, if_neg c3, if_pos c5, hq]
                · simp at h
              · rename_i c5
                split at h
                · rename_i c6
                  have hc := wEnd_after s k hlt c6
                  have hc2 := (wEnd_spec s (s.size - k) k (Nat.le_refl _) hk).2.1
                  split at h
                  · rename_i c7
                    obtain rfl := (Option.some.inj h).symm
                    exact ⟨1, .bad 4 k, by rw [refF, if_pos hlt, if_neg c1, if_neg c2, if_neg c4, if_neg c3, if_neg c5, if_pos c6, if_pos c7], rfl⟩
                  · rename_i c7
                    obtain ⟨m, r, h1, h2⟩ := ih N (by omega) _ _ _ _ hc2 h
                    exact ⟨m + 1, r, by rw [refF, if_pos hlt, if_neg c1, if_neg c2, if_neg c4, if_neg c3, if_neg c5, if_pos c6, if_neg c7]; exact h1, h2.succ (by omega) rfl rfl⟩
                · rename_i c6
                  obtain rfl := (Option.some.inj h).symm
                  exact ⟨1, .bad 2 k, by rw [refF, if_pos hlt, if_neg c1, if_neg c2, if_neg c4, if_neg c3, if_neg c5, if_neg c6], rfl⟩
    · rename_i hlt
      split at h
      · rename_i c1
        obtain rfl := (Option.some.inj h).symm
        exact ⟨1, .bad 2 s.size, by rw [refF, if_neg hlt, if_pos c1], rfl⟩
      · rename_i c1
        obtain rfl := (Option.some.inj h).symm
        obtain rfl : below = [] := by cases below with | nil => rfl | cons f b => simp at c1
        exact ⟨1, .at_ k top.kids, by rw [refF, if_neg hlt, if_neg c1], rfl⟩

theorem all_some (s : ByteArray) : ∀ n k top below, s.size - k < n → ∃ R, allF s n k top below = some R := by
  intro n
  induction n with
  | zero => intro k top below h; omega
  | succ n ih =>
    intro k top below h
    rw [allF.eq_def]
    simp only
    split
    · rename_i hlt
      split
      · exact ih _ _ _ (by omega)
      · split
        · have := cEnd_after s k hlt (by omega)
          exact ih _ _ _ (by omega)
        · split
          · split
            · exact ⟨_, rfl⟩
            · exact ih _ _ _ (by omega)
          · split
            · split
              · exact ⟨_, rfl⟩
              · exact ih _ _ _ (by omega)
            · split
              · obtain ⟨r, hr⟩ := qScan_some s (s.size - k) (k + 1) [] (by omega)
                rw [hr]
                cases r with
                | bad p => exact ⟨_, rfl⟩
                | done e t =>
                  have h2 := qScan_done _ _ _ _ _ _ hr
                  simp only
                  split
                  · exact ⟨_, rfl⟩
                  · exact ih _ _ _ (by omega)
              · split
                · rename_i hw
                  have := wEnd_after s k hlt hw
                  split
                  · exact ⟨_, rfl⟩
                  · exact ih _ _ _ (by omega)
                · exact ⟨_, rfl⟩
    · split
      · exact ⟨_, rfl⟩
      · exact ⟨_, rfl⟩

theorem parse_ref (s : ByteArray) (hs : s.size ≤ 65536) : ∃ n R m r, parseF s n = some R ∧ refF s m 0 0 [] = some r ∧ (∀ a b, r = .bad a b → R = .fail a b) ∧ (∀ e l, r = .at_ e l → R = .ok l) := by
  obtain ⟨R, hR⟩ := all_some s (s.size + 1) 0 ⟨0, 0, []⟩ [] (by omega)
  obtain ⟨m, r, h1, h2⟩ := all_ref s _ _ (Nat.le_refl _) _ _ _ _ (Nat.zero_le _) hR
  refine ⟨_, R, m, r, by unfold parseF; rw [if_neg (by omega)]; exact hR, h1, ?_, ?_⟩
  · rintro a b rfl; exact h2
  · rintro e l rfl; exact h2
theorem refF_bad (s : ByteArray) : ∀ n d k acc a b, refF s n d k acc = some (.bad a b) → a ≠ 0 := by
  intro n
  induction n with
  | zero => intro d k acc a b h; simp [refF] at h
  | succ n ih =>
    intro d k acc a b h
    rw [refF] at h
    repeat' split at h
    all_goals first
      | exact ih _ _ _ _ _ h
      | (simp only [Option.some.injEq, RR.bad.injEq] at h; obtain ⟨rfl, rfl⟩ := h; rename_i h1; exact ih _ _ _ _ _ h1)
      | (simp only [Option.some.injEq, RR.bad.injEq] at h; omega)
      | (simp only [Option.some.injEq, reduceCtorEq] at h)
end Go.Proofs.Ytoepnohmhpdeiaa
