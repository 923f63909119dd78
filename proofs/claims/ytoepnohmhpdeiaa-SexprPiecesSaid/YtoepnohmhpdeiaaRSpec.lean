/- What the reference parser computes, and that it is what the parser computes. No program is named here. -/
import Derived.Test.YtoepnohmhpdeiaaParseSpec
set_option linter.unusedVariables false
set_option linter.unusedSimpArgs false
namespace Go.Proofs.Ytoepnohmhpdeiaa
open Go.RowKit

/-- Past spaces, line feeds and comments. -/
def sk (s : ByteArray) : Nat → Nat → Nat
  | 0, k => k
  | n + 1, k => if k < s.size then (if bat s k = 32 ∨ bat s k = 10 then sk s n (k + 1) else if bat s k = 59 then sk s n (cEnd s (s.size - k) k) else k) else k
theorem cEnd_after (s : ByteArray) (k : Nat) (hk : k < s.size) (h : bat s k ≠ 10) : k < cEnd s (s.size - k) k := by
  obtain ⟨m, hm⟩ : ∃ m, s.size - k = m + 1 := ⟨s.size - k - 1, by omega⟩
  rw [hm]
  show k < (if k < s.size ∧ bat s k ≠ 10 then cEnd s m (k + 1) else k)
  rw [if_pos ⟨hk, h⟩]
  have := (cEnd_spec s m (k + 1) (by omega) (by omega)).1
  omega
theorem wEnd_after (s : ByteArray) (k : Nat) (hk : k < s.size) (h : isW (bat s k) = true) : k < wEnd s (s.size - k) k := by
  obtain ⟨m, hm⟩ : ∃ m, s.size - k = m + 1 := ⟨s.size - k - 1, by omega⟩
  rw [hm]
  show k < (if k < s.size ∧ isW (bat s k) = true then wEnd s m (k + 1) else k)
  rw [if_pos ⟨hk, h⟩]
  have := (wEnd_spec s m (k + 1) (by omega) (by omega)).1
  omega
theorem sk_spec (s : ByteArray) : ∀ n k, s.size - k ≤ n → k ≤ s.size → k ≤ sk s n k ∧ sk s n k ≤ s.size ∧ (sk s n k < s.size → bat s (sk s n k) ≠ 32 ∧ bat s (sk s n k) ≠ 10 ∧ bat s (sk s n k) ≠ 59) := by
  intro n
  induction n with
  | zero =>
    intro k hn hk
    exact ⟨Nat.le_refl _, hk, fun h => by simp [sk] at h; omega⟩
  | succ n ih =>
    intro k hn hk
    unfold sk
    split
    · rename_i h
      split
      · obtain ⟨h1, h2, h3⟩ := ih (k + 1) (by omega) (by omega)
        exact ⟨by omega, h2, h3⟩
      · rename_i hb
        split
        · rename_i hc
          have hlt := cEnd_after s k h (by omega)
          obtain ⟨-, hle, -, -⟩ := cEnd_spec s (s.size - k) k (Nat.le_refl _) hk
          obtain ⟨h1, h2, h3⟩ := ih (cEnd s (s.size - k) k) (by omega) hle
          exact ⟨by omega, h2, h3⟩
        · rename_i hc
          exact ⟨Nat.le_refl _, hk, fun _ => by omega⟩
    · rename_i h
      exact ⟨Nat.le_refl _, hk, fun hlt => absurd hlt h⟩

inductive RR where
  | bad (kind off : Int)
  | at_ (k : Nat) (l : List Nd)
/-- Nodes up to the end of the enclosing list: the depth, the place, what is read so far. -/
def refF (s : ByteArray) : Nat → Nat → Nat → List Nd → Option RR
  | 0, _, _, _ => none
  | n + 1, d, k, acc =>
    if k < s.size then
      if bat s k = 32 ∨ bat s k = 10 then refF s n d (k + 1) acc
      else if bat s k = 59 then refF s n d (cEnd s (s.size - k) k) acc
      else if bat s k = 41 then (if d = 0 then some (.bad 2 k) else some (.at_ k acc))
      else if bat s k = 40 then
        if 40 ≤ d then some (.bad 9 k)
        else match refF s n (d + 1) (k + 1) [] with
          | some (.at_ e l) => refF s n d (e + 1) (acc ++ [.mk 3 ⟨#[]⟩ l k])
          | some (.bad a b) => some (.bad a b)
          | none => none
      else if bat s k = 34 then
        match qScan s (s.size - k) (k + 1) [] with
        | some (.done e t) => if 2000 < t.length then some (.bad 4 k) else refF s n d e (acc ++ [.mk 2 (strOfNums t) [] k])
        | some (.bad p) => some (.bad 2 p)
        | none => none
      else if isW (bat s k) = true then
        (if 24 < wEnd s (s.size - k) k - k then some (.bad 4 k) else refF s n d (wEnd s (s.size - k) k) (acc ++ [.mk 1 (s.extract k (wEnd s (s.size - k) k)) [] k]))
      else some (.bad 2 k)
    else if 0 < d then some (.bad 2 s.size) else some (.at_ k acc)

theorem refF_skip (s : ByteArray) : ∀ m k, s.size - k ≤ m → ∀ n d acc r, refF s n d k acc = some r → ∃ n', n' ≤ n ∧ refF s n' d (sk s m k) acc = some r := by
  intro m
  induction m with
  | zero => intro k _ n d acc r h; exact ⟨n, Nat.le_refl _, h⟩
  | succ m ih =>
    intro k hm n d acc r h
    unfold sk
    split
    · rename_i hk
      split
      · rename_i hb
        cases n with
        | zero => simp [refF] at h
        | succ n =>
        rw [refF, if_pos hk, if_pos hb] at h
        obtain ⟨n', h1, h2⟩ := ih (k + 1) (by omega) n d acc r h
        exact ⟨n', by omega, h2⟩
      · rename_i hb
        split
        · rename_i hc
          cases n with
          | zero => simp [refF] at h
          | succ n =>
          rw [refF, if_pos hk, if_neg hb, if_pos hc] at h
          have hlt := cEnd_after s k hk (by omega)
          obtain ⟨n', h1, h2⟩ := ih (cEnd s (s.size - k) k) (by omega) n d acc r h
          exact ⟨n', by omega, h2⟩
        · exact ⟨n, Nat.le_refl _, h⟩
    · exact ⟨n, Nat.le_refl _, h⟩

theorem qScan_done (s : ByteArray) : ∀ n k a e t, qScan s n k a = some (.done e t) → k < e ∧ e ≤ s.size := by
  intro n
  induction n with
  | zero => intro k a e t h; simp [qScan] at h
  | succ n ih =>
    intro k a e t h
    simp only [qScan] at h
    repeat' split at h
    all_goals first
      | (simp only [Option.some.injEq, QR.done.injEq] at h; omega)
      | (simp only [Option.some.injEq, reduceCtorEq] at h)
      | (have := ih _ _ _ _ h; omega)
theorem qScan_some (s : ByteArray) : ∀ n k a, s.size - k < n → ∃ r, qScan s n k a = some r := by
  intro n
  induction n with
  | zero => intro k a h; omega
  | succ n ih =>
    intro k a h
    simp only [qScan]
    repeat' split
    all_goals first
      | exact ⟨_, rfl⟩
      | exact ih _ _ (by omega)

/-- Where a list ends. -/
theorem refF_at (s : ByteArray) : ∀ n d k acc e l, k ≤ s.size → refF s n d k acc = some (.at_ e l) → k ≤ e ∧ e ≤ s.size ∧ (0 < d → e < s.size) ∧ l.length ≤ acc.length + (e - k) := by
  intro n
  induction n with
  | zero => intro d k acc e l _ h; simp [refF] at h
  | succ n ih =>
    intro d k acc e l hk h
    rw [refF] at h
    split at h
    · rename_i hlt
      split at h
      · have := ih _ _ _ _ _ (by omega) h; omega
      · split at h
        · have hc := cEnd_after s k hlt (by omega)
          have hc2 := (cEnd_spec s (s.size - k) k (Nat.le_refl _) hk).2.1
          have := ih _ _ _ _ _ hc2 h; omega
        · split at h
          · split at h
            · simp at h
            · simp only [Option.some.injEq, RR.at_.injEq] at h
              obtain ⟨rfl, rfl⟩ := h
              omega
          · split at h
            · split at h
              · simp at h
              · split at h
                · rename_i e1 l1 h1
                  have h2 := ih _ _ _ _ _ (by omega) h1
                  have h3 := ih _ _ _ _ _ (by omega) h
                  simp at h3; omega
                · simp at h
                · simp at h
            · split at h
              · split at h
                · rename_i e1 t1 h1
                  have h2 := qScan_done _ _ _ _ _ _ h1
                  split at h
                  · simp at h
                  · have h3 := ih _ _ _ _ _ (by omega) h
                    simp at h3; omega
                · simp at h
                · simp at h
              · split at h
                · rename_i hw
                  have hc := wEnd_after s k hlt hw
                  have hc2 := (wEnd_spec s (s.size - k) k (Nat.le_refl _) hk).2.1
                  split at h
                  · simp at h
                  · have h3 := ih _ _ _ _ _ hc2 h
                    simp at h3; omega
                · simp at h
    · rename_i hlt
      split at h
      · simp at h
      · simp only [Option.some.injEq, RR.at_.injEq] at h
        obtain ⟨rfl, rfl⟩ := h
        omega

theorem refF_mono (s : ByteArray) : ∀ n d k acc r, refF s n d k acc = some r → ∀ m, n ≤ m → refF s m d k acc = some r := by
  intro n
  induction n with
  | zero => intro d k acc r h; simp [refF] at h
  | succ n ih =>
    intro d k acc r h m hm
    obtain ⟨m, rfl⟩ : ∃ m', m = m' + 1 := ⟨m - 1, by omega⟩
    have hm' : n ≤ m := by omega
    rw [refF] at h ⊢
    split at h
    · rename_i hlt
      rw [if_pos hlt]
      split at h
      · rename_i c; rw [if_pos c]; exact ih _ _ _ _ h _ hm'
      · rename_i c; rw [if_neg c]
        split at h
        · rename_i c; rw [if_pos c]; exact ih _ _ _ _ h _ hm'
        · rename_i c; rw [if_neg c]
          split at h
          · rename_i c; rw [if_pos c]; exact h
          · rename_i c; rw [if_neg c]
            split at h
            · rename_i c; rw [if_pos c]
              split at h
              · rename_i c; rw [if_pos c]; exact h
              · rename_i c; rw [if_neg c]
                split at h
                · rename_i e1 l1 h1
                  rw [ih _ _ _ _ h1 _ hm']
                  exact ih _ _ _ _ h _ hm'
                · rename_i a b h1
                  rw [ih _ _ _ _ h1 _ hm']
                  exact h
                · simp at h
            · rename_i c; rw [if_neg c]
              split at h
              · rename_i c; rw [if_pos c]
                split at h
                · rename_i e1 t1 h1
                  split at h
                  · rename_i c; rw [if_pos c]; exact h
                  · rename_i c; rw [if_neg c]; exact ih _ _ _ _ h _ hm'
                · exact h
                · simp at h
              · rename_i c; rw [if_neg c]
                split at h
                · rename_i c; rw [if_pos c]
                  split at h
                  · rename_i c; rw [if_pos c]; exact h
                  · rename_i c; rw [if_neg c]; exact ih _ _ _ _ h _ hm'
                · rename_i c; rw [if_neg c]; exact h
    · rename_i c; rw [if_neg c]; exact h
end Go.Proofs.Ytoepnohmhpdeiaa
