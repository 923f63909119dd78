/- What the parser answers at the limits. No program is named here. -/
import Derived.Test.YtjpabigjmimogaaTxt
set_option linter.unusedVariables false
set_option linter.unusedSimpArgs false
namespace Go.Proofs.Ytjpabigjmimogaa
open Go.RowKit

theorem atp_str (L : List Int) (h : ∀ c ∈ L, 0 ≤ c ∧ c ≤ 255) : Atp (strOfNums L) 0 L := by
  have := Atp.self (strOfNums L)
  rwa [nums_strOf L h] at this
theorem rep_range {k : Nat} {c : Int} (h : 0 ≤ c ∧ c ≤ 255) : ∀ d ∈ List.replicate k c, 0 ≤ d ∧ d ≤ 255 := fun d hd => by rw [(List.mem_replicate.1 hd).2]; exact h
theorem app_range {A B : List Int} (ha : ∀ c ∈ A, 0 ≤ c ∧ c ≤ 255) (hb : ∀ c ∈ B, 0 ≤ c ∧ c ≤ 255) : ∀ c ∈ A ++ B, 0 ≤ c ∧ c ≤ 255 := fun c hc => (List.mem_append.1 hc).elim (ha c) (hb c)

/-- A word of k letters behind a blank. -/
theorem word_law (k : Nat) (h0 : 0 < k) (hk : k ≤ 60000) : (k ≤ 24 → ∃ n l, parseF (strOfNums (32 :: List.replicate k 119)) n = some (.ok l)) ∧ (24 < k → ∃ n, parseF (strOfNums (32 :: List.replicate k 119)) n = some (.fail 4 1)) := by
  have hat := atp_str (32 :: List.replicate k 119) (app_range (A := [32]) (by simp) (rep_range (by decide)))
  have hsz := strOfNums_size (32 :: List.replicate k 119)
  simp only [List.length_cons, List.length_replicate] at hsz
  have h32 := hat.head (by omega)
  have hw := wEnd_at hat.tail (fun c hc => by rw [(List.mem_replicate.1 hc).2]; decide) (by rw [List.length_replicate]; omega) (.inl (by rw [List.length_replicate]; omega))
  rw [List.length_replicate] at hw
  have hf : isW (bat (strOfNums (32 :: List.replicate k 119)) 1) = true := by
    have := hat.tail 0 119 (by rw [List.getElem?_replicate, if_pos h0]) (by omega)
    rw [Nat.add_zero] at this
    rw [this]; decide
  constructor
  · intro h
    obtain ⟨n, hn⟩ := (AllR.blank (top := ⟨0, 0, []⟩) (below := []) (by omega) (.inl h32) (AllR.word (by omega) hf hw (by omega) (AllR.fin (by omega)))).parse (by omega)
    exact ⟨n, _, hn⟩
  · intro h
    exact (AllR.blank (top := ⟨0, 0, []⟩) (below := []) (by omega) (.inl h32) (AllR.word_long (by omega) hf hw (by omega))).parse (by omega)

theorem esc_rep (k : Nat) : esc (List.replicate k 115) = List.replicate k 115 := by
  induction k with
  | zero => rfl
  | succ k ih => rw [List.replicate_succ, esc_cons, ih]; rfl
/-- A quoted string of k letters behind a blank. -/
theorem string_law (k : Nat) (hk : k ≤ 60000) : (k ≤ 2000 → ∃ n l, parseF (strOfNums (32 :: 34 :: (List.replicate k 115 ++ [34]))) n = some (.ok l)) ∧ (2000 < k → ∃ n, parseF (strOfNums (32 :: 34 :: (List.replicate k 115 ++ [34]))) n = some (.fail 4 1)) := by
  have hat := atp_str (32 :: 34 :: (List.replicate k 115 ++ [34])) (app_range (A := [32, 34]) (by simp) (app_range (rep_range (by decide)) (by simp)))
  have hsz := strOfNums_size (32 :: 34 :: (List.replicate k 115 ++ [34]))
  simp only [List.length_cons, List.length_append, List.length_replicate, List.length_nil] at hsz
  have h32 := hat.head (by omega)
  have h34 := hat.tail.head (by omega)
  have hq := qScan_esc (s := strOfNums (32 :: 34 :: (List.replicate k 115 ++ [34]))) (List.replicate k 115) ((strOfNums (32 :: 34 :: (List.replicate k 115 ++ [34]))).size - (0 + 1)) (0 + 1 + 1) [] (by rw [esc_rep]; exact hat.tail.tail) (by rw [esc_rep, List.length_replicate]; omega) (fun c hc => by rw [(List.mem_replicate.1 hc).2]; decide) (by omega)
  rw [esc_rep, List.length_replicate] at hq
  constructor
  · intro h
    obtain ⟨n, hn⟩ := (AllR.blank (top := ⟨0, 0, []⟩) (below := []) (by omega) (.inl h32) (AllR.quo (by omega) h34 hq (by simp; omega) (AllR.fin (by omega)))).parse (by omega)
    exact ⟨n, _, hn⟩
  · intro h
    exact (AllR.blank (top := ⟨0, 0, []⟩) (below := []) (by omega) (.inl h32) (AllR.quo_long (by omega) h34 hq (by simp; omega))).parse (by omega)

/-- Lists in lists. -/
theorem opens_fail (s : ByteArray) : ∀ (m j : Nat) (top : Fr) (below : List Fr), below.length = j → m + j = 40 → (∀ i, j ≤ i → i ≤ 40 → i < s.size ∧ bat s i = 40) → AllR s j top below (.fail 9 ((40 : Nat) : Int)) := by
  intro m
  induction m with
  | zero =>
    intro j top below hb hj h
    obtain rfl : j = 40 := by omega
    obtain ⟨h1, h2⟩ := h 40 (Nat.le_refl _) (Nat.le_refl _)
    exact AllR.deep h1 h2 (by omega)
  | succ m ih =>
    intro j top below hb hj h
    obtain ⟨h1, h2⟩ := h j (Nat.le_refl _) (by omega)
    exact AllR.opn h1 h2 (by omega) (ih (j + 1) _ _ (by simp [hb]) (by omega) (fun i hi hi2 => h i (by omega) hi2))
theorem opens_ok (s : ByteArray) : ∀ (m j : Nat) (top : Fr) (below : List Fr) (R : PR), below.length + m ≤ 40 → (∀ i, i < m → j + i < s.size ∧ bat s (j + i) = 40) →
    (∀ top' below', below'.length = below.length + m → (∃ fs : List Fr, fs.length = m ∧ top' :: below' = fs ++ (top :: below)) → AllR s (j + m) top' below' R) → AllR s j top below R := by
  intro m
  induction m with
  | zero => intro j top below R hd h hR; exact hR top below rfl ⟨[], rfl, rfl⟩
  | succ m ih =>
    intro j top below R hd h hR
    obtain ⟨h1, h2⟩ := h 0 (by omega)
    refine AllR.opn h1 h2 (by omega) (ih (j + 1) ⟨3, j, []⟩ (top :: below) R (by simp; omega) (fun i hi => by have := h (i + 1) (by omega); rwa [show j + 1 + i = j + (i + 1) by omega]) fun top' below' hl hf => ?_)
    rw [show j + 1 + m = j + (m + 1) by omega]
    obtain ⟨fs, hf1, hf2⟩ := hf
    exact hR top' below' (by simp at hl; omega) ⟨fs ++ [⟨3, j, []⟩], by simp [hf1], by rw [hf2]; simp⟩
theorem closes_ok (s : ByteArray) : ∀ (m j : Nat) (top : Fr) (below : List Fr), below.length = m → (∀ i, i < m → j + i < s.size ∧ bat s (j + i) = 41) → s.size ≤ j + m → ∃ l, AllR s j top below (.ok l) := by
  intro m
  induction m with
  | zero =>
    intro j top below hb h hs
    obtain rfl : below = [] := List.eq_nil_of_length_eq_zero hb
    exact ⟨_, AllR.fin (by omega)⟩
  | succ m ih =>
    intro j top below hb h hs
    cases below with
    | nil => simp at hb
    | cons f b =>
      obtain ⟨h1, h2⟩ := h 0 (by omega)
      obtain ⟨l, hl⟩ := ih (j + 1) (f.add top.nd) b (by simpa using hb) (fun i hi => by have := h (i + 1) (by omega); rwa [show j + 1 + i = j + (i + 1) by omega]) (by omega)
      exact ⟨l, AllR.cls h1 h2 hl⟩
theorem opens_top (s : ByteArray) : ∀ (m j : Nat) (top : Fr) (below : List Fr), below.length + m ≤ 40 → (∀ i, i < m → j + i < s.size ∧ bat s (j + i) = 40) →
    ∃ top' below', below'.length = below.length + m ∧ ∀ R, AllR s (j + m) top' below' R → AllR s j top below R := by
  intro m
  induction m with
  | zero => intro j top below hd h; exact ⟨top, below, rfl, fun R hR => hR⟩
  | succ m ih =>
    intro j top below hd h
    obtain ⟨h1, h2⟩ := h 0 (by omega)
    obtain ⟨t, b, hb, hR⟩ := ih (j + 1) ⟨3, j, []⟩ (top :: below) (by simp; omega) (fun i hi => by have := h (i + 1) (by omega); rwa [show j + 1 + i = j + (i + 1) by omega])
    exact ⟨t, b, by simp at hb; omega, fun R hr => AllR.opn h1 h2 (by omega) (hR R (by rw [show j + 1 + m = j + (m + 1) by omega]; exact hr))⟩
theorem deep_law (k : Nat) (hk : k ≤ 1000) : (k ≤ 40 → ∃ n l, parseF (strOfNums (List.replicate k 40 ++ List.replicate k 41)) n = some (.ok l)) ∧ (40 < k → ∃ n, parseF (strOfNums (List.replicate k 40 ++ List.replicate k 41)) n = some (.fail 9 40)) := by
  have hat := atp_str (List.replicate k 40 ++ List.replicate k 41) (app_range (rep_range (by decide)) (rep_range (by decide)))
  have hsz := strOfNums_size (List.replicate k 40 ++ List.replicate k 41)
  simp only [List.length_append, List.length_replicate] at hsz
  have ho : ∀ i, i < k → i < (strOfNums (List.replicate k 40 ++ List.replicate k 41)).size ∧ bat (strOfNums (List.replicate k 40 ++ List.replicate k 41)) i = 40 := fun i hi => by
    have := hat.left i 40 (by rw [List.getElem?_replicate, if_pos hi]) (by omega)
    rw [Nat.zero_add] at this
    exact ⟨by omega, this⟩
  have hc : ∀ i, i < k → 0 + k + i < (strOfNums (List.replicate k 40 ++ List.replicate k 41)).size ∧ bat (strOfNums (List.replicate k 40 ++ List.replicate k 41)) (0 + k + i) = 41 := fun i hi => by
    have := hat.right i 41 (by rw [List.getElem?_replicate, if_pos hi]) (by rw [List.length_replicate]; omega)
    rw [List.length_replicate] at this
    exact ⟨by omega, this⟩
  constructor
  · intro h
    obtain ⟨t, b, hb, hR⟩ := opens_top (strOfNums (List.replicate k 40 ++ List.replicate k 41)) k 0 ⟨0, 0, []⟩ [] (by simpa using h) (fun i hi => by rw [Nat.zero_add]; exact ho i hi)
    obtain ⟨l, hl⟩ := closes_ok (strOfNums (List.replicate k 40 ++ List.replicate k 41)) k (0 + k) t b (by simpa using hb) hc (by omega)
    obtain ⟨n, hn⟩ := (hR _ hl).parse (by omega)
    exact ⟨n, l, hn⟩
  · intro h
    exact (opens_fail (strOfNums (List.replicate k 40 ++ List.replicate k 41)) 40 0 ⟨0, 0, []⟩ [] rfl rfl (fun i h0 hi => ho i (by omega))).parse (by omega)

/-- Blanks alone. -/
theorem blanks_all (s : ByteArray) (h : ∀ i, i < s.size → bat s i = 32) : ∀ (m j : Nat) (top : Fr), s.size - j ≤ m → AllR s j top [] (.ok top.kids) := by
  intro m
  induction m with
  | zero => intro j top hj; exact AllR.fin (by omega)
  | succ m ih =>
    intro j top hj
    by_cases hlt : j < s.size
    · exact AllR.blank hlt (.inl (h j hlt)) (ih (j + 1) top (by omega))
    · exact AllR.fin (by omega)
theorem blank_law (k : Nat) : (k ≤ 65536 → ∃ n l, parseF (strOfNums (List.replicate k 32)) n = some (.ok l)) ∧ (65536 < k → ∃ n, parseF (strOfNums (List.replicate k 32)) n = some (.fail 4 0)) := by
  have hat := atp_str (List.replicate k 32) (rep_range (by decide))
  have hsz := strOfNums_size (List.replicate k 32)
  rw [List.length_replicate] at hsz
  constructor
  · intro h
    obtain ⟨n, hn⟩ := (blanks_all (strOfNums (List.replicate k 32)) (fun i hi => by
      have := hat i 32 (by rw [List.getElem?_replicate, if_pos (by omega)]) (by omega)
      rwa [Nat.zero_add] at this) _ 0 ⟨0, 0, []⟩ (Nat.le_refl _)).parse (by omega)
    exact ⟨n, _, hn⟩
  · intro h
    exact ⟨1, by rw [parseF, if_pos (by omega)]⟩
end Go.Proofs.Ytjpabigjmimogaa
