/- The text of a node with arbitrary separators. No program is named here. -/
import Derived.Test.YtjpabigjmimogaaDoorGood
set_option linter.unusedVariables false
set_option linter.unusedSimpArgs false
namespace Go.Proofs.YtjpabigjmimogaaDoor
open Go.RowKit

def sepsL : List ByteArray := [bs [32], bs [10], bs [32, 32], bs [59, 120, 10], bs [32, 59, 32, 40, 10, 32], bs [10, 10]]
def SSep (sp : List Int) : Prop := ∃ t ∈ sepsL, sp = nums t
theorem seps_ok : ∀ t ∈ sepsL, 0 < t.size ∧ t.size ≤ 6 ∧ isW (bat t 0) = false := by decide
theorem ssep_head {sp : List Int} (h : SSep sp) : ∃ c r, sp = c :: r ∧ isW c = false ∧ sp.length ≤ 6 ∧ ∀ c ∈ sp, 0 ≤ c ∧ c ≤ 255 := by
  obtain ⟨t, ht, rfl⟩ := h
  obtain ⟨h0, h6, hw⟩ := seps_ok t ht
  have hl := nums_length t
  cases hn : nums t with
  | nil => rw [hn] at hl; simp at hl; omega
  | cons c r =>
    refine ⟨c, r, rfl, ?_, by rw [← hn, hl]; exact h6, fun c' hc => nums_range t c' (by rw [hn]; exact hc)⟩
    have := nums_at t 0 h0
    rw [hn] at this
    have e : c = bat t 0 := by simpa using this
    rw [e]; exact hw

theorem cEnd_at {s : ByteArray} {k m : Nat} (hm : k + m < s.size) (h : ∀ j, j < m → bat s (k + j) ≠ 10) (h10 : bat s (k + m) = 10) : cEnd s (s.size - k) k = k + m := by
  obtain ⟨h1, h2, h3, h4⟩ := cEnd_spec s (s.size - k) k (Nat.le_refl _) (by omega)
  generalize cEnd s (s.size - k) k = e at *
  rcases Nat.lt_trichotomy e (k + m) with hlt | heq | hgt
  · have := h (e - k) (by omega)
    rw [show k + (e - k) = e by omega] at this
    exact absurd (h4 (by omega)) this
  · exact heq
  · exact absurd h10 (h3 (k + m) (by omega) hgt)
theorem skip_blank {s : ByteArray} {k : Nat} {c : Int} {L : List Int} (hc : c = 32 ∨ c = 10) (hat : Atp s k (c :: L)) (hle : k + (c :: L).length ≤ s.size) {top : Fr} {below : List Fr} {R : PR}
    (h : Atp s (k + 1) L → k + 1 + L.length ≤ s.size → AllR s (k + 1) top below R) : AllR s k top below R := by
  simp only [List.length_cons] at hle
  exact AllR.blank (by omega) (by rw [hat.head (by omega)]; exact hc) (h hat.tail (by omega))
theorem skips_ssep : Skips SSep := by
  intro sp hsp s k top below R hat hle h
  obtain ⟨t, ht, rfl⟩ := hsp
  simp only [sepsL, List.mem_cons, List.not_mem_nil, or_false] at ht
  rcases ht with rfl | rfl | rfl | rfl | rfl | rfl
  · exact skip_blank (c := 32) (L := []) (.inl rfl) hat hle fun _ _ => h
  · exact skip_blank (c := 10) (L := []) (.inr rfl) hat hle fun _ _ => h
  · exact skip_blank (c := 32) (L := [32]) (.inl rfl) hat hle fun h1 h2 => skip_blank (c := 32) (L := []) (.inl rfl) h1 h2 fun _ _ => h
  · have hle' : k + 3 ≤ s.size := hle
    have hat' : Atp s k [59, 120, 10] := hat
    have b0 := hat'.head (by omega)
    have b1 := hat'.tail.head (by omega)
    have b2 := hat'.tail.tail.head (by omega)
    have hc := cEnd_at (s := s) (k := k) (m := 2) (by omega) (fun j hj => by
      match j, hj with
      | 0, _ => rw [Nat.add_zero, b0]; decide
      | 1, _ => rw [b1]; decide) b2
    refine AllR.comment (by omega) b0 ?_
    rw [hc]
    exact AllR.blank (by omega) (.inr b2) h
  · have hle' : k + 6 ≤ s.size := hle
    have hat' : Atp s k [32, 59, 32, 40, 10, 32] := hat
    have b0 := hat'.head (by omega)
    have b1 := hat'.tail.head (by omega)
    have b2 := hat'.tail.tail.head (by omega)
    have b3 := hat'.tail.tail.tail.head (by omega)
    have b4 := hat'.tail.tail.tail.tail.head (by omega)
    have b5 := hat'.tail.tail.tail.tail.tail.head (by omega)
    have hc := cEnd_at (s := s) (k := k + 1) (m := 3) (by omega) (fun j hj => by
      match j, hj with
      | 0, _ => rw [Nat.add_zero, b1]; decide
      | 1, _ => rw [b2]; decide
      | 2, _ => rw [show k + 1 + 2 = k + 1 + 1 + 1 from rfl, b3]; decide) b4
    refine AllR.blank (by omega) (.inl b0) (AllR.comment (by omega) b1 ?_)
    rw [hc]
    exact AllR.blank (by omega) (.inr b4) (AllR.blank (by omega) (.inl b5) h)
  · exact skip_blank (c := 10) (L := [10]) (.inr rfl) hat hle fun h1 h2 => skip_blank (c := 10) (L := []) (.inr rfl) h1 h2 fun _ _ => h

/-- The items so far, the rest open. -/
def PreTxt (l : List Nd) (P : List Int) : Prop := ∀ rest M', itemsTxt SSep rest M' → NWh M' → itemsTxt SSep (l ++ rest) (P ++ M') ∧ NWh (P ++ M')
theorem preTxt_nil : PreTxt [] [] := fun rest M' h1 h2 => ⟨h1, h2⟩
theorem preTxt_snoc {l : List Nd} {P sp T : List Int} {x : Nd} (h : PreTxt l P) (hs : SSep sp) (hT : x.Txt SSep T) : PreTxt (l ++ [x]) (P ++ (sp ++ T)) := by
  intro rest M' h1 h2
  obtain ⟨c, r, hc, hw, -, -⟩ := ssep_head hs
  have h3 : itemsTxt SSep (x :: rest) (sp ++ (T ++ M')) := by
    rw [itemsTxt]
    exact ⟨sp, T, M', hs, hT, h1, rfl, h2⟩
  have h4 := h (x :: rest) (sp ++ (T ++ M')) h3 ⟨c, r ++ (T ++ M'), by rw [hc]; rfl, hw⟩
  simpa using h4
theorem preTxt_end {l : List Nd} {P sp : List Int} (h : PreTxt l P) (hs : SSep sp) : itemsTxt SSep l (P ++ (sp ++ [41])) := by
  obtain ⟨c, r, hc, hw, -, -⟩ := ssep_head hs
  have := (h [] (sp ++ [41]) ⟨sp, hs, rfl⟩ ⟨c, r ++ [41], by rw [hc]; rfl, hw⟩).1
  simpa using this
def sB : Nat → Nat
  | 0 => 30
  | d + 1 => 8 + 4 * (sB d + 6)
theorem sB_30 (d : Nat) : 30 ≤ sB d := by
  induction d with
  | zero => simp [sB]
  | succ d ih => simp only [sB]; omega
theorem leaf_sp {x : Nd} (h : leafN false x) : x.Txt SSep (fmtL x) ∧ (fmtL x).length ≤ 30 := by
  obtain ⟨-, -, -, h4⟩ := leaf_txt h
  refine ⟨?_, h4⟩
  rcases h with ⟨ho, hk, h⟩ | ⟨h, _⟩
  · obtain ⟨k, t, l, o⟩ := x
    simp only [Nd.kind, Nd.text, Nd.kids, Nd.off] at ho hk h
    subst hk
    rcases h with ⟨rfl, ht⟩ | ⟨rfl, ht⟩
    · obtain ⟨h1, h2, h3⟩ := words_ok t ht
      rw [Nd.Txt]
      exact .inl ⟨rfl, rfl, by simp [fmtL], h1, h2, h3⟩
    · obtain ⟨h1, h2⟩ := strs_ok t ht
      rw [Nd.Txt]
      exact .inr (.inl ⟨rfl, rfl, by simp [fmtL], by omega, h2⟩)
  · cases h
theorem list_sp {x : Nd} {P sp : List Int} (hk : x.kind = 3) (ht : x.text = ⟨#[]⟩) (h : PreTxt x.kids P) (hs : SSep sp) : x.Txt SSep (40 :: (P ++ (sp ++ [41]))) := by
  obtain ⟨k, t, l, o⟩ := x
  simp only [Nd.kind, Nd.text, Nd.kids] at hk ht h
  rw [Nd.Txt]
  exact .inr (.inr ⟨hk, ht, _, rfl, preTxt_end h hs⟩)
theorem gn_nest : ∀ (d : Nat) (x : Nd), Gn false d x → x.nest ≤ d := fun d x h => (gn_txt d x h).2.1

/-- The law: a separator, the node, a line feed and a comment. -/
theorem spaced_law {x : Nd} {L sp : List Int} (hT : x.Txt SSep L) (hs : SSep sp) (hn : x.nest ≤ 40) (hb : ∀ c ∈ L, 0 ≤ c ∧ c ≤ 255) (hl : L.length ≤ 60000) :
    ∃ n y, parseF (strOfNums (sp ++ L ++ [10, 59, 32, 101, 110, 100])) n = some (.ok [y]) ∧ eqN y x = true := by
  obtain ⟨c, r, hc, hw, h6, hr⟩ := ssep_head hs
  have hat := Atp.str (sp ++ L ++ [10, 59, 32, 101, 110, 100]) (range_app (range_app hr hb) (by simp))
  have hsz := strOfNums_size (sp ++ L ++ [10, 59, 32, 101, 110, 100])
  simp only [List.length_append, List.length_cons, List.length_nil] at hsz
  generalize hS : strOfNums (sp ++ L ++ [10, 59, 32, 101, 110, 100]) = S at *
  have hsp : Atp S 0 sp := hat.left.left
  have hL : Atp S (0 + sp.length) L := hat.left.right
  have hE : Atp S (0 + sp.length + L.length) [10, 59, 32, 101, 110, 100] := by have := hat.right; rwa [List.length_append, ← Nat.add_assoc] at this
  have h10 := hE.head (by omega)
  have h59 := hE.tail.head (by omega)
  obtain ⟨y, hy, -, h⟩ := node_text skips_ssep hT hL (by omega) (.inr (by rw [h10]; decide))
  obtain ⟨z1, z2, z3, z4⟩ := cEnd_spec S (S.size - (0 + sp.length + L.length + 1)) (0 + sp.length + L.length + 1) (Nat.le_refl _) (by omega)
  have hend : cEnd S (S.size - (0 + sp.length + L.length + 1)) (0 + sp.length + L.length + 1) = S.size := by
    rcases Nat.lt_or_ge (cEnd S (S.size - (0 + sp.length + L.length + 1)) (0 + sp.length + L.length + 1)) S.size with hlt | hge
    · have e10 := z4 hlt
      generalize cEnd S (S.size - (0 + sp.length + L.length + 1)) (0 + sp.length + L.length + 1) = e at *
      have hcase : e - (0 + sp.length + L.length) = 1 ∨ e - (0 + sp.length + L.length) = 2 ∨ e - (0 + sp.length + L.length) = 3 ∨ e - (0 + sp.length + L.length) = 4 ∨ e - (0 + sp.length + L.length) = 5 := by omega
      exfalso
      rcases hcase with q | q | q | q | q
      all_goals
        have := hE (e - (0 + sp.length + L.length)) _ (by rw [q]; rfl) (by omega)
        rw [show 0 + sp.length + L.length + (e - (0 + sp.length + L.length)) = e by omega, e10] at this
        simp at this
    · omega
  obtain ⟨n, hp⟩ := (skips_ssep sp hs S 0 ⟨0, 0, []⟩ [] (.ok [y]) hsp (by omega) (h ⟨0, 0, []⟩ [] _ (by simpa using hn) (AllR.blank (by omega) (.inr h10) (AllR.comment (by omega) h59 (by rw [hend]; exact AllR.fin (Nat.le_refl _)))))).parse (by omega)
  exact ⟨n, y, hp, hy⟩
end Go.Proofs.YtjpabigjmimogaaDoor
