/- The nodes of AnyNode, formatted: what the parser answers. No program is named here. -/
import Derived.Test.YtjpabigjmimogaaDoorAny
import Derived.Test.YtjpabigjmimogaaDoorFmtSpec
set_option linter.unusedVariables false
set_option linter.unusedSimpArgs false
namespace Go.Proofs.YtjpabigjmimogaaDoor
open Go.RowKit

def FSep (sp : List Int) : Prop := sp = [] ∨ sp = [32]
theorem skips_fsep : Skips FSep := by
  intro sp hsp s k top below R hat hle h
  rcases hsp with rfl | rfl
  · exact h
  · simp at hle h
    exact AllR.blank (by omega) (.inl (hat.head (by omega))) h
theorem cuts_fsep : Cuts FSep := by
  intro sp hsp s k top below hat hk hlt hb
  rcases hsp with rfl | rfl
  · simp at hlt; omega
  · simp at hlt
    exact ⟨_, AllR.cut (by omega) hb⟩

theorem words_ok : ∀ t ∈ wordsL, 0 < t.size ∧ t.size ≤ 24 ∧ ∀ c ∈ nums t, isW c = true := by decide
theorem strs_ok : ∀ t ∈ strsL, t.size ≤ 13 ∧ ∀ c ∈ nums t, isS c = true := by decide

theorem rest_txt : ∀ l : List Nd, (∀ y ∈ l, y.Txt FSep (fmtL y)) → itemsTxt FSep l (fmtRest l ++ [41]) ∧ NWh (fmtRest l ++ [41])
  | [], _ => ⟨⟨[], .inl rfl, rfl⟩, ⟨41, [], rfl, by decide⟩⟩
  | y :: l, h => by
    obtain ⟨h1, h2⟩ := rest_txt l (fun z hz => h z (by simp [hz]))
    refine ⟨?_, ⟨32, _, rfl, by decide⟩⟩
    rw [itemsTxt]
    exact ⟨[32], fmtL y, _, .inr rfl, h y (by simp), h1, by simp [fmtRest], h2⟩
theorem items_txt (l : List Nd) (h : ∀ y ∈ l, y.Txt FSep (fmtL y)) : itemsTxt FSep l (fmtItems l ++ [41]) := by
  cases l with
  | nil => exact ⟨[], .inl rfl, rfl⟩
  | cons y l =>
    obtain ⟨h1, h2⟩ := rest_txt l (fun z hz => h z (by simp [hz]))
    rw [itemsTxt]
    exact ⟨[], fmtL y, _, .inl rfl, h y (by simp), h1, by simp [fmtItems], h2⟩
theorem list_txt {x : Nd} (hk : x.kind = 3) (ht : x.text = ⟨#[]⟩) (h : ∀ y ∈ x.kids, y.Txt FSep (fmtL y)) : x.Txt FSep (fmtL x) := by
  rw [fmtL_list (by omega) (by omega)]
  obtain ⟨k, t, l, o⟩ := x
  simp only [Nd.kind, Nd.text, Nd.kids] at hk ht h ⊢
  rw [Nd.Txt]
  exact .inr (.inr ⟨hk, ht, _, rfl, items_txt l h⟩)
theorem nests_le {l : List Nd} {d : Nat} (h : ∀ y ∈ l, y.nest ≤ d) : nests l ≤ d := by
  induction l with
  | nil => simp [nests]
  | cons x l ih =>
    have h1 := h x (by simp)
    have h2 := ih (fun y hy => h y (by simp [hy]))
    simp only [nests]
    omega
theorem nest_list {x : Nd} {d : Nat} (h : ∀ y ∈ x.kids, y.nest ≤ d) : x.nest ≤ d + 1 := by
  obtain ⟨k, t, l, o⟩ := x
  have := nests_le h
  simp only [Nd.nest, Nd.kids] at this ⊢
  split <;> omega
theorem rest_len {l : List Nd} {B : Nat} (h : ∀ y ∈ l, (fmtL y).length ≤ B) : (fmtRest l).length ≤ l.length * (B + 1) := by
  induction l with
  | nil => simp [fmtRest]
  | cons x l ih =>
    have h1 := h x (by simp)
    have h2 := ih (fun y hy => h y (by simp [hy]))
    simp only [fmtRest, List.length_cons, List.length_append, Nat.succ_mul]
    omega
theorem items_len {l : List Nd} {B : Nat} (h : ∀ y ∈ l, (fmtL y).length ≤ B) : (fmtItems l).length ≤ l.length * (B + 1) := by
  cases l with
  | nil => simp [fmtItems]
  | cons x l =>
    have h1 := h x (by simp)
    have h2 := rest_len (l := l) (B := B) (fun y hy => h y (by simp [hy]))
    simp only [fmtItems, List.length_cons, List.length_append, Nat.succ_mul]
    omega
def bnd : Nat → Nat
  | 0 => 30
  | d + 1 => 4 * (bnd d + 1) + 2
theorem bnd_30 (d : Nat) : 30 ≤ bnd d := by
  induction d with
  | zero => simp [bnd]
  | succ d ih => simp only [bnd]; omega
theorem leaf_txt {x : Nd} (h : leafN false x) : x.Txt FSep (fmtL x) ∧ x.nest = 0 ∧ 0 < (fmtL x).length ∧ (fmtL x).length ≤ 30 := by
  rcases h with ⟨ho, hk, h⟩ | ⟨h, _⟩
  · obtain ⟨k, t, l, o⟩ := x
    simp only [Nd.kind, Nd.text, Nd.kids, Nd.off] at ho hk h
    subst hk
    rcases h with ⟨rfl, ht⟩ | ⟨rfl, ht⟩
    · obtain ⟨h1, h2, h3⟩ := words_ok t ht
      refine ⟨?_, by simp [Nd.nest, nests], by simp [fmtL, nums_length]; omega, by simp [fmtL, nums_length]; omega⟩
      rw [Nd.Txt]
      exact .inl ⟨rfl, rfl, by simp [fmtL], h1, h2, h3⟩
    · obtain ⟨h1, h2⟩ := strs_ok t ht
      have he := (esc_length (nums t)).1
      rw [nums_length] at he
      refine ⟨?_, by simp [Nd.nest, nests], by simp [fmtL, quoteL], by simp [fmtL, quoteL]; omega⟩
      rw [Nd.Txt]
      exact .inr (.inl ⟨rfl, rfl, by simp [fmtL], by omega, h2⟩)
  · cases h
theorem gn_txt : ∀ (d : Nat) (x : Nd), Gn false d x → x.Txt FSep (fmtL x) ∧ x.nest ≤ d ∧ 0 < (fmtL x).length ∧ (fmtL x).length ≤ bnd d := by
  intro d
  induction d with
  | zero =>
    intro x h
    obtain ⟨h1, h2, h3, h4⟩ := leaf_txt h
    exact ⟨h1, by omega, h3, h4⟩
  | succ d ih =>
    intro x h
    have hb := bnd_30 d
    rcases h with h | ⟨hk, ht, ho, hl, h⟩
    · obtain ⟨h1, h2, h3, h4⟩ := leaf_txt h
      exact ⟨h1, by omega, h3, by simp only [bnd]; omega⟩
    · refine ⟨list_txt hk ht (fun y hy => (ih y (h y hy)).1), nest_list (fun y hy => (ih y (h y hy)).2.1), ?_, ?_⟩
      · rw [fmtL_list (by omega) (by omega)]; simp
      · rw [fmtL_list (by omega) (by omega)]
        have h1 := items_len (fun y hy => (ih y (h y hy)).2.2.2)
        have h2 : x.kids.length * (bnd d + 1) ≤ 4 * (bnd d + 1) := Nat.mul_le_mul_right _ hl
        simp only [List.length_cons, List.length_append, List.length_nil, bnd]
        omega

/-! ### What the parser answers -/
theorem Atp.extract {s : ByteArray} {L : List Int} (h : Atp s 0 L) (k : Nat) (hk : k ≤ s.size) : Atp (s.extract 0 k) 0 L := fun j c hj hl => by
  have hsz : (s.extract 0 k).size = k := by simp; omega
  rw [hsz] at hl
  have := h j c hj (by omega)
  rw [← this]
  unfold bat
  rw [dif_pos (by omega), dif_pos (by omega)]
  simp [ByteArray.getElem_eq_getElem_data]
theorem Atp.str (L : List Int) (h : ∀ c ∈ L, 0 ≤ c ∧ c ≤ 255) : Atp (strOfNums L) 0 L := by
  have := Atp.self (strOfNums L)
  rwa [nums_strOf L h] at this
/-- A proper prefix of a list. -/
theorem prefix_law {x : Nd} {L : List Int} (hT : x.Txt FSep L) (hk : x.kind = 3) (hn : x.nest ≤ 40) {p : ByteArray} (hat : Atp p 0 L) (h0 : 0 < p.size) (h1 : p.size < L.length) (hs : p.size ≤ 65536) :
    ∃ n b, parseF p n = some (.fail 2 b) := by
  obtain ⟨b, h⟩ := (node_cut FSep skips_fsep cuts_fsep _).1 x L (Nat.le_refl _) hT p 0 ⟨0, 0, []⟩ [] hat (by omega) (by omega) (by simpa using hn) (.inr ⟨hk, h0⟩)
  obtain ⟨n, h⟩ := h.parse hs
  exact ⟨n, b, h⟩
theorem range_app {A B : List Int} (ha : ∀ c ∈ A, 0 ≤ c ∧ c ≤ 255) (hb : ∀ c ∈ B, 0 ≤ c ∧ c ≤ 255) : ∀ c ∈ A ++ B, 0 ≤ c ∧ c ≤ 255 := fun c hc => (List.mem_append.1 hc).elim (ha c) (hb c)
theorem esc_range (t : List Int) (h : ∀ c ∈ t, 0 ≤ c ∧ c ≤ 255) : ∀ c ∈ esc t, 0 ≤ c ∧ c ≤ 255 := by
  intro c hc
  simp only [esc, List.mem_flatMap] at hc
  obtain ⟨a, ha, hc⟩ := hc
  have := h a ha
  split at hc
  · simp at hc; omega
  · simp at hc; omega
theorem fmt_range : ∀ (m : Nat), (∀ x : Nd, SizeOf.sizeOf x ≤ m → ∀ c ∈ fmtL x, 0 ≤ c ∧ c ≤ 255) ∧ (∀ l : List Nd, SizeOf.sizeOf l ≤ m → ∀ c ∈ fmtRest l, 0 ≤ c ∧ c ≤ 255) ∧ (∀ l : List Nd, SizeOf.sizeOf l ≤ m → ∀ c ∈ fmtItems l, 0 ≤ c ∧ c ≤ 255) := by
  intro m
  induction m with
  | zero =>
    refine ⟨fun x hx => ?_, fun l hl => ?_, fun l hl => ?_⟩
    · cases x; simp at hx
    · cases l <;> simp at hl
    · cases l <;> simp at hl
  | succ m ih =>
    obtain ⟨i1, i2, i3⟩ := ih
    refine ⟨fun x hx => ?_, fun l hl => ?_, fun l hl => ?_⟩
    · obtain ⟨k, t, l, o⟩ := x
      have hsl : SizeOf.sizeOf l ≤ m := by simp at hx; omega
      have h34 : ∀ c ∈ [(34 : Int)], 0 ≤ c ∧ c ≤ 255 := by simp
      have h40 : ∀ c ∈ [(40 : Int)], 0 ≤ c ∧ c ≤ 255 := by simp
      have h41 : ∀ c ∈ [(41 : Int)], 0 ≤ c ∧ c ≤ 255 := by simp
      rw [fmtL]
      split
      · exact fun c hc => nums_range t c hc
      · split
        · exact range_app h34 (range_app (esc_range _ fun c hc => nums_range t c hc) h34)
        · exact range_app h40 (range_app (i3 l hsl) h41)
    · cases l with
      | nil => simp [fmtRest]
      | cons y l =>
        have h1 : SizeOf.sizeOf y ≤ m := by simp at hl; omega
        have h2 : SizeOf.sizeOf l ≤ m := by simp at hl; omega
        rw [fmtRest]
        exact range_app (A := [32]) (by simp) (range_app (i1 y h1) (i2 l h2))
    · cases l with
      | nil => simp [fmtItems]
      | cons y l =>
        have h1 : SizeOf.sizeOf y ≤ m := by simp at hl; omega
        have h2 : SizeOf.sizeOf l ≤ m := by simp at hl; omega
        rw [fmtItems]
        exact range_app (i1 y h1) (i2 l h2)
theorem fmt_byte (x : Nd) : ∀ c ∈ fmtL x, 0 ≤ c ∧ c ≤ 255 := (fmt_range _).1 x (Nat.le_refl _)

/-- One node. -/
theorem one_law {x : Nd} {L : List Int} (hT : x.Txt FSep L) (hn : x.nest ≤ 40) (hb : ∀ c ∈ L, 0 ≤ c ∧ c ≤ 255) (hs : L.length ≤ 65536) : ∃ n y, parseF (strOfNums L) n = some (.ok [y]) ∧ eqN y x = true := by
  have hat := Atp.str L hb
  have hsz := strOfNums_size L
  obtain ⟨y, hy, -, h⟩ := node_text skips_fsep hT hat (by omega) (.inl (by omega))
  obtain ⟨n, hp⟩ := (h ⟨0, 0, []⟩ [] (.ok [y]) (by simpa using hn) (AllR.fin (by omega))).parse (by omega)
  exact ⟨n, y, hp, hy⟩
/-- Two nodes, a blank between. -/
theorem two_law {x x' : Nd} {L M : List Int} (hT : x.Txt FSep L) (hT' : x'.Txt FSep M) (hn : x.nest ≤ 40) (hn' : x'.nest ≤ 40) (hb : ∀ c ∈ L, 0 ≤ c ∧ c ≤ 255) (hb' : ∀ c ∈ M, 0 ≤ c ∧ c ≤ 255) (hs : L.length + 1 + M.length ≤ 65536) :
    ∃ n y y', parseF (strOfNums (L ++ (32 :: M))) n = some (.ok [y, y']) ∧ y'.off = ((L.length + 1 : Nat) : Int) := by
  have hat := Atp.str (L ++ (32 :: M)) (range_app hb (range_app (A := [32]) (by simp) hb'))
  have hsz := strOfNums_size (L ++ (32 :: M))
  simp only [List.length_append, List.length_cons] at hsz
  have h32 : bat (strOfNums (L ++ (32 :: M))) (0 + L.length) = 32 := hat.right.head (by omega)
  obtain ⟨y, hy, -, h⟩ := node_text skips_fsep hT hat.left (by omega) (.inr (by rw [h32]; decide))
  have hat2 : Atp (strOfNums (L ++ (32 :: M))) (L.length + 1) M := by have := hat.right.tail; simpa using this
  obtain ⟨y', hy', ho', h'⟩ := node_text skips_fsep hT' hat2 (by omega) (.inl (by omega))
  obtain ⟨n, hp⟩ := (h ⟨0, 0, []⟩ [] (.ok [y, y']) (by simpa using hn) (AllR.blank (by omega) (.inl h32) (by
    rw [Nat.zero_add]
    exact h' _ [] _ (by simpa using hn') (AllR.fin (by omega))))).parse (by omega)
  exact ⟨n, y, y', hp, ho'⟩
/-- A list of one node. -/
def wrapN (x : Nd) : Nd := .mk 3 ⟨#[]⟩ [x] 0
theorem wrap_len (x : Nd) : (fmtL (wrapN x)).length = (fmtL x).length + 2 := by
  rw [fmtL_list (x := wrapN x) (by simp [wrapN, Nd.kind]) (by simp [wrapN, Nd.kind])]
  simp [wrapN, Nd.kids, fmtItems, fmtRest]
theorem wrap_txt {x : Nd} (h : x.Txt FSep (fmtL x)) : (wrapN x).Txt FSep (fmtL (wrapN x)) := list_txt rfl rfl (by simpa [wrapN, Nd.kids] using h)
theorem wrap_nest {x : Nd} {d : Nat} (h : x.nest ≤ d) : (wrapN x).nest ≤ d + 1 := nest_list (by simpa [wrapN, Nd.kids] using h)
/-- A proper prefix of the text of a list of one node. -/
theorem wrap_cut {x : Nd} {d : Nat} (hg : Gn false d x) (hd : d ≤ 4) (k : Nat) (h0 : 0 < k) (h1 : k < (fmtL x).length + 2) : ∃ n b, parseF ((strOfNums (fmtL (wrapN x))).extract 0 k) n = some (.fail 2 b) := by
  obtain ⟨t1, t2, t3, t4⟩ := gn_txt d x hg
  have hb : bnd d ≤ bnd 4 := by
    match d, hd with
    | 0, _ => decide
    | 1, _ => decide
    | 2, _ => decide
    | 3, _ => decide
    | 4, _ => decide
  have hb4 : bnd 4 = 8190 := rfl
  have hl := wrap_len x
  have hsz := strOfNums_size (fmtL (wrapN x))
  have hat := (Atp.str (fmtL (wrapN x)) (fmt_byte _)).extract k (by omega)
  have hsz2 : ((strOfNums (fmtL (wrapN x))).extract 0 k).size = k := by simp; omega
  exact prefix_law (wrap_txt t1) rfl (Nat.le_trans (wrap_nest t2) (by omega)) hat (by omega) (by omega) (by omega)
end Go.Proofs.YtjpabigjmimogaaDoor
