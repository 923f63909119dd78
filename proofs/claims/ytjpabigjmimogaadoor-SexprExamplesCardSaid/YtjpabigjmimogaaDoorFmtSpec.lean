/- The text of a node as FormatNode writes it. No program is named here. -/
import Derived.Test.YtjpabigjmimogaaDoorTxt
set_option linter.unusedVariables false
set_option linter.unusedSimpArgs false
namespace Go.Proofs.YtjpabigjmimogaaDoor
open Go.RowKit

mutual
def fmtL : Nd → List Int
  | .mk k t l _ => if k = 1 then nums t else if k = 2 then quoteL (nums t) else 40 :: (fmtItems l ++ [41])
def fmtItems : List Nd → List Int
  | [] => []
  | x :: l => fmtL x ++ fmtRest l
def fmtRest : List Nd → List Int
  | [] => []
  | x :: l => 32 :: (fmtL x ++ fmtRest l)
end
theorem fmtRest_snoc (l : List Nd) (x : Nd) : fmtRest (l ++ [x]) = fmtRest l ++ (32 :: fmtL x) := by
  induction l with
  | nil => simp [fmtRest]
  | cons y l ih => simp [fmtRest, ih]
theorem fmtItems_snoc (l : List Nd) (x : Nd) : fmtItems (l ++ [x]) = fmtItems l ++ ((if l = [] then [] else [32]) ++ fmtL x) := by
  cases l with
  | nil => simp [fmtItems, fmtRest]
  | cons y l => simp [fmtItems, fmtRest_snoc]
theorem fmtItems_take (l : List Nd) (i : Nat) (x : Nd) (hx : l[i]? = some x) : fmtItems (l.take (i + 1)) = fmtItems (l.take i) ++ ((if i = 0 then [] else [32]) ++ fmtL x) := by
  have hi := (List.getElem?_eq_some_iff.1 hx).1
  rw [List.take_add_one, hx, Option.toList_some, fmtItems_snoc]
  congr 2
  by_cases h : i = 0
  · subst h; simp
  · rw [if_neg h, if_neg]
    intro e
    rcases List.take_eq_nil_iff.1 e with e | e
    · omega
    · subst e; simp at hi
theorem fmtRest_split (l : List Nd) (j : Nat) : ∃ r, fmtRest l = fmtRest (l.take j) ++ r := by
  induction l generalizing j with
  | nil => exact ⟨[], by simp [fmtRest]⟩
  | cons x l ih =>
    cases j with
    | zero => exact ⟨_, by simp [fmtRest]; rfl⟩
    | succ j =>
      obtain ⟨r, hr⟩ := ih j
      exact ⟨r, by simp [fmtRest]; rw [hr]⟩
theorem fmtItems_split (l : List Nd) (j : Nat) : ∃ r, fmtItems l = fmtItems (l.take j) ++ r := by
  cases l with
  | nil => exact ⟨[], by simp [fmtItems]⟩
  | cons x l =>
    cases j with
    | zero => exact ⟨_, by simp [fmtItems]; rfl⟩
    | succ j =>
      obtain ⟨r, hr⟩ := fmtRest_split l j
      exact ⟨r, by simp [fmtItems]; rw [hr]⟩
theorem fmtItems_le (l : List Nd) (j : Nat) : (fmtItems (l.take j)).length ≤ (fmtItems l).length := by
  obtain ⟨r, hr⟩ := fmtItems_split l j
  have := congrArg List.length hr
  rw [List.length_append] at this
  omega
theorem fmtL_list {x : Nd} (h1 : x.kind ≠ 1) (h2 : x.kind ≠ 2) : fmtL x = 40 :: (fmtItems x.kids ++ [41]) := by
  cases x
  simp [Nd.kind] at h1 h2
  simp [fmtL, h1, h2, Nd.kids]
theorem fmtL_word {x : Nd} (h1 : x.kind = 1) : fmtL x = nums x.text := by
  cases x
  simp [Nd.kind] at h1
  simp [fmtL, h1, Nd.text]
theorem fmtL_str {x : Nd} (h1 : x.kind = 2) : fmtL x = quoteL (nums x.text) := by
  cases x
  simp [Nd.kind] at h1
  simp [fmtL, h1, Nd.text]
theorem fmtL_kid (l : List Nd) (i : Nat) (x : Nd) (hx : l[i]? = some x) : (fmtL x).length + (fmtItems (l.take i)).length + (if i = 0 then 0 else 1) ≤ (fmtItems l).length := by
  have h := fmtItems_le l (i + 1)
  rw [fmtItems_take l i x hx] at h
  simp only [List.length_append] at h
  by_cases h0 : i = 0
  · rw [if_pos h0] at h ⊢; simp only [List.length_nil] at h; omega
  · rw [if_neg h0] at h ⊢; simp only [List.length_cons, List.length_nil] at h; omega
end Go.Proofs.YtjpabigjmimogaaDoor
