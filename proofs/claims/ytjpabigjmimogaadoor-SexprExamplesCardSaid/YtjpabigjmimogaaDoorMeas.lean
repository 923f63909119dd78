/- How many nodes there are. No program is named here. -/
import Derived.Test.YtjpabigjmimogaaDoorTxt
set_option linter.unusedVariables false
set_option linter.unusedSimpArgs false
namespace Go.Proofs.YtjpabigjmimogaaDoor
open Go.RowKit
mutual
def cntN : Nd → Nat
  | .mk _ _ l _ => 1 + cnts l
def cnts : List Nd → Nat
  | [] => 0
  | x :: l => cntN x + cnts l
end
theorem cnts_append (a b : List Nd) : cnts (a ++ b) = cnts a + cnts b := by
  induction a with
  | nil => simp [cnts]
  | cons x a ih => simp [cnts, ih]; omega
theorem cnts_len (l : List Nd) : l.length ≤ cnts l := by
  induction l with
  | nil => simp [cnts]
  | cons x l ih =>
    have : 1 ≤ cntN x := by cases x; simp [cntN]
    simp [cnts]; omega
theorem cnt_kids (x : Nd) : cntN x = 1 + cnts x.kids := by cases x; simp [cntN, Nd.kids]
theorem cnts_take_succ (l : List Nd) (i : Nat) (x : Nd) (hx : l[i]? = some x) : cnts (l.take (i + 1)) = cnts (l.take i) + cntN x := by
  rw [List.take_add_one, hx, Option.toList_some, cnts_append]
  simp [cnts]
theorem cnts_take (l : List Nd) (i : Nat) : cnts (l.take i) ≤ cnts l := by
  conv => rhs; rw [← List.take_append_drop i l, cnts_append]
  omega
theorem cnt_at {l : List Nd} {i : Nat} {x : Nd} (hx : l[i]? = some x) : cntN x ≤ cnts l := by
  have h1 := cnts_take_succ l i x hx
  have h2 := cnts_take l (i + 1)
  omega
theorem kids_at {l : List Nd} {i : Nat} {x : Nd} (h : l[i]? = some x) : SizeOf.sizeOf x < SizeOf.sizeOf l := by
  obtain ⟨hi, rfl⟩ := List.getElem?_eq_some_iff.1 h
  exact List.sizeOf_lt_of_mem (List.getElem_mem hi)
theorem kids_sz (x : Nd) : SizeOf.sizeOf x.kids < SizeOf.sizeOf x := by cases x; simp [Nd.kids]; omega
theorem take_snoc_at {α : Type} (l : List α) (i : Nat) (x : α) (hx : l[i]? = some x) : l.take (i + 1) = l.take i ++ [x] := by rw [List.take_add_one, hx, Option.toList_some]
end Go.Proofs.YtjpabigjmimogaaDoor
