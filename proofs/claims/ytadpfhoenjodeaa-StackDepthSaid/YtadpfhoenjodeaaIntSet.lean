/- Lists of integers in rising order, as sets. No program is named here. -/
import Derived.Test.YtadpfhoenjodeaaCore
set_option linter.unusedVariables false
namespace Go.Proofs.Ytadpfhoenjodeaa

/-- Rising, no number twice. -/
def Up (l : List Int) : Prop := l.Pairwise (· < ·)
/-- l is the rising list of the numbers of which p holds. -/
def Lists (p : Int → Prop) (l : List Int) : Prop := Up l ∧ ∀ x, x ∈ l ↔ p x
theorem Up.ext : ∀ {l m : List Int}, Up l → Up m → (∀ x, x ∈ l ↔ x ∈ m) → l = m
  | [], [], _, _, _ => rfl
  | [], b :: m, _, _, h => absurd ((h b).2 (by simp)) (by simp)
  | a :: l, [], _, _, h => absurd ((h a).1 (by simp)) (by simp)
  | a :: l, b :: m, hl, hm, h => by
    unfold Up at hl hm
    rw [List.pairwise_cons] at hl hm
    have hab : a = b := by
      have h1 := (h a).1 (by simp)
      have h2 := (h b).2 (by simp)
      rw [List.mem_cons] at h1 h2
      rcases h1 with h1 | h1
      · exact h1
      · rcases h2 with h2 | h2
        · exact h2.symm
        · have := hm.1 a h1
          have := hl.1 b h2
          omega
    subst hab
    refine congrArg (a :: ·) (Up.ext hl.2 hm.2 fun x => ?_)
    constructor
    · intro hx
      have h1 := (h x).1 (by simp [hx])
      rw [List.mem_cons] at h1
      rcases h1 with rfl | h1
      · have := hl.1 x hx; omega
      · exact h1
    · intro hx
      have h1 := (h x).2 (by simp [hx])
      rw [List.mem_cons] at h1
      rcases h1 with rfl | h1
      · have := hm.1 x hx; omega
      · exact h1
theorem Lists.ext {p q : Int → Prop} {l m : List Int} (h : Lists p l) (k : Lists q m) (e : ∀ x, p x ↔ q x) : l = m := h.1.ext k.1 fun x => (h.2 x).trans ((e x).trans (k.2 x).symm)
theorem Lists.mono {p q : Int → Prop} {l : List Int} (h : Lists p l) (e : ∀ x, p x ↔ q x) : Lists q l := ⟨h.1, fun x => (h.2 x).trans (e x)⟩
theorem Lists.nil : Lists (fun _ => False) [] := ⟨List.Pairwise.nil, fun x => by simp⟩
theorem Lists.one (n : Int) : Lists (fun x => x = n) [n] := ⟨by simp [Up], fun x => by simp⟩
/-- Where telref31.Inserted puts n: k numbers are below it. -/
theorem Lists.insert {p : Int → Prop} {l : List Int} {n : Int} {k : Nat} (h : Lists p l) (hk : k ≤ l.length) (hlow : ∀ x ∈ l.take k, x < n) (hhigh : ∀ x ∈ l.drop k, n < x) : Lists (fun x => p x ∨ x = n) (l.take k ++ n :: l.drop k) := by
  refine ⟨?_, fun x => ?_⟩
  · unfold Up
    rw [List.pairwise_append, List.pairwise_cons]
    have hu := h.1
    unfold Up at hu
    refine ⟨hu.sublist (List.take_sublist k l), ⟨hhigh, hu.sublist (List.drop_sublist k l)⟩, fun a ha b hb => ?_⟩
    rw [List.mem_cons] at hb
    rcases hb with rfl | hb
    · exact hlow a ha
    · have := hlow a ha
      have := hhigh b hb
      omega
  · show x ∈ l.take k ++ n :: l.drop k ↔ (p x ∨ x = n)
    rw [List.mem_append, List.mem_cons, ← h.2]
    have e : x ∈ l ↔ x ∈ l.take k ∨ x ∈ l.drop k := by rw [← List.mem_append, List.take_append_drop]
    rw [e]
    constructor
    · rintro (h | h | h)
      · exact .inl (.inl h)
      · exact .inr h
      · exact .inl (.inr h)
    · rintro ((h | h) | h)
      · exact .inl h
      · exact .inr (.inr h)
      · exact .inr (.inl h)
theorem Lists.have {p : Int → Prop} {l : List Int} {n : Int} (h : Lists p l) (hn : n ∈ l) : Lists (fun x => p x ∨ x = n) l :=
  ⟨h.1, fun x => ⟨fun hx => .inl ((h.2 x).1 hx), fun hx => hx.elim (h.2 x).2 fun e => e ▸ hn⟩⟩
/-- What the library's sort makes of numbers that are different. -/
theorem up_sort {l : List Int} (h : l.Nodup) : Up (l.mergeSort fun x y => decide (x ≤ y)) := by
  have h1 := List.pairwise_mergeSort (le := fun x y : Int => decide (x ≤ y)) (fun a b c h1 h2 => by simp at *; omega) (fun a b => by simp; omega) l
  have h2 : (l.mergeSort fun x y => decide (x ≤ y)).Nodup := (List.mergeSort_perm l _).nodup_iff.2 h
  unfold Up
  refine (h1.and h2).imp fun {a b} ⟨h3, h4⟩ => ?_
  simp at h3
  omega
theorem Lists.sort {l : List Int} (h : l.Nodup) : Lists (fun x => x ∈ l) (l.mergeSort fun x y => decide (x ≤ y)) := ⟨up_sort h, fun x => (List.mergeSort_perm l _).mem_iff⟩
end Go.Proofs.Ytadpfhoenjodeaa
