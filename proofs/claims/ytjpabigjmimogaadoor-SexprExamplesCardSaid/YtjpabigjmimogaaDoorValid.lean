/- sexpr.valid and Valid, telref1.validNode and NodeValid: one answer, vN. -/
import Derived.Test.YtjpabigjmimogaaDoorMeas
import Derived.Test.YtjpabigjmimogaaDoorAny
import Derived.Test.YtjpabigjmimogaaDoorEvery
import Derived.Test.YtjpabigjmimogaaDoorRChars
set_option linter.unusedVariables false
set_option linter.unusedSimpArgs false
namespace Go.Proofs.YtjpabigjmimogaaDoor
open Go.RowKit
attribute [local go_sem ↓] Go.wp_at_zero Go.wp_at_succ

set_option maxHeartbeats 1000000 in
theorem every_str (s : ByteArray) (hs : s.size ≤ maxLen) (w : World) : Calls Tryd.prog 42 #[.string s, .func (.func 59) #[] #[]] w fun e w' => e = .returned (.bool (allB isS s 0)) ∧ w = w' := by
  unfold maxLen at hs
  obtain ⟨E, hE⟩ : ∃ E, E = allB isS s 0 := ⟨_, rfl⟩
  rw [← hE]
  have HE := Lib.hid hE
  clear hE
  go_enter Tryd.func42, Tryd.ntmps42
  go_wp2_with fail
  go_loopg [5] s.size (fun q iv wr => ∃ (i : Nat), iv = .int .i64 (i : Int) ∧ Hid (i ≤ s.size ∧ q = s.size - i ∧ E = allB isS s i ∧ w = wr))
  case atStart => exact ⟨0, rfl, Nat.zero_le _, rfl, HE.out, rfl⟩
  case round =>
    obtain ⟨i, rfl, HH⟩ := hrel
    obtain ⟨q1, q2, q3, rfl⟩ := HH.out
    have HQ := Lib.hid q2
    have HEi := Lib.hid q3
    clear HH q2 q3
    by_cases hlt : i < s.size
    · have hi' : (i : Int) < (s.size : Int) := by omega
      have hi0 : (0 : Int) ≤ (i : Int) := by omega
      have hat := bat_at s i
      have HS := Lib.hid (allB_step isS s i hlt)
      cases hv : isS (bat s i)
      · have HV := Lib.hid hv
        clear hv
        go_wp2_with (go_at_call 59; (with_reducible refine (isStringByte_any _ _).mono ?_); rintro e w' ⟨he, rfl⟩; rw [HV.out] at he; subst he)
        go_ret
        exact ⟨by rw [HEi.out, HS.out, HV.out]; rfl, rfl⟩
      · have HV := Lib.hid hv
        clear hv
        go_wp2_with (go_at_call 59; (with_reducible refine (isStringByte_any _ _).mono ?_); rintro e w' ⟨he, rfl⟩; rw [HV.out] at he; subst he)
        go_roundg (s.size - (i + 1))
        case measure => have := HQ.out; omega
        case rel => exact ⟨i + 1, by simp, by omega, rfl, by rw [HEi.out, HS.out, HV.out]; rfl, rfl⟩
    · obtain rfl : i = s.size := by omega
      have hd : decide ((s.size : Int) < (s.size : Int)) = false := by simp
      go_wp2_with fail
      go_ret
      exact ⟨by rw [HEi.out, allB_end]; rfl, rfl⟩

/-- A word or a string that is valid. -/
def leafV (x : Nd) : Bool := if x.kind = 1 then x.kids.isEmpty && (decide (0 < x.text.size) && (decide (x.text.size ≤ 24) && allB isW x.text 0)) else if x.kind = 2 then x.kids.isEmpty && (decide (x.text.size ≤ 2000) && allB isS x.text 0) else false
/-- A node that is valid where d more lists may nest. -/
def vN : Nat → Nd → Bool
  | 0, x => leafV x
  | d + 1, x => if x.kind = 3 then decide (x.text.size = 0) && x.kids.all (vN d) else leafV x
theorem vN_leaf {d : Nat} {x : Nd} (h : x.kind ≠ 3) : vN d x = leafV x := by cases d <;> simp [vN, h]
theorem vN_zero {x : Nd} (h : x.kind = 3) : vN 0 x = false := by simp [vN, leafV, h]
theorem vN_list {d : Nat} {x : Nd} (h : x.kind = 3) : vN (d + 1) x = (decide (x.text.size = 0) && x.kids.all (vN d)) := by simp [vN, h]
theorem all_drop (p : Nd → Bool) (l : List Nd) (i : Nat) (y : Nd) (h : l[i]? = some y) : (l.drop i).all p = (p y && (l.drop (i + 1)).all p) := by
  obtain ⟨hi, rfl⟩ := List.getElem?_eq_some_iff.1 h
  rw [List.drop_eq_getElem_cons hi, List.all_cons]
/-- No text of the node is longer than a million bytes. -/
def fit : Nat → Nd → Prop
  | 0, x => x.text.size ≤ 1000000
  | d + 1, x => x.text.size ≤ 1000000 ∧ ∀ y ∈ x.kids, fit d y
theorem fit_kid {d : Nat} {x y : Nd} {l : List Nd} {i : Nat} (h : fit (d + 1) x) (hl : l = x.kids) (hy : l[i]? = some y) : fit d y := h.2 y (by rw [← hl]; exact List.mem_of_getElem? hy)
theorem fit_text {d : Nat} {x : Nd} (h : fit d x) : x.text.size ≤ 1000000 := by
  cases d
  · exact h
  · exact h.1
theorem empty_text {s : ByteArray} (h : ¬ s.size = 0) : (s.toList == []) = false ∧ s.toList.isEmpty = false ∧ ¬ s.toList = [] := by
  have hl : ¬ s.toList = [] := by
    rw [ByteArray.toList_eq]
    intro e
    have h3 : s.data.toList.length = 0 := by rw [e]; rfl
    rw [Array.length_toList] at h3
    have e2 : s.size = s.data.size := rfl
    omega
  exact ⟨by simpa using hl, by simpa using hl, hl⟩
theorem text_empty {s : ByteArray} (h : s.size = 0) : s = ⟨#[]⟩ := ByteArray.ext (Array.eq_empty_of_size_eq_zero (by have e2 : s.size = s.data.size := rfl; omega))

set_option maxRecDepth 100000 in
set_option maxHeartbeats 4000000 in
theorem valid_leaf (x : Nd) (h3 : x.kind ≠ 3) (di : Int) (w : World) (ok : Nat → Prop) (A : Option Addr) (n c : Nat) (hr : Rd w ok (.slice A n c) (.sl 39 4 (ndsTr 39 x.kids))) :
    Calls Tryd.prog 39 #[.agg #[.int .i64 x.kind, .string x.text, .slice A n c, .int .i64 x.off], .int .i64 di] w fun e w' => e = .returned (.bool (leafV x)) ∧ Below w.heap.size w w' := by
  have hl := hr.len.1
  rw [ndsTr_length] at hl
  have hn : n = x.kids.length := by omega
  clear hr hl
  have b3 : (x.kind == 3) = false := by simpa using h3
  have hke : x.kids.isEmpty = decide (n = 0) := by
    rw [hn]
    cases x.kids <;> simp
  by_cases h1 : x.kind = 1
  · have b1 : (x.kind == 1) = true := by simpa using h1
    have hlv : leafV x = (decide (n = 0) && (decide (0 < x.text.size) && (decide (x.text.size ≤ 24) && allB isW x.text 0))) := by rw [leafV, if_pos h1, hke]
    have HLV := Lib.hid hlv
    obtain ⟨E, hE⟩ : ∃ E, E = allB isW x.text 0 := ⟨_, rfl⟩
    have HE := Lib.hid hE
    clear hE hlv hke hn h1
    by_cases h0 : n = 0
    · subst h0
      by_cases hp : 0 < x.text.size
      · have hpI : (0 : Int) < (x.text.size : Int) := by omega
        by_cases hq : x.text.size ≤ 24
        · have hqI : (x.text.size : Int) ≤ 24 := by omega
          cases E
          all_goals
            go_enter Tryd.func39, Tryd.ntmps39
            go_wp2_with (go_at_call 42; first | ((with_reducible refine (every_word _ (by simp only [maxLen]; omega) _).mono ?_); rintro e w' ⟨he, rfl⟩; rw [← HE.out] at he; subst he) | ((with_reducible refine (every_str _ (by simp only [maxLen]; omega) _).mono ?_); rintro e w' ⟨he, rfl⟩; rw [← HE.out] at he; subst he))
            go_ret
            exact ⟨by rw [HLV.out, ← HE.out]; simp [hp, hq], (Below.refl w.heap.size w).alloc (Nat.le_refl _) _⟩
        · have hqI : ¬ (x.text.size : Int) ≤ 24 := by omega
          go_enter Tryd.func39, Tryd.ntmps39
          go_wp2_with fail
          go_ret
          exact ⟨by rw [HLV.out]; simp [hq], (Below.refl w.heap.size w).alloc (Nat.le_refl _) _⟩
      · have hpI : ¬ (0 : Int) < (x.text.size : Int) := by omega
        go_enter Tryd.func39, Tryd.ntmps39
        go_wp2_with fail
        go_ret
        exact ⟨by rw [HLV.out]; simp [hp], (Below.refl w.heap.size w).alloc (Nat.le_refl _) _⟩
    · have h0I : ¬ (n : Int) = 0 := by omega
      have h0b : ((n : Int) == 0) = false := by simpa using h0I
      go_enter Tryd.func39, Tryd.ntmps39
      go_wp2_with fail
      go_ret
      exact ⟨by rw [HLV.out]; simp [h0], (Below.refl w.heap.size w).alloc (Nat.le_refl _) _⟩
  · have b1 : (x.kind == 1) = false := by simpa using h1
    by_cases h2 : x.kind = 2
    · have b2 : (x.kind == 2) = true := by simpa using h2
      have hlv : leafV x = (decide (n = 0) && (decide (x.text.size ≤ 2000) && allB isS x.text 0)) := by rw [leafV, if_neg h1, if_pos h2, hke]
      have HLV := Lib.hid hlv
      obtain ⟨E, hE⟩ : ∃ E, E = allB isS x.text 0 := ⟨_, rfl⟩
      have HE := Lib.hid hE
      clear hE hlv hke hn h1 h2
      by_cases h0 : n = 0
      · subst h0
        by_cases hq : x.text.size ≤ 2000
        · have hqI : (x.text.size : Int) ≤ 2000 := by omega
          cases E
          all_goals
            go_enter Tryd.func39, Tryd.ntmps39
            go_wp2_with (go_at_call 42; first | ((with_reducible refine (every_word _ (by simp only [maxLen]; omega) _).mono ?_); rintro e w' ⟨he, rfl⟩; rw [← HE.out] at he; subst he) | ((with_reducible refine (every_str _ (by simp only [maxLen]; omega) _).mono ?_); rintro e w' ⟨he, rfl⟩; rw [← HE.out] at he; subst he))
            go_ret
            exact ⟨by rw [HLV.out, ← HE.out]; simp [hq], (Below.refl w.heap.size w).alloc (Nat.le_refl _) _⟩
        · have hqI : ¬ (x.text.size : Int) ≤ 2000 := by omega
          go_enter Tryd.func39, Tryd.ntmps39
          go_wp2_with fail
          go_ret
          exact ⟨by rw [HLV.out]; simp [hq], (Below.refl w.heap.size w).alloc (Nat.le_refl _) _⟩
      · have h0I : ¬ (n : Int) = 0 := by omega
        have h0b : ((n : Int) == 0) = false := by simpa using h0I
        go_enter Tryd.func39, Tryd.ntmps39
        go_wp2_with fail
        go_ret
        exact ⟨by rw [HLV.out]; simp [h0], (Below.refl w.heap.size w).alloc (Nat.le_refl _) _⟩
    · have b2 : (x.kind == 2) = false := by simpa using h2
      have HLV : Hid (leafV x = false) := Lib.hid (by rw [leafV, if_neg h1, if_neg h2])
      clear hke hn h1 h2 h3
      go_enter Tryd.func39, Tryd.ntmps39
      go_wp2_with fail
      go_ret
      exact ⟨by rw [HLV.out]; rfl, (Below.refl w.heap.size w).alloc (Nat.le_refl _) _⟩

set_option maxRecDepth 100000 in
set_option maxHeartbeats 4000000 in
theorem valid_any : ∀ (d : Nat) (x : Nd) (di : Int) (w : World) (ok : Nat → Prop) (A : Option Addr) (n c : Nat), d ≤ 40 → di = (d : Int) → Rd w ok (.slice A n c) (.sl 39 4 (ndsTr 39 x.kids)) →
    Calls Tryd.prog 39 #[.agg #[.int .i64 x.kind, .string x.text, .slice A n c, .int .i64 x.off], .int .i64 di] w fun e w' => e = .returned (.bool (vN d x)) ∧ Below w.heap.size w w' := by
  intro d
  induction d with
  | zero =>
    intro x di w ok A n c hd hdi hr
    by_cases h3 : x.kind = 3
    · have b3 : (x.kind == 3) = true := by simpa using h3
      have b1 : (x.kind == 1) = false := by simp [h3]
      have b2 : (x.kind == 2) = false := by simp [h3]
      obtain rfl : di = 0 := by omega
      clear hdi hd
      rw [vN_zero h3]
      by_cases ht : x.text.size = 0
      · obtain ⟨X, hX⟩ : ∃ X, X = x.text := ⟨_, rfl⟩
        rw [← hX] at ht ⊢
        obtain rfl := text_empty ht
        clear ht h3 hr hX
        go_enter Tryd.func39, Tryd.ntmps39
        go_wp2_with fail
        go_ret
        exact ⟨by rfl, (Below.refl w.heap.size w).alloc (Nat.le_refl _) _⟩
      · obtain ⟨ht1, ht2, ht3⟩ := empty_text ht
        clear ht h3 hr
        go_enter Tryd.func39, Tryd.ntmps39
        go_wp2_with fail
        go_ret
        exact ⟨by rfl, (Below.refl w.heap.size w).alloc (Nat.le_refl _) _⟩
    · rw [vN_leaf h3]
      exact valid_leaf x h3 di w ok A n c hr
  | succ d ih =>
    intro x di w ok A n c hd hdi hr
    by_cases h3 : x.kind = 3
    · have b3 : (x.kind == 3) = true := by simpa using h3
      have b1 : (x.kind == 1) = false := by simp [h3]
      have b2 : (x.kind == 2) = false := by simp [h3]
      have hdz : ¬ di = 0 := by omega
      have hdb : (di == 0) = false := by simpa using hdz
      rw [vN_list h3]
      by_cases ht : x.text.size = 0
      · have hl := hr.len
        rw [ndsTr_length] at hl
        obtain ⟨l, hle⟩ : ∃ l, l = x.kids := ⟨_, rfl⟩
        rw [← hle] at hl hr ⊢
        obtain ⟨rfl, hl2, hl3⟩ : n = l.length ∧ n ≤ c ∧ c ≤ maxLen := ⟨by omega, hl.2⟩
        simp only [maxLen] at hl3
        have hE0 : (decide (x.text.size = 0) && l.all (vN d)) = l.all (vN d) := by simp [ht]
        rw [hE0]
        obtain ⟨E, hE⟩ : ∃ E, E = l.all (vN d) := ⟨_, rfl⟩
        rw [← hE]
        have HE := Lib.hid hE
        have HR := Lib.hid hr
        have IH := Lib.hid ih
        have HDI := Lib.hid hdi
        have HD := Lib.hid hd
        have HLE := Lib.hid hle
        have HB := Lib.hid (Below.refl w.heap.size w)
        have hdlo : -9223372036854775808 ≤ di - 1 := by omega
        have hdhi : di - 1 ≤ 9223372036854775807 := by omega
        have hdlo2 : -9223372036854775808 ≤ di + 1 := by omega
        have hdhi2 : di + 1 ≤ 9223372036854775807 := by omega
        clear ih hr hl hE hE0 hd hdi h3 hle
        obtain ⟨X, hX⟩ : ∃ X, X = x.text := ⟨_, rfl⟩
        rw [← hX] at ht ⊢
        obtain rfl := text_empty ht
        clear ht hX
        go_enter Tryd.func39, Tryd.ntmps39
        go_wp2_with fail
        go_loopg [61] l.length (fun q iv wr => ∃ (i : Nat), iv = .int .i64 (i : Int) ∧ Hid (i ≤ l.length ∧ q = l.length - i ∧ E = (l.drop i).all (vN d) ∧ Below w.heap.size w wr))
        case atStart => exact ⟨0, rfl, Nat.zero_le _, rfl, by rw [List.drop_zero]; exact HE.out, HB.out.alloc (Nat.le_refl _) _⟩
        case round =>
          obtain ⟨i, rfl, HH⟩ := hrel
          obtain ⟨q1, q2, q3, q4⟩ := HH.out
          have HQ := Lib.hid q2
          have HS := Lib.hid q3
          have HBR := Lib.hid q4
          clear HH q2 q3 q4
          by_cases hlt : i < l.length
          · have hx : l[i]? = some l[i] := List.getElem?_eq_getElem hlt
            obtain ⟨y, hye⟩ : ∃ y, y = l[i] := ⟨_, rfl⟩
            rw [← hye] at hx
            obtain ⟨b, o, KA, KN, KC, rfl, -, -, p0, p1, p2, p3, p4⟩ := nd_at (HR.out.bl HBR.out) hx
            have hst := all_drop (vN d) l i y hx
            have HST := Lib.hid hst
            have P3 := Lib.hid p3
            have HX := Lib.hid hx
            clear p3 hx hye hst
            have hlt' : (i : Int) < (l.length : Int) := by omega
            have hi0 : (0 : Int) ≤ (i : Int) := by omega
            cases hv : vN d y
            · have HV := Lib.hid hv
              clear hv
              go_wp2_with (go_at_call 39; (with_reducible refine (IH.out y _ _ _ _ _ _ (by have := HD.out; omega) (by have := HDI.out; omega) (by first | exact P3.out | exact P3.out.alloc _)).mono ?_); rintro e w3 ⟨he, hb3⟩; rw [HV.out] at he; subst he)
              go_ret
              exact ⟨by rw [HS.out, HST.out, HV.out]; rfl, HBR.out.trans ((Below.refl _ _).mono (HBR.out.size) |>.alloc HBR.out.size _ |>.trans (hb3.mono (by have := HBR.out.size; simp; omega)))⟩
            · have HV := Lib.hid hv
              clear hv
              go_wp2_with (go_at_call 39; (with_reducible refine (IH.out y _ _ _ _ _ _ (by have := HD.out; omega) (by have := HDI.out; omega) (by first | exact P3.out | exact P3.out.alloc _)).mono ?_); rintro e w3 ⟨he, hb3⟩; rw [HV.out] at he; subst he)
              go_roundg (l.length - (i + 1))
              case measure => have := HQ.out; omega
              case rel => exact ⟨i + 1, by simp, by omega, rfl, by rw [HS.out, HST.out, HV.out]; rfl, HBR.out.trans ((Below.refl _ _).mono (HBR.out.size) |>.alloc HBR.out.size _ |>.trans (hb3.mono (by have := HBR.out.size; simp; omega)))⟩
          · obtain rfl : i = l.length := by omega
            have hd : decide ((l.length : Int) < (l.length : Int)) = false := by simp
            go_wp2_with fail
            go_ret
            exact ⟨by rw [HS.out]; simp, HBR.out⟩
      · have hf : (decide (x.text.size = 0) && x.kids.all (vN d)) = false := by simp [ht]
        rw [hf]
        obtain ⟨ht1, ht2, ht3⟩ := empty_text ht
        clear ht h3 hr hf ih
        go_enter Tryd.func39, Tryd.ntmps39
        go_wp2_with fail
        go_ret
        exact ⟨by rfl, (Below.refl w.heap.size w).alloc (Nat.le_refl _) _⟩
    · rw [vN_leaf h3]
      exact valid_leaf x h3 di w ok A n c hr

theorem bl_box (w : World) (o : Obj) : Below w.heap.size w (w.alloc o) := (Below.refl _ _).alloc (Nat.le_refl _) o
theorem isS_not {c : Int} (h : isS c = false) : c < 32 ∨ 126 < c := by
  simp [isS] at h
  omega
theorem isS_yes {c : Int} (h : isS c = true) : 32 ≤ c ∧ c ≤ 126 := by
  simpa [isS] using h

set_option maxRecDepth 100000 in
set_option maxHeartbeats 4000000 in
theorem validNode_leaf (x : Nd) (h3 : x.kind ≠ 3) (di : Int) (w : World) (ok : Nat → Prop) (A : Option Addr) (n c : Nat) (hfit : x.text.size ≤ 1000000) (hr : Rd w ok (.slice A n c) (.sl 26 4 (ndsTr 26 x.kids))) :
    Calls Tryd.prog 40 #[.agg #[.int .i64 x.kind, .string x.text, .slice A n c, .int .i64 x.off], .int .i64 di] w fun e w' => e = .returned (.bool (leafV x)) ∧ Below w.heap.size w w' := by
  have hl := hr.len.1
  rw [ndsTr_length] at hl
  have hn : n = x.kids.length := by omega
  clear hr hl
  have b3 : (x.kind == 3) = false := by simpa using h3
  have hke : x.kids.isEmpty = decide (n = 0) := by
    rw [hn]
    cases x.kids <;> simp
  by_cases h1 : x.kind = 1
  · have b1 : (x.kind == 1) = true := by simpa using h1
    have hlv : leafV x = (decide (n = 0) && (decide (0 < x.text.size) && (decide (x.text.size ≤ 24) && allB isW x.text 0))) := by rw [leafV, if_pos h1, hke]
    have HLV := Lib.hid hlv
    clear hlv hke hn h1 h3
    go_enter Tryd.func40, Tryd.ntmps40
    go_wp2_with fail
    go_loopg [5] x.text.size (fun q iv wr => ∃ (i : Nat), iv = .int .i64 (i : Int) ∧ Hid (i ≤ x.text.size ∧ q = x.text.size - i ∧ allB isW x.text 0 = allB isW x.text i ∧ w.alloc (.cells #[.int .i64 x.kind, .string x.text, .slice A n c, .int .i64 x.off] 26) = wr))
    case atStart => exact ⟨0, rfl, Nat.zero_le _, rfl, rfl, rfl⟩
    case round =>
      obtain ⟨i, rfl, HH⟩ := hrel
      obtain ⟨q1, q2, q3, rfl⟩ := HH.out
      have HQ := Lib.hid q2
      have HS := Lib.hid q3
      clear HH q2 q3
      by_cases hlt : i < x.text.size
      · have hi' : (i : Int) < (x.text.size : Int) := by omega
        have hi0 : (0 : Int) ≤ (i : Int) := by omega
        have hat := bat_at x.text i
        have HST := Lib.hid (allB_step isW x.text i hlt)
        cases hv : isW (bat x.text i)
        · have HV := Lib.hid hv
          clear hv
          go_wp2_with (go_at_call 51; (with_reducible refine (risWordByte_any _ _).mono ?_); rintro e w' ⟨he, rfl⟩; rw [HV.out] at he; subst he)
          go_ret
          exact ⟨by rw [HLV.out, HS.out, HST.out, HV.out]; simp, bl_box _ _⟩
        · have HV := Lib.hid hv
          clear hv
          go_wp2_with (go_at_call 51; (with_reducible refine (risWordByte_any _ _).mono ?_); rintro e w' ⟨he, rfl⟩; rw [HV.out] at he; subst he)
          go_roundg (x.text.size - (i + 1))
          case measure => have := HQ.out; omega
          case rel => exact ⟨i + 1, by simp, by omega, rfl, by rw [HS.out, HST.out, HV.out]; rfl, rfl⟩
      · obtain rfl : i = x.text.size := by omega
        have hd : decide ((x.text.size : Int) < (x.text.size : Int)) = false := by simp
        by_cases hc0 : 0 < x.text.size
        · have : (0 : Int) < (x.text.size : Int) := by omega
          by_cases hc1 : x.text.size ≤ 24
          · have : (x.text.size : Int) ≤ 24 := by omega
            by_cases hc2 : n = 0
            · have hnz : (n : Int) = 0 := by omega
              have hnb : ((n : Int) == 0) = true := by simpa using hnz
              go_wp2_with fail
              go_ret
              exact ⟨by rw [HLV.out, HS.out, allB_end]; simp [hc0, hc1, hc2], bl_box _ _⟩
            · have h0I : ¬ (n : Int) = 0 := by omega
              have h0b : ((n : Int) == 0) = false := by simpa using h0I
              go_wp2_with fail
              go_ret
              exact ⟨by rw [HLV.out]; simp [hc2], bl_box _ _⟩
          · have : ¬ (x.text.size : Int) ≤ 24 := by omega
            go_wp2_with fail
            go_ret
            exact ⟨by rw [HLV.out]; simp [hc1], bl_box _ _⟩
        · have : ¬ (0 : Int) < (x.text.size : Int) := by omega
          go_wp2_with fail
          go_ret
          exact ⟨by rw [HLV.out]; simp [hc0], bl_box _ _⟩
  · have b1 : (x.kind == 1) = false := by simpa using h1
    by_cases h2 : x.kind = 2
    · have b2 : (x.kind == 2) = true := by simpa using h2
      have hlv : leafV x = (decide (n = 0) && (decide (x.text.size ≤ 2000) && allB isS x.text 0)) := by rw [leafV, if_neg h1, if_pos h2, hke]
      have HLV := Lib.hid hlv
      clear hlv hke hn h1 h2 h3
      go_enter Tryd.func40, Tryd.ntmps40
      go_wp2_with fail
      go_loopg [6] x.text.size (fun q iv wr => ∃ (i : Nat), iv = .int .i64 (i : Int) ∧ Hid (i ≤ x.text.size ∧ q = x.text.size - i ∧ allB isS x.text 0 = allB isS x.text i ∧ w.alloc (.cells #[.int .i64 x.kind, .string x.text, .slice A n c, .int .i64 x.off] 26) = wr))
      case atStart => exact ⟨0, rfl, Nat.zero_le _, rfl, rfl, rfl⟩
      case round =>
        obtain ⟨i, rfl, HH⟩ := hrel
        obtain ⟨q1, q2, q3, rfl⟩ := HH.out
        have HQ := Lib.hid q2
        have HS := Lib.hid q3
        clear HH q2 q3
        by_cases hlt : i < x.text.size
        · have hi' : (i : Int) < (x.text.size : Int) := by omega
          have hi0 : (0 : Int) ≤ (i : Int) := by omega
          have hat := bat_at x.text i
          have HST := Lib.hid (allB_step isS x.text i hlt)
          obtain ⟨ch, hch⟩ : ∃ ch, ch = bat x.text i := ⟨_, rfl⟩
          have hat' := bat_at x.text i
          have HCH := Lib.hid hch
          rw [← hch] at hat'
          cases hv : isS (bat x.text i)
          · have HV := Lib.hid hv
            have hx := isS_not hv
            clear hv
            by_cases hl32 : bat x.text i < 32
            · go_wp2_with fail
              go_ret
              exact ⟨by rw [HLV.out, HS.out, HST.out, HV.out]; simp, bl_box _ _⟩
            · have hg : 126 < bat x.text i := by omega
              go_wp2_with fail
              go_ret
              exact ⟨by rw [HLV.out, HS.out, HST.out, HV.out]; simp, bl_box _ _⟩
          · have HV := Lib.hid hv
            obtain ⟨hx1, hx2⟩ := isS_yes hv
            have hx3 : ¬ bat x.text i < 32 := by omega
            have hx4 : ¬ 126 < bat x.text i := by omega
            clear hv
            go_wp2_with fail
            go_roundg (x.text.size - (i + 1))
            case measure => have := HQ.out; omega
            case rel => exact ⟨i + 1, by simp, by omega, rfl, by rw [HS.out, HST.out, HV.out]; rfl, rfl⟩
        · obtain rfl : i = x.text.size := by omega
          have hd : decide ((x.text.size : Int) < (x.text.size : Int)) = false := by simp
          by_cases hc0 : x.text.size ≤ 2000
          · have : (x.text.size : Int) ≤ 2000 := by omega
            by_cases hc1 : n = 0
            · have hnz : (n : Int) = 0 := by omega
              have hnb : ((n : Int) == 0) = true := by simpa using hnz
              go_wp2_with fail
              go_ret
              exact ⟨by rw [HLV.out, HS.out, allB_end]; simp [hc0, hc1], bl_box _ _⟩
            · have h0I : ¬ (n : Int) = 0 := by omega
              have h0b : ((n : Int) == 0) = false := by simpa using h0I
              go_wp2_with fail
              go_ret
              exact ⟨by rw [HLV.out]; simp [hc1], bl_box _ _⟩
          · have : ¬ (x.text.size : Int) ≤ 2000 := by omega
            go_wp2_with fail
            go_ret
            exact ⟨by rw [HLV.out]; simp [hc0], bl_box _ _⟩
    · have b2 : (x.kind == 2) = false := by simpa using h2
      have HLV : Hid (leafV x = false) := Lib.hid (by rw [leafV, if_neg h1, if_neg h2])
      clear hke hn h1 h2 h3
      go_enter Tryd.func40, Tryd.ntmps40
      go_wp2_with fail
      go_ret
      exact ⟨by rw [HLV.out]; rfl, bl_box _ _⟩

set_option maxRecDepth 100000 in
set_option maxHeartbeats 4000000 in
theorem validNode_any : ∀ (d : Nat) (x : Nd) (di : Int) (w : World) (ok : Nat → Prop) (A : Option Addr) (n c : Nat), d ≤ 40 → di + (d : Int) = 40 → fit d x → Rd w ok (.slice A n c) (.sl 26 4 (ndsTr 26 x.kids)) →
    Calls Tryd.prog 40 #[.agg #[.int .i64 x.kind, .string x.text, .slice A n c, .int .i64 x.off], .int .i64 di] w fun e w' => e = .returned (.bool (vN d x)) ∧ Below w.heap.size w w' := by
  intro d
  induction d with
  | zero =>
    intro x di w ok A n c hd hdi hfit hr
    by_cases h3 : x.kind = 3
    · have b3 : (x.kind == 3) = true := by simpa using h3
      have b1 : (x.kind == 1) = false := by simp [h3]
      have b2 : (x.kind == 2) = false := by simp [h3]
      obtain rfl : di = 40 := by omega
      clear hdi hd
      rw [vN_zero h3]
      by_cases ht : x.text.size = 0
      · obtain ⟨X, hX⟩ : ∃ X, X = x.text := ⟨_, rfl⟩
        rw [← hX] at ht ⊢
        obtain rfl := text_empty ht
        clear ht h3 hr hX hfit
        go_enter Tryd.func40, Tryd.ntmps40
        go_wp2_with fail
        go_ret
        exact ⟨by rfl, (Below.refl w.heap.size w).alloc (Nat.le_refl _) _⟩
      · obtain ⟨ht1, ht2, ht3⟩ := empty_text ht
        clear ht h3 hr
        go_enter Tryd.func40, Tryd.ntmps40
        go_wp2_with fail
        go_ret
        exact ⟨by rfl, (Below.refl w.heap.size w).alloc (Nat.le_refl _) _⟩
    · rw [vN_leaf h3]
      exact validNode_leaf x h3 di w ok A n c (fit_text hfit) hr
  | succ d ih =>
    intro x di w ok A n c hd hdi hfit hr
    by_cases h3 : x.kind = 3
    · have b3 : (x.kind == 3) = true := by simpa using h3
      have b1 : (x.kind == 1) = false := by simp [h3]
      have b2 : (x.kind == 2) = false := by simp [h3]
      have hdz : ¬ di = 40 := by omega
      have hdb : (di == 40) = false := by simpa using hdz
      rw [vN_list h3]
      by_cases ht : x.text.size = 0
      · have hl := hr.len
        rw [ndsTr_length] at hl
        obtain ⟨l, hle⟩ : ∃ l, l = x.kids := ⟨_, rfl⟩
        rw [← hle] at hl hr ⊢
        obtain ⟨rfl, hl2, hl3⟩ : n = l.length ∧ n ≤ c ∧ c ≤ maxLen := ⟨by omega, hl.2⟩
        simp only [maxLen] at hl3
        have hE0 : (decide (x.text.size = 0) && l.all (vN d)) = l.all (vN d) := by simp [ht]
        rw [hE0]
        obtain ⟨E, hE⟩ : ∃ E, E = l.all (vN d) := ⟨_, rfl⟩
        rw [← hE]
        have HE := Lib.hid hE
        have HR := Lib.hid hr
        have IH := Lib.hid ih
        have HDI := Lib.hid hdi
        have HD := Lib.hid hd
        have HLE := Lib.hid hle
        have HF := Lib.hid hfit
        have HB := Lib.hid (Below.refl w.heap.size w)
        have hdlo : -9223372036854775808 ≤ di - 1 := by omega
        have hdhi : di - 1 ≤ 9223372036854775807 := by omega
        have hdlo2 : -9223372036854775808 ≤ di + 1 := by omega
        have hdhi2 : di + 1 ≤ 9223372036854775807 := by omega
        clear ih hr hl hE hE0 hd hdi h3 hle hfit
        obtain ⟨X, hX⟩ : ∃ X, X = x.text := ⟨_, rfl⟩
        rw [← hX] at ht ⊢
        obtain rfl := text_empty ht
        clear ht hX
        go_enter Tryd.func40, Tryd.ntmps40
        go_wp2_with fail
        obtain ⟨W, hW⟩ : ∃ W, W = w.alloc (.cells #[.int .i64 x.kind, .string ⟨#[]⟩, .slice A l.length c, .int .i64 x.off] 26) := ⟨_, rfl⟩
        have hbx := heap_alloc_new w (.cells #[.int .i64 x.kind, .string ⟨#[]⟩, .slice A l.length c, .int .i64 x.off] 26)
        have hws : W.heap.size = w.heap.size + 1 := by rw [hW]; simp
        rw [← hW] at hbx ⊢
        have HW := Lib.hid hW
        have HBX := Lib.hid hbx
        have HBW : Hid (Below w.heap.size w W) := Lib.hid (by rw [hW]; exact bl_box _ _)
        clear hW hbx
        go_loopg [7] l.length (fun q iv wr => ∃ (i : Nat), iv = .int .i64 (i : Int) ∧ Hid (i ≤ l.length ∧ q = l.length - i ∧ E = (l.drop i).all (vN d) ∧ Below W.heap.size W wr))
        case atStart => exact ⟨0, rfl, Nat.zero_le _, rfl, by rw [List.drop_zero]; exact HE.out, Below.refl _ _⟩
        case round =>
          obtain ⟨i, rfl, HH⟩ := hrel
          obtain ⟨q1, q2, q3, q4⟩ := HH.out
          have HQ := Lib.hid q2
          have HS := Lib.hid q3
          have HBR := Lib.hid q4
          obtain ⟨c0, c1, c2, c3, -, -, -, -⟩ := four ((q4.block w.heap.size (by omega)).trans HBX.out)
          clear HH q2 q3 q4
          by_cases hlt : i < l.length
          · have hx : l[i]? = some l[i] := List.getElem?_eq_getElem hlt
            obtain ⟨y, hye⟩ : ∃ y, y = l[i] := ⟨_, rfl⟩
            rw [← hye] at hx
            obtain ⟨b, o, KA, KN, KC, rfl, -, -, p0, p1, p2, p3, p4⟩ := nd_at (HR.out.bl (below_call HBW.out HBR.out)) hx
            have hst := all_drop (vN d) l i y hx
            have HST := Lib.hid hst
            have P3 := Lib.hid p3
            have HX := Lib.hid hx
            clear p3 hx hye hst
            have hlt' : (i : Int) < (l.length : Int) := by omega
            have hi0 : (0 : Int) ≤ (i : Int) := by omega
            cases hv : vN d y
            · have HV := Lib.hid hv
              clear hv
              go_wp2_with (go_at_call 40; (with_reducible refine (IH.out y _ _ _ _ _ _ (by have := HD.out; omega) (by have := HDI.out; omega) (fit_kid HF.out HLE.out HX.out) (by first | exact P3.out | exact P3.out.alloc _)).mono ?_); rintro e w3 ⟨he, hb3⟩; rw [HV.out] at he; subst he)
              go_ret
              exact ⟨by rw [HS.out, HST.out, HV.out]; rfl, below_call HBW.out (below_call HBR.out hb3)⟩
            · have HV := Lib.hid hv
              clear hv
              go_wp2_with (go_at_call 40; (with_reducible refine (IH.out y _ _ _ _ _ _ (by have := HD.out; omega) (by have := HDI.out; omega) (fit_kid HF.out HLE.out HX.out) (by first | exact P3.out | exact P3.out.alloc _)).mono ?_); rintro e w3 ⟨he, hb3⟩; rw [HV.out] at he; subst he)
              go_roundg (l.length - (i + 1))
              case measure => have := HQ.out; omega
              case rel => exact ⟨i + 1, by simp, by omega, rfl, by rw [HS.out, HST.out, HV.out]; rfl, below_call HBR.out hb3⟩
          · obtain rfl : i = l.length := by omega
            have hd : decide ((l.length : Int) < (l.length : Int)) = false := by simp
            go_wp2_with fail
            go_ret
            exact ⟨by rw [HS.out]; simp, below_call HBW.out HBR.out⟩
      · have hf : (decide (x.text.size = 0) && x.kids.all (vN d)) = false := by simp [ht]
        rw [hf]
        obtain ⟨ht1, ht2, ht3⟩ := empty_text ht
        clear ht h3 hr hf ih
        go_enter Tryd.func40, Tryd.ntmps40
        go_wp2_with fail
        go_ret
        exact ⟨by rfl, (Below.refl w.heap.size w).alloc (Nat.le_refl _) _⟩
    · rw [vN_leaf h3]
      exact validNode_leaf x h3 di w ok A n c (fit_text hfit) hr
end Go.Proofs.YtjpabigjmimogaaDoor
