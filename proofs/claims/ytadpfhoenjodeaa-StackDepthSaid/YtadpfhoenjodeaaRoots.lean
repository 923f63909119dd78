/- callstack.objects. -/
import Derived.Test.YtadpfhoenjodeaaStk4
import Derived.Test.YtadpfhoenjodeaaSet6
set_option linter.unusedVariables false
set_option linter.unusedSimpArgs false
namespace Go.Proofs.Ytadpfhoenjodeaa
open Go.RowKit Go.Maps

mutual
def Vl.objs : Vl → List Int
  | .mk k n _ l => if k = 5 then [n] else if k = 4 then vlsO l else []
def vlsO : List Vl → List Int
  | [] => []
  | x :: l => x.objs ++ vlsO l
end
mutual
def Vl.fit : Vl → Prop
  | .mk _ n _ l => (Lit.int .i64 n).wf = true ∧ vlsF l
def vlsF : List Vl → Prop
  | [] => True
  | x :: l => x.fit ∧ vlsF l
end
theorem Vl.objs_eq (x : Vl) : x.objs = if x.kind = 5 then [x.num] else if x.kind = 4 then vlsO x.elems else [] := by cases x; rw [Vl.objs]; rfl
theorem Vl.fit_eq (x : Vl) : x.fit ↔ (Lit.int .i64 x.num).wf = true ∧ vlsF x.elems := by cases x; simp [Vl.fit, Vl.num, Vl.elems]
theorem vlsO_append (l m : List Vl) : vlsO (l ++ m) = vlsO l ++ vlsO m := by
  induction l with
  | nil => simp [vlsO]
  | cons x l ih => simp [vlsO, ih]
theorem vlsO_one (x : Vl) : vlsO [x] = x.objs := by simp [vlsO]
theorem vlsF_at {l : List Vl} (h : vlsF l) : ∀ x ∈ l, x.fit := by
  induction l with
  | nil => simp
  | cons y l ih =>
    simp only [vlsF] at h
    intro x hx
    rw [List.mem_cons] at hx
    rcases hx with rfl | hx
    · exact h.1
    · exact ih h.2 x hx
theorem vlsF_all {l : List Vl} (h : ∀ x ∈ l, x.fit) : vlsF l := by
  induction l with
  | nil => simp [vlsF]
  | cons y l ih => exact ⟨h y (by simp), ih fun x hx => h x (by simp [hx])⟩
theorem vlsC_take (l : List Vl) (i : Nat) (x : Vl) (hx : l[i]? = some x) : vlsC (l.take (i + 1)) = vlsC (l.take i) + x.cnt := by
  rw [List.take_add_one, hx, Option.toList_some, vlsC_append]
  simp [vlsC]
theorem vlsC_le (l : List Vl) (i : Nat) : vlsC (l.take i) ≤ vlsC l := by
  conv => rhs; rw [← List.take_append_drop i l, vlsC_append]
  omega
theorem ST6.lt {w : World} {B n : Nat} {p : Int → Prop} (h : ST6 w B n p) : B < w.heap.size := by
  obtain ⟨D, h, _⟩ := h
  exact h.lt
theorem ST6.le {w : World} {B n n' : Nat} {p : Int → Prop} (h : ST6 w B n p) (hn : n ≤ n') : ST6 w B n' p := by
  obtain ⟨D, h, hD⟩ := h
  exact ⟨D, h.mono hn, hD⟩

set_option maxRecDepth 100000 in
set_option maxHeartbeats 8000000 in
theorem objects_any : ∀ (m : Nat) (v : Vl), SizeOf.sizeOf v ≤ m → v.cnt ≤ 1000000 → v.fit → ∀ (w : World) (ok : Nat → Prop) (B n : Nat) (p : Int → Prop) (A : Option Addr) (nn c : Nat), ST6 w B n p → n + v.cnt ≤ 100000000 → Rd w ok (.slice A nn c) (vlsTr v.elems) → (∀ b, ok b → b ≠ B) →
    Calls Try.prog 47 #[.map (some B), .agg #[.int .i64 v.kind, .int .i64 v.num, .string v.str, .slice A nn c]] w fun e w' => e = .returned (.tuple #[]) ∧ ST6 w' B (n + v.cnt) (fun x => p x ∨ x ∈ v.objs) ∧ Kp w w' fun b => b = B := by
  intro m
  induction m with
  | zero => intro v hv; exfalso; cases v; simp at hv
  | succ m ih =>
    intro v hsz hcn hfit w ok B n p A nn c hst hn hr hB
    obtain ⟨rfl, hl2, hl3⟩ := vls_len hr
    simp only [maxLen] at hl3
    have hBlt := hst.lt
    have hce := v.cnt_eq
    have HFIT := Lib.hid hfit
    have HST := Lib.hid hst
    have HR := Lib.hid hr
    have HOK := Lib.hid hB
    have IH := Lib.hid ih
    have HSZ := Lib.hid hsz
    have HCN := Lib.hid hcn
    have HCE := Lib.hid hce
    have HLL := Lib.hid (vlsC_len v.elems)
    obtain ⟨O, hO⟩ : ∃ O, O = v.objs := ⟨_, rfl⟩
    have HO := Lib.hid (hO.trans v.objs_eq)
    rw [← hO]
    clear hst hr hB ih hsz hfit hO
    by_cases h5 : v.kind = 5
    · have e5 : (v.kind == 5) = true := by simpa using h5
      have hwf := ((Vl.fit_eq v).1 HFIT.out).1
      have hkey := keyOf_int_mk Try.underlying2 hwf
      have HO5 : Hid (O = [v.num]) := Lib.hid (by rw [HO.out, if_pos h5])
      obtain ⟨D, hown, hD⟩ := HST.out
      have HD := Lib.hid hD
      clear h5 hD HO hce
      go_enter Try.func47, Try.ntmps47
      go_wp2_with (first
        | (at_mapUpdate; refine wpList_mapUpdate_own _ rfl _ _ _ 93 rfl 2 4 lawI6 Try.underlying93 (plainElem (H := Unit) Try.prog 4) B n D rfl (hown.alloc _) (by simp only [maxLen]; omega) _ _ _ rfl rfl hkey _ [] (plainElem_bool Try.underlying4 true) ?_; intro w2 hown2 hgrow2)
        | go_in)
      refine bodyPost_end (results_none rfl _ _ _) rfl ⟨rfl, ?_, ((Kp.refl w fun b => b = B).alloc _).grown hgrow2 (fun j hj => .inl (by cases hj; rfl))⟩
      have hst := ST6.put hwf HD.out (hown.tidy lawI6).isMap hown2
      exact (hst.mono fun x => by rw [HO5.out]; simp).le (by have := HCE.out; omega)
    · have e5 : (v.kind == 5) = false := by simpa using h5
      by_cases h4 : v.kind = 4
      · have e4 : (v.kind == 4) = true := by simpa using h4
        have HO4 : Hid (O = vlsO v.elems) := Lib.hid (by rw [HO.out, if_neg h5, if_pos h4])
        clear h5 h4 HO hce
        go_enter Try.func47, Try.ntmps47
        go_wp2_with fail
        go_loopg [18] v.elems.length (fun q iv wr => ∃ (i : Nat), iv = .int .i64 (i : Int) ∧ Hid (i ≤ v.elems.length ∧ q = v.elems.length - i ∧ ST6 wr B (n + vlsC (v.elems.take i)) (fun x => p x ∨ x ∈ vlsO (v.elems.take i)) ∧ Kp w wr fun b => b = B))
        case atStart => exact ⟨0, rfl, Nat.zero_le _, rfl, ((HST.out.alloc _).mono (fun x => by simp [vlsO])).le (by omega), (Kp.refl w _).alloc _⟩
        case round =>
          obtain ⟨i, rfl, HH⟩ := hrel
          obtain ⟨q1, q2, q3, q4⟩ := HH.out
          have HQ := Lib.hid q2
          have HS := Lib.hid q3
          have HKP := Lib.hid q4
          clear HH q2 q3 q4
          by_cases hlt : i < v.elems.length
          · have hi' : (i : Int) < (v.elems.length : Int) := by omega
            have hi0 : (0 : Int) ≤ (i : Int) := by omega
            obtain ⟨x, hxe⟩ : ∃ x, x = v.elems[i] := ⟨_, rfl⟩
            have hx : v.elems[i]? = some x := by rw [hxe]; exact List.getElem?_eq_getElem hlt
            obtain ⟨b, o, KA, KN, KC, rfl, hbl, p0, p1, p2, p3, p4⟩ := vls_at (HR.out.kp HKP.out HOK.out) hx
            have hcx := vlsC_at hx
            have hct := vlsC_take v.elems i x hx
            have hcl := vlsC_le v.elems i
            have HX : Hid (∀ (w : World) (ok : Nat → Prop) (B n : Nat) (p : Int → Prop) (A : Option Addr) (nn c : Nat), ST6 w B n p → n + x.cnt ≤ 100000000 → Rd w ok (.slice A nn c) (vlsTr x.elems) → (∀ b, ok b → b ≠ B) →
                Calls Try.prog 47 #[.map (some B), .agg #[.int .i64 x.kind, .int .i64 x.num, .string x.str, .slice A nn c]] w fun e w' => e = .returned (.tuple #[]) ∧ ST6 w' B (n + x.cnt) (fun y => p y ∨ y ∈ x.objs) ∧ Kp w w' fun b => b = B) :=
              Lib.hid (IH.out x (by have := vls_sz hx; have := v.sz; have := HSZ.out; omega) (by have := HCE.out; have := HCN.out; omega) (vlsF_at ((Vl.fit_eq v).1 HFIT.out).2 x (List.mem_of_getElem? hx)))
            have htk : v.elems.take (i + 1) = v.elems.take i ++ [x] := by rw [List.take_add_one, hx]; rfl
            have HTK := Lib.hid htk
            have HCT := Lib.hid hct
            have HNB : Hid (n + vlsC (v.elems.take i) + x.cnt ≤ 100000000) := Lib.hid (by have := HCE.out; have := HCN.out; have := vlsC_le v.elems (i + 1); omega)
            have P4 := Lib.hid p4
            clear hx hxe htk p4 hct hcx hcl
            go_wp2_with (go_at_call 47; (with_reducible refine (HX.out _ ok B _ _ KA KN KC (HS.out.alloc _) HNB.out (P4.out.alloc _) HOK.out).mono ?_); rintro e w3 ⟨rfl, h1, h2⟩; have HS3 := Lib.hid h1; have HK3 := Lib.hid ((HKP.out.alloc _).trans h2 (fun b _ h => h)); clear h1 h2)
            go_roundg (v.elems.length - (i + 1))
            case measure => have := HQ.out; omega
            case rel =>
              refine ⟨i + 1, by simp, by omega, rfl, ?_, HK3.out⟩
              have h := HS3.out
              rw [HCT.out, ← Nat.add_assoc]
              refine h.mono fun y => ?_
              rw [HTK.out, vlsO_append, vlsO_one, List.mem_append, or_assoc]
          · obtain rfl : i = v.elems.length := by omega
            have hd : decide ((v.elems.length : Int) < (v.elems.length : Int)) = false := by simp
            go_wp2_with fail
            refine bodyPost_end (results_none rfl _ _ _) rfl ⟨rfl, ?_, HKP.out⟩
            have h := HS.out
            rw [List.take_length] at h
            rw [HO4.out]
            exact h.le (by have := HCE.out; omega)
      · have e4 : (v.kind == 4) = false := by simpa using h4
        have HO0 : Hid (O = []) := Lib.hid (by rw [HO.out, if_neg h5, if_neg h4])
        clear h5 h4 HO hce
        go_enter Try.func47, Try.ntmps47
        go_wp2_with fail
        refine bodyPost_end (results_none rfl _ _ _) rfl ⟨rfl, ?_, (Kp.refl w _).alloc _⟩
        rw [HO0.out]
        exact ((HST.out.alloc _).mono fun x => by simp).le (by omega)
end Go.Proofs.Ytadpfhoenjodeaa
