/- sexpr.Count, Depth, telref1.NodeCount, NodeDepth. -/
import Derived.Test.YtjpabigjmimogaaDoorMeas
import Derived.Test.YtjpabigjmimogaaDoorAny
import Derived.Deep.LoopGhost
set_option linter.unusedVariables false
set_option linter.unusedSimpArgs false
namespace Go.Proofs.YtjpabigjmimogaaDoor
open Go.RowKit

theorem nests_append (a b : List Nd) : nests (a ++ b) = max (nests a) (nests b) := by
  induction a with
  | nil => simp [nests]
  | cons x a ih => simp only [List.cons_append, nests, ih]; omega
theorem nests_take_succ (l : List Nd) (i : Nat) (x : Nd) (hx : l[i]? = some x) : nests (l.take (i + 1)) = max (nests (l.take i)) x.nest := by
  rw [take_snoc_at l i x hx, nests_append]
  simp [nests]
theorem nest_kids (x : Nd) : x.nest = (if x.kind = 3 then 1 else 0) + nests x.kids := by cases x; rw [Nd.nest]; rfl
theorem nest_cnt : ∀ (m : Nat), (∀ x : Nd, SizeOf.sizeOf x ≤ m → x.nest ≤ cntN x) ∧ (∀ l : List Nd, SizeOf.sizeOf l ≤ m → nests l ≤ cnts l) := by
  intro m
  induction m with
  | zero =>
    refine ⟨fun x hx => ?_, fun l hl => ?_⟩
    · cases x; simp at hx
    · cases l <;> simp at hl
  | succ m ih =>
    refine ⟨fun x hx => ?_, fun l hl => ?_⟩
    · have h1 := kids_sz x
      have h2 := ih.2 x.kids (by omega)
      rw [nest_kids, cnt_kids]
      split <;> omega
    · cases l with
      | nil => simp [nests]
      | cons x l =>
        have h1 := ih.1 x (by simp at hl; omega)
        have h2 := ih.2 l (by simp at hl; omega)
        simp only [nests, cnts]
        omega
theorem nests_cnts (l : List Nd) : nests l ≤ cnts l := (nest_cnt _).2 l (Nat.le_refl _)

set_option maxRecDepth 100000 in
set_option maxHeartbeats 2000000 in
theorem nodeCount_any : ∀ (m : Nat) (l : List Nd), SizeOf.sizeOf l ≤ m → ∀ (w : World) (ok : Nat → Prop) (A : Option Addr) (n c : Nat), cnts l ≤ 1000000 → Rd w ok (.slice A n c) (.sl 26 4 (ndsTr 26 l)) →
    Calls Tryd.prog 20 #[.slice A n c] w fun e w' => e = .returned (.int .i64 (cnts l : Int)) ∧ Below w.heap.size w w' := by
  intro m
  induction m with
  | zero => intro l hl; exfalso; cases l <;> simp at hl
  | succ m ih =>
    intro l hsz w ok A n c hcn hr
    have hl := hr.len
    rw [ndsTr_length] at hl
    obtain ⟨rfl, hl2, hl3⟩ : n = l.length ∧ n ≤ c ∧ c ≤ maxLen := ⟨by omega, hl.2⟩
    simp only [maxLen] at hl3
    have hll := cnts_len l
    have hl6 : (l.length : Int) ≤ 1000000 := by omega
    obtain ⟨N, hN⟩ : ∃ N, N = cnts l := ⟨_, rfl⟩
    rw [← hN] at hcn ⊢
    have HN := Lib.hid hN
    have HR := Lib.hid hr
    have IH := Lib.hid ih
    have HSZ := Lib.hid hsz
    have HB := Lib.hid (Below.refl w.heap.size w)
    clear ih hr hl hsz hll hN
    go_enter Tryd.func20, Tryd.ntmps20
    go_wp2_with fail
    go_loopg [3, 4] l.length (fun q sv iv wr => ∃ (i s : Nat), sv = .int .i64 (s : Int) ∧ iv = .int .i64 (i : Int) ∧ Hid (i ≤ l.length ∧ q = l.length - i ∧ s + i = l.length + cnts (l.take i) ∧ Below w.heap.size w wr))
    case atStart => exact ⟨0, l.length, rfl, rfl, Nat.zero_le _, rfl, by simp [cnts], HB.out⟩
    case round =>
      obtain ⟨i, s, rfl, rfl, HH⟩ := hrel
      obtain ⟨q1, q2, q3, q4⟩ := HH.out
      have HQ := Lib.hid q2
      have HS := Lib.hid q3
      have HBR := Lib.hid q4
      have hct := cnts_take l i
      have hsb : s ≤ 2000000 := by have := HN.out; omega
      have hsI : (s : Int) ≤ 2000000 := by omega
      have hs0 : (0 : Int) ≤ (s : Int) := by omega
      clear HH q2 q3 q4 hct
      by_cases hlt : i < l.length
      · have hx : l[i]? = some l[i] := List.getElem?_eq_getElem hlt
        obtain ⟨y, hye⟩ : ∃ y, y = l[i] := ⟨_, rfl⟩
        rw [← hye] at hx
        obtain ⟨b, o, KA, KN, KC, rfl, -, -, p0, p1, p2, p3, p4⟩ := nd_at (HR.out.bl HBR.out) hx
        have hk := kids_sz y
        have hys : SizeOf.sizeOf y.kids ≤ m := by have := kids_at hx; have := HSZ.out; omega
        have hca := cnt_at hx
        rw [cnt_kids] at hca
        have hyc : cnts y.kids ≤ 1000000 := by have := HN.out; omega
        have hts := cnts_take_succ l i y hx
        rw [cnt_kids] at hts
        obtain ⟨V, hV⟩ : ∃ V, V = cnts y.kids := ⟨_, rfl⟩
        have hVI : (V : Int) ≤ 1000000 := by omega
        have hV0 : (0 : Int) ≤ (V : Int) := by omega
        have HYS := Lib.hid hys
        have HYC := Lib.hid hyc
        have HT := Lib.hid hts
        have HV := Lib.hid hV
        have P3 := Lib.hid p3
        clear p3 hx hye hys hyc hts hV hca hk
        have hlt' : (i : Int) < (l.length : Int) := by omega
        have hi0 : (0 : Int) ≤ (i : Int) := by omega
        go_wp2_with (go_at_call 20; (with_reducible refine (IH.out y.kids HYS.out _ _ _ _ _ HYC.out (by first | exact P3.out | exact P3.out.alloc _)).mono ?_); rintro e w3 ⟨he, hb3⟩; rw [← HV.out] at he; subst he)
        go_roundg (l.length - (i + 1))
        case measure => have := HQ.out; omega
        case rel => exact ⟨i + 1, s + V, by simp, by simp, by omega, rfl, by have := HS.out; have := HT.out; have := HV.out; omega, below_call HBR.out hb3⟩
      · obtain rfl : i = l.length := by omega
        have hd : decide ((l.length : Int) < (l.length : Int)) = false := by simp
        have he : s = N := by have := HS.out; rw [List.take_length] at this; have := HN.out; omega
        subst he
        go_wp2_with fail
        go_ret
        exact ⟨rfl, HBR.out⟩

set_option maxRecDepth 100000 in
set_option maxHeartbeats 2000000 in
theorem count_any : ∀ (m : Nat) (l : List Nd), SizeOf.sizeOf l ≤ m → ∀ (w : World) (ok : Nat → Prop) (A : Option Addr) (n c : Nat), cnts l ≤ 1000000 → Rd w ok (.slice A n c) (.sl 39 4 (ndsTr 39 l)) →
    Calls Tryd.prog 19 #[.slice A n c] w fun e w' => e = .returned (.int .i64 (cnts l : Int)) ∧ Below w.heap.size w w' := by
  intro m
  induction m with
  | zero => intro l hl; exfalso; cases l <;> simp at hl
  | succ m ih =>
    intro l hsz w ok A n c hcn hr
    have hl := hr.len
    rw [ndsTr_length] at hl
    obtain ⟨rfl, hl2, hl3⟩ : n = l.length ∧ n ≤ c ∧ c ≤ maxLen := ⟨by omega, hl.2⟩
    simp only [maxLen] at hl3
    have hll := cnts_len l
    have hl6 : (l.length : Int) ≤ 1000000 := by omega
    obtain ⟨N, hN⟩ : ∃ N, N = cnts l := ⟨_, rfl⟩
    rw [← hN] at hcn ⊢
    have HN := Lib.hid hN
    have HR := Lib.hid hr
    have IH := Lib.hid ih
    have HSZ := Lib.hid hsz
    have HB := Lib.hid (Below.refl w.heap.size w)
    clear ih hr hl hsz hll hN
    go_enter Tryd.func19, Tryd.ntmps19
    go_wp2_with fail
    go_loopg [3, 10] l.length (fun q sv iv wr => ∃ (i s : Nat), sv = .int .i64 (s : Int) ∧ iv = .int .i64 (i : Int) ∧ Hid (i ≤ l.length ∧ q = l.length - i ∧ s + i = l.length + cnts (l.take i) ∧ Below w.heap.size w wr))
    case atStart => exact ⟨0, l.length, rfl, rfl, Nat.zero_le _, rfl, by simp [cnts], HB.out⟩
    case round =>
      obtain ⟨i, s, rfl, rfl, HH⟩ := hrel
      obtain ⟨q1, q2, q3, q4⟩ := HH.out
      have HQ := Lib.hid q2
      have HS := Lib.hid q3
      have HBR := Lib.hid q4
      have hct := cnts_take l i
      have hsb : s ≤ 2000000 := by have := HN.out; omega
      have hsI : (s : Int) ≤ 2000000 := by omega
      have hs0 : (0 : Int) ≤ (s : Int) := by omega
      clear HH q2 q3 q4 hct
      by_cases hlt : i < l.length
      · have hx : l[i]? = some l[i] := List.getElem?_eq_getElem hlt
        obtain ⟨y, hye⟩ : ∃ y, y = l[i] := ⟨_, rfl⟩
        rw [← hye] at hx
        obtain ⟨b, o, KA, KN, KC, rfl, -, -, p0, p1, p2, p3, p4⟩ := nd_at (HR.out.bl HBR.out) hx
        have hk := kids_sz y
        have hys : SizeOf.sizeOf y.kids ≤ m := by have := kids_at hx; have := HSZ.out; omega
        have hca := cnt_at hx
        rw [cnt_kids] at hca
        have hyc : cnts y.kids ≤ 1000000 := by have := HN.out; omega
        have hts := cnts_take_succ l i y hx
        rw [cnt_kids] at hts
        obtain ⟨V, hV⟩ : ∃ V, V = cnts y.kids := ⟨_, rfl⟩
        have hVI : (V : Int) ≤ 1000000 := by omega
        have hV0 : (0 : Int) ≤ (V : Int) := by omega
        have HYS := Lib.hid hys
        have HYC := Lib.hid hyc
        have HT := Lib.hid hts
        have HV := Lib.hid hV
        have P3 := Lib.hid p3
        clear p3 hx hye hys hyc hts hV hca hk
        have hlt' : (i : Int) < (l.length : Int) := by omega
        have hi0 : (0 : Int) ≤ (i : Int) := by omega
        go_wp2_with (go_at_call 19; (with_reducible refine (IH.out y.kids HYS.out _ _ _ _ _ HYC.out (by first | exact P3.out | exact P3.out.alloc _)).mono ?_); rintro e w3 ⟨he, hb3⟩; rw [← HV.out] at he; subst he)
        go_roundg (l.length - (i + 1))
        case measure => have := HQ.out; omega
        case rel => exact ⟨i + 1, s + V, by simp, by simp, by omega, rfl, by have := HS.out; have := HT.out; have := HV.out; omega, below_call (HBR.out.alloc HBR.out.size _) hb3⟩
      · obtain rfl : i = l.length := by omega
        have hd : decide ((l.length : Int) < (l.length : Int)) = false := by simp
        have he : s = N := by have := HS.out; rw [List.take_length] at this; have := HN.out; omega
        subst he
        go_wp2_with fail
        go_ret
        exact ⟨rfl, HBR.out⟩

set_option maxRecDepth 100000 in
set_option maxHeartbeats 2000000 in
theorem nodeDepth_any : ∀ (m : Nat) (l : List Nd), SizeOf.sizeOf l ≤ m → ∀ (w : World) (ok : Nat → Prop) (A : Option Addr) (n c : Nat), cnts l ≤ 1000000 → Rd w ok (.slice A n c) (.sl 26 4 (ndsTr 26 l)) →
    Calls Tryd.prog 22 #[.slice A n c] w fun e w' => e = .returned (.int .i64 (nests l : Int)) ∧ Below w.heap.size w w' := by
  intro m
  induction m with
  | zero => intro l hl; exfalso; cases l <;> simp at hl
  | succ m ih =>
    intro l hsz w ok A n c hcn hr
    have hl := hr.len
    rw [ndsTr_length] at hl
    obtain ⟨rfl, hl2, hl3⟩ : n = l.length ∧ n ≤ c ∧ c ≤ maxLen := ⟨by omega, hl.2⟩
    simp only [maxLen] at hl3
    have hll := cnts_len l
    have hl6 : (l.length : Int) ≤ 1000000 := by omega
    obtain ⟨N, hN⟩ : ∃ N, N = nests l := ⟨_, rfl⟩
    have HCN := Lib.hid hcn
    clear hcn
    rw [← hN]
    have HN := Lib.hid hN
    have HR := Lib.hid hr
    have IH := Lib.hid ih
    have HSZ := Lib.hid hsz
    have HB := Lib.hid (Below.refl w.heap.size w)
    clear ih hr hl hsz hll hN
    go_enter Tryd.func22, Tryd.ntmps22
    go_wp2_with fail
    go_loopg [3, 4] l.length (fun q sv iv wr => ∃ (i s : Nat), sv = .int .i64 (s : Int) ∧ iv = .int .i64 (i : Int) ∧ Hid (i ≤ l.length ∧ q = l.length - i ∧ s = nests (l.take i) ∧ Below w.heap.size w wr))
    case atStart => exact ⟨0, 0, rfl, rfl, Nat.zero_le _, rfl, rfl, HB.out⟩
    case round =>
      obtain ⟨i, s, rfl, rfl, HH⟩ := hrel
      obtain ⟨q1, q2, q3, q4⟩ := HH.out
      have HQ := Lib.hid q2
      have HS := Lib.hid q3
      have HBR := Lib.hid q4
      have hct := cnts_take l i
      have hsb : s ≤ 2000000 := by have := nests_cnts (l.take i); have := HCN.out; have := HS.out; omega
      have hsI : (s : Int) ≤ 2000000 := by omega
      have hs0 : (0 : Int) ≤ (s : Int) := by omega
      clear HH q2 q3 q4 hct
      by_cases hlt : i < l.length
      · have hx : l[i]? = some l[i] := List.getElem?_eq_getElem hlt
        obtain ⟨y, hye⟩ : ∃ y, y = l[i] := ⟨_, rfl⟩
        rw [← hye] at hx
        obtain ⟨b, o, KA, KN, KC, rfl, -, -, p0, p1, p2, p3, p4⟩ := nd_at (HR.out.bl HBR.out) hx
        have hk := kids_sz y
        have hys : SizeOf.sizeOf y.kids ≤ m := by have := kids_at hx; have := HSZ.out; omega
        have hca := cnt_at hx
        rw [cnt_kids] at hca
        have hyc : cnts y.kids ≤ 1000000 := by have := HCN.out; omega
        have hts := nests_take_succ l i y hx
        rw [nest_kids] at hts
        obtain ⟨V, hV⟩ : ∃ V, V = nests y.kids := ⟨_, rfl⟩
        have hvc := nests_cnts y.kids
        have hVI : (V : Int) ≤ 1000000 := by omega
        have hV0 : (0 : Int) ≤ (V : Int) := by omega
        have HYS := Lib.hid hys
        have HYC := Lib.hid hyc
        have HT := Lib.hid hts
        have HV := Lib.hid hV
        have P3 := Lib.hid p3
        clear p3 hx hye hys hyc hts hV hca hk
        have hlt' : (i : Int) < (l.length : Int) := by omega
        have hi0 : (0 : Int) ≤ (i : Int) := by omega
        by_cases hk3 : y.kind = 3
        · have b3 : (y.kind == 3) = true := by simpa using hk3
          have HK3 := Lib.hid hk3
          clear hk3
          go_wp2_with (go_at_call 22; (with_reducible refine (IH.out y.kids HYS.out _ _ _ _ _ HYC.out (by first | exact P3.out | exact P3.out.alloc _)).mono ?_); rintro e w3 ⟨he, hb3⟩; rw [← HV.out] at he; subst he; have p0w := below_cell hb3 p0)
          all_goals
            go_roundg (l.length - (i + 1))
            case measure => have := HQ.out; omega
            case rel =>
              have e1 := HS.out
              have e2 := HT.out
              have e3 := HV.out
              rw [if_pos HK3.out] at e2
              first
                | exact ⟨i + 1, s, by simp, by simp, by omega, rfl, by omega, below_call HBR.out hb3⟩
                | exact ⟨i + 1, V + 1, by simp, by simp, by omega, rfl, by omega, below_call HBR.out hb3⟩
        · have b3 : (y.kind == 3) = false := by simpa using hk3
          have HK3 := Lib.hid hk3
          clear hk3
          go_wp2_with (go_at_call 22; (with_reducible refine (IH.out y.kids HYS.out _ _ _ _ _ HYC.out (by first | exact P3.out | exact P3.out.alloc _)).mono ?_); rintro e w3 ⟨he, hb3⟩; rw [← HV.out] at he; subst he; have p0w := below_cell hb3 p0)
          all_goals
            go_roundg (l.length - (i + 1))
            case measure => have := HQ.out; omega
            case rel =>
              have e1 := HS.out
              have e2 := HT.out
              have e3 := HV.out
              rw [if_neg HK3.out] at e2
              first
                | exact ⟨i + 1, s, by simp, by simp, by omega, rfl, by omega, below_call HBR.out hb3⟩
                | exact ⟨i + 1, V, by simp, by simp, by omega, rfl, by omega, below_call HBR.out hb3⟩
      · obtain rfl : i = l.length := by omega
        have hd : decide ((l.length : Int) < (l.length : Int)) = false := by simp
        have he : s = N := by have := HS.out; rw [List.take_length] at this; have := HN.out; omega
        subst he
        go_wp2_with fail
        go_ret
        exact ⟨rfl, HBR.out⟩

set_option maxRecDepth 100000 in
set_option maxHeartbeats 2000000 in
theorem depth_any : ∀ (m : Nat) (l : List Nd), SizeOf.sizeOf l ≤ m → ∀ (w : World) (ok : Nat → Prop) (A : Option Addr) (n c : Nat), cnts l ≤ 1000000 → Rd w ok (.slice A n c) (.sl 39 4 (ndsTr 39 l)) →
    Calls Tryd.prog 21 #[.slice A n c] w fun e w' => e = .returned (.int .i64 (nests l : Int)) ∧ Below w.heap.size w w' := by
  intro m
  induction m with
  | zero => intro l hl; exfalso; cases l <;> simp at hl
  | succ m ih =>
    intro l hsz w ok A n c hcn hr
    have hl := hr.len
    rw [ndsTr_length] at hl
    obtain ⟨rfl, hl2, hl3⟩ : n = l.length ∧ n ≤ c ∧ c ≤ maxLen := ⟨by omega, hl.2⟩
    simp only [maxLen] at hl3
    have hll := cnts_len l
    have hl6 : (l.length : Int) ≤ 1000000 := by omega
    obtain ⟨N, hN⟩ : ∃ N, N = nests l := ⟨_, rfl⟩
    have HCN := Lib.hid hcn
    clear hcn
    rw [← hN]
    have HN := Lib.hid hN
    have HR := Lib.hid hr
    have IH := Lib.hid ih
    have HSZ := Lib.hid hsz
    have HB := Lib.hid (Below.refl w.heap.size w)
    clear ih hr hl hsz hll hN
    go_enter Tryd.func21, Tryd.ntmps21
    go_wp2_with fail
    go_loopg [3, 9] l.length (fun q sv iv wr => ∃ (i s : Nat), sv = .int .i64 (s : Int) ∧ iv = .int .i64 (i : Int) ∧ Hid (i ≤ l.length ∧ q = l.length - i ∧ s = nests (l.take i) ∧ Below w.heap.size w wr))
    case atStart => exact ⟨0, 0, rfl, rfl, Nat.zero_le _, rfl, rfl, HB.out⟩
    case round =>
      obtain ⟨i, s, rfl, rfl, HH⟩ := hrel
      obtain ⟨q1, q2, q3, q4⟩ := HH.out
      have HQ := Lib.hid q2
      have HS := Lib.hid q3
      have HBR := Lib.hid q4
      have hct := cnts_take l i
      have hsb : s ≤ 2000000 := by have := nests_cnts (l.take i); have := HCN.out; have := HS.out; omega
      have hsI : (s : Int) ≤ 2000000 := by omega
      have hs0 : (0 : Int) ≤ (s : Int) := by omega
      clear HH q2 q3 q4 hct
      by_cases hlt : i < l.length
      · have hx : l[i]? = some l[i] := List.getElem?_eq_getElem hlt
        obtain ⟨y, hye⟩ : ∃ y, y = l[i] := ⟨_, rfl⟩
        rw [← hye] at hx
        obtain ⟨b, o, KA, KN, KC, rfl, -, -, p0, p1, p2, p3, p4⟩ := nd_at (HR.out.bl HBR.out) hx
        have hk := kids_sz y
        have hys : SizeOf.sizeOf y.kids ≤ m := by have := kids_at hx; have := HSZ.out; omega
        have hca := cnt_at hx
        rw [cnt_kids] at hca
        have hyc : cnts y.kids ≤ 1000000 := by have := HCN.out; omega
        have hts := nests_take_succ l i y hx
        rw [nest_kids] at hts
        obtain ⟨V, hV⟩ : ∃ V, V = nests y.kids := ⟨_, rfl⟩
        have hvc := nests_cnts y.kids
        have hVI : (V : Int) ≤ 1000000 := by omega
        have hV0 : (0 : Int) ≤ (V : Int) := by omega
        have HYS := Lib.hid hys
        have HYC := Lib.hid hyc
        have HT := Lib.hid hts
        have HV := Lib.hid hV
        have P3 := Lib.hid p3
        clear p3 hx hye hys hyc hts hV hca hk
        have hlt' : (i : Int) < (l.length : Int) := by omega
        have hi0 : (0 : Int) ≤ (i : Int) := by omega
        by_cases hk3 : y.kind = 3
        · have b3 : (y.kind == 3) = true := by simpa using hk3
          have HK3 := Lib.hid hk3
          clear hk3
          go_wp2_with (go_at_call 21; (with_reducible refine (IH.out y.kids HYS.out _ _ _ _ _ HYC.out (by first | exact P3.out | exact P3.out.alloc _)).mono ?_); rintro e w3 ⟨he, hb3⟩; rw [← HV.out] at he; subst he; have p0w : w3.cell? ⟨wr.heap.size, 0, none⟩ = some (.int .i64 y.kind) := below_cell hb3 ((cell_of_row _ _ 0 _ _ _ (heap_alloc_new wr _)).trans rfl))
          all_goals
            go_roundg (l.length - (i + 1))
            case measure => have := HQ.out; omega
            case rel =>
              have e1 := HS.out
              have e2 := HT.out
              have e3 := HV.out
              rw [if_pos HK3.out] at e2
              first
                | exact ⟨i + 1, s, by simp, by simp, by omega, rfl, by omega, below_call (HBR.out.alloc HBR.out.size _) hb3⟩
                | exact ⟨i + 1, V + 1, by simp, by simp, by omega, rfl, by omega, below_call (HBR.out.alloc HBR.out.size _) hb3⟩
        · have b3 : (y.kind == 3) = false := by simpa using hk3
          have HK3 := Lib.hid hk3
          clear hk3
          go_wp2_with (go_at_call 21; (with_reducible refine (IH.out y.kids HYS.out _ _ _ _ _ HYC.out (by first | exact P3.out | exact P3.out.alloc _)).mono ?_); rintro e w3 ⟨he, hb3⟩; rw [← HV.out] at he; subst he; have p0w : w3.cell? ⟨wr.heap.size, 0, none⟩ = some (.int .i64 y.kind) := below_cell hb3 ((cell_of_row _ _ 0 _ _ _ (heap_alloc_new wr _)).trans rfl))
          all_goals
            go_roundg (l.length - (i + 1))
            case measure => have := HQ.out; omega
            case rel =>
              have e1 := HS.out
              have e2 := HT.out
              have e3 := HV.out
              rw [if_neg HK3.out] at e2
              first
                | exact ⟨i + 1, s, by simp, by simp, by omega, rfl, by omega, below_call (HBR.out.alloc HBR.out.size _) hb3⟩
                | exact ⟨i + 1, V, by simp, by simp, by omega, rfl, by omega, below_call (HBR.out.alloc HBR.out.size _) hb3⟩
      · obtain rfl : i = l.length := by omega
        have hd : decide ((l.length : Int) < (l.length : Int)) = false := by simp
        have he : s = N := by have := HS.out; rw [List.take_length] at this; have := HN.out; omega
        subst he
        go_wp2_with fail
        go_ret
        exact ⟨rfl, HBR.out⟩
end Go.Proofs.YtjpabigjmimogaaDoor
