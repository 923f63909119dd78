/- sexpr.Equal, telref1.NodeEqual: equal but for offsets. -/
import Derived.Test.YtjpabigjmimogaaDoorMeas
import Derived.Test.YtjpabigjmimogaaDoorAny
import Derived.Deep.RegionHeld3
import Derived.Deep.LoopGhost
set_option linter.unusedVariables false
set_option linter.unusedSimpArgs false
namespace Go.Proofs.YtjpabigjmimogaaDoor
open Go.RowKit
attribute [local go_sem ↓] Go.wp_at_zero Go.wp_at_succ

theorem eqN_eq (x y : Nd) : eqN x y = (x.kind == y.kind && decide (x.text = y.text) && eqNs x.kids y.kids) := by cases x; cases y; rw [eqN]; rfl
theorem eqNs_len : ∀ {l m : List Nd}, eqNs l m = true → l.length = m.length
  | [], [], _ => rfl
  | x :: l, y :: m, h => by simp only [eqNs, Bool.and_eq_true] at h; simp [eqNs_len h.2]
  | [], _ :: _, h => by simp [eqNs] at h
  | _ :: _, [], h => by simp [eqNs] at h
/-- Two lists, split at i. -/
theorem eqNs_at : ∀ {l m : List Nd} (i : Nat) {x y : Nd}, l[i]? = some x → m[i]? = some y → l.length = m.length → eqNs (l.take i) (m.take i) = true → eqNs l m = (eqN x y && eqNs (l.drop (i + 1)) (m.drop (i + 1)))
  | [], _, i, x, y, h, _, _, _ => by simp at h
  | _ :: _, [], i, x, y, _, h, _, _ => by simp at h
  | a :: l, b :: m, 0, x, y, h1, h2, _, _ => by simp at h1 h2; subst h1 h2; simp [eqNs]
  | a :: l, b :: m, i + 1, x, y, h1, h2, hl, h => by
    simp only [List.take_succ_cons, eqNs, Bool.and_eq_true] at h
    simp only [List.getElem?_cons_succ] at h1 h2
    simp only [eqNs, h.1, Bool.true_and, List.drop_succ_cons]
    exact eqNs_at i h1 h2 (by simpa using hl) h.2
theorem eqNs_take_succ : ∀ {l m : List Nd} (i : Nat) {x y : Nd}, l[i]? = some x → m[i]? = some y → eqNs (l.take i) (m.take i) = true → eqN x y = true → eqNs (l.take (i + 1)) (m.take (i + 1)) = true := by
  intro l m i x y h1 h2 h3 h4
  rw [take_snoc_at l i x h1, take_snoc_at m i y h2]
  exact eqNs_append h3 (by simp [eqNs, h4])
theorem eqN_refl : ∀ (m : Nat), (∀ x : Nd, SizeOf.sizeOf x ≤ m → eqN x x = true) ∧ (∀ l : List Nd, SizeOf.sizeOf l ≤ m → eqNs l l = true) := by
  intro m
  induction m with
  | zero =>
    refine ⟨fun x hx => ?_, fun l hl => ?_⟩
    · cases x; simp at hx
    · cases l <;> simp at hl
  | succ m ih =>
    refine ⟨fun x hx => ?_, fun l hl => ?_⟩
    · rw [eqN_eq]
      have := kids_sz x
      simp [ih.2 x.kids (by omega)]
    · cases l with
      | nil => rfl
      | cons x l =>
        simp only [eqNs, Bool.and_eq_true]
        exact ⟨ih.1 x (by simp at hl; omega), ih.2 l (by simp at hl; omega)⟩


set_option maxRecDepth 100000 in
set_option maxHeartbeats 4000000 in
theorem nodeEqual_any : ∀ (m : Nat) (x y : Nd), SizeOf.sizeOf x ≤ m → ∀ (w : World) (ok ok' : Nat → Prop) (A A' : Option Addr) (n n' c c' : Nat),
    Rd w ok (.slice A n c) (.sl 26 4 (ndsTr 26 x.kids)) → Rd w ok' (.slice A' n' c') (.sl 26 4 (ndsTr 26 y.kids)) →
    Calls Tryd.prog 23 #[.agg #[.int .i64 x.kind, .string x.text, .slice A n c, .int .i64 x.off], .agg #[.int .i64 y.kind, .string y.text, .slice A' n' c', .int .i64 y.off]] w fun e w' => e = .returned (.bool (eqN x y)) ∧ Below w.heap.size w w' := by
  intro m
  induction m with
  | zero => intro x y hx; exfalso; cases x; simp at hx
  | succ m ih =>
    intro x y hx w ok ok' A A' n n' c c' h1 h2
    have hl1 := h1.len
    have hl2 := h2.len
    rw [ndsTr_length] at hl1 hl2
    obtain ⟨rfl, hc1, hm1⟩ : n = x.kids.length ∧ n ≤ c ∧ c ≤ maxLen := ⟨by omega, hl1.2⟩
    obtain ⟨rfl, hc2, hm2⟩ : n' = y.kids.length ∧ n' ≤ c' ∧ c' ≤ maxLen := ⟨by omega, hl2.2⟩
    simp only [maxLen] at hm1 hm2
    obtain ⟨l, hkl⟩ : ∃ l, l = x.kids := ⟨_, rfl⟩
    obtain ⟨l', hkl'⟩ : ∃ l', l' = y.kids := ⟨_, rfl⟩
    obtain ⟨E, hE⟩ : ∃ E, E = eqN x y := ⟨_, rfl⟩
    have hsz : SizeOf.sizeOf l ≤ m := by have := kids_sz x; rw [hkl]; omega
    have hEE := eqN_eq x y
    rw [← hkl, ← hkl', ← hE] at hEE
    rw [← hkl] at h1 hl1 hc1 ⊢
    rw [← hkl'] at h2 hl2 hc2 ⊢
    rw [← hE]
    have HE := Lib.hid hEE
    have IH := Lib.hid ih
    have HSZ := Lib.hid hsz
    have hb1 := heap_alloc_new w (.cells #[.int .i64 x.kind, .string x.text, .slice A l.length c, .int .i64 x.off] 26)
    have hb2 := heap_alloc_new (w.alloc (.cells #[.int .i64 x.kind, .string x.text, .slice A l.length c, .int .i64 x.off] 26)) (.cells #[.int .i64 y.kind, .string y.text, .slice A' l'.length c', .int .i64 y.off] 26)
    obtain ⟨W, hW⟩ : ∃ W, W = (w.alloc (.cells #[.int .i64 x.kind, .string x.text, .slice A l.length c, .int .i64 x.off] 26)).alloc (.cells #[.int .i64 y.kind, .string y.text, .slice A' l'.length c', .int .i64 y.off] 26) := ⟨_, rfl⟩
    have hb1' := blk_al hb1 (o' := .cells #[.int .i64 y.kind, .string y.text, .slice A' l'.length c', .int .i64 y.off] 26)
    have h1' := (h1.alloc (.cells #[.int .i64 x.kind, .string x.text, .slice A l.length c, .int .i64 x.off] 26)).alloc (.cells #[.int .i64 y.kind, .string y.text, .slice A' l'.length c', .int .i64 y.off] 26)
    have h2' := (h2.alloc (.cells #[.int .i64 x.kind, .string x.text, .slice A l.length c, .int .i64 x.off] 26)).alloc (.cells #[.int .i64 y.kind, .string y.text, .slice A' l'.length c', .int .i64 y.off] 26)
    have hbw : Below w.heap.size w W := by rw [hW]; exact ((Below.refl _ _).alloc (Nat.le_refl _) _).alloc (by simp) _
    have hsW : W.heap.size = w.heap.size + 1 + 1 := by rw [hW]; simp
    rw [← hW] at hb1' hb2 h1' h2'
    simp only [World.size_alloc] at hb2
    have HB1 := Lib.hid hb1'
    have HB2 := Lib.hid hb2
    have HR1 := Lib.hid h1'
    have HR2 := Lib.hid h2'
    have HBW := Lib.hid hbw
    have HSW := Lib.hid hsW
    have HW := Lib.hid hW
    clear hEE ih hsz hb1 hb2 hb1' h1 h2 h1' h2' hbw hsW hW hkl hkl' hE hl1 hl2 hx
    by_cases hk : x.kind = y.kind
    · have k1 : (x.kind == y.kind) = true := by simpa using hk
      have k2 : (x.kind != y.kind) = false := by simpa using hk
      by_cases ht : x.text = y.text
      · have t1 : (x.text.toList == y.text.toList) = true := by rw [ht]; simp
        have t2 : (!(x.text.toList == y.text.toList)) = false := by rw [ht]; simp
        have t3 : x.text.toList = y.text.toList := by rw [ht]
        by_cases hn : l.length = l'.length
        · have HE2 := Lib.hid (show E = eqNs l l' by rw [HE.out, k1, decide_eq_true ht]; simp)
          have HN := Lib.hid hn
          have n1 : ((l.length : Int) != (l'.length : Int)) = false := by simp; omega
          have n2 : ((l.length : Int) == (l'.length : Int)) = true := by simp; omega
          have n3 : (l.length == l'.length) = true := by simp; omega
          have n4 : (l.length != l'.length) = false := by simp; omega
          clear hn hk ht
          go_enter Tryd.func23, Tryd.ntmps23
          go_wp2_with fail
          go_loopg [5] l.length (fun q iv wr => ∃ (i : Nat), iv = .int .i64 (i : Int) ∧ Hid (i ≤ l.length ∧ q = l.length - i ∧ eqNs (l.take i) (l'.take i) = true ∧ Below (w.heap.size + 1 + 1) W wr))
          case atStart => exact ⟨0, rfl, Nat.zero_le _, rfl, rfl, by rw [HW.out]; exact Below.refl _ _⟩
          case round =>
            obtain ⟨i, rfl, HH⟩ := hrel
            obtain ⟨q1, q2, q3, q4⟩ := HH.out
            have HQ := Lib.hid q2
            have HP := Lib.hid q3
            have HBR := Lib.hid q4
            obtain ⟨c0, c1, c2, c3, -, -, -, -⟩ := four ((q4.block w.heap.size (by omega)).trans HB1.out)
            obtain ⟨c0', c1', c2', c3', -, -, -, -⟩ := four ((q4.block (w.heap.size + 1) (by omega)).trans HB2.out)
            clear HH q2 q3 q4
            by_cases hlt : i < l.length
            · have hx : l[i]? = some l[i] := List.getElem?_eq_getElem hlt
              have hlt2 : i < l'.length := by have := HN.out; omega
              have hy : l'[i]? = some l'[i] := List.getElem?_eq_getElem hlt2
              obtain ⟨a, hae⟩ : ∃ a, a = l[i] := ⟨_, rfl⟩
              obtain ⟨a', hae'⟩ : ∃ a', a' = l'[i] := ⟨_, rfl⟩
              rw [← hae] at hx
              rw [← hae'] at hy
              obtain ⟨b, o, KA, KN, KC, rfl, -, -, p0, p1, p2, p3, p4⟩ := nd_at (HR1.out.bl (by rw [HSW.out]; exact HBR.out)) hx
              obtain ⟨b', o', KA', KN', KC', rfl, -, -, p0', p1', p2', p3', p4'⟩ := nd_at (HR2.out.bl (by rw [HSW.out]; exact HBR.out)) hy
              have has : SizeOf.sizeOf a ≤ m := by have := kids_at hx; have := HSZ.out; omega
              have HAS := Lib.hid has
              have P3 := Lib.hid p3
              have P3' := Lib.hid p3'
              have HX := Lib.hid hx
              have HY := Lib.hid hy
              have hlt' : (i : Int) < (l.length : Int) := by omega
              have hlt2' : (i : Int) < (l'.length : Int) := by omega
              have hi0 : (0 : Int) ≤ (i : Int) := by omega
              obtain ⟨V, hV⟩ : ∃ V, V = eqN a a' := ⟨_, rfl⟩
              have HV := Lib.hid hV
              clear p3 p3' hx hy hae hae' has hV
              cases V
              all_goals
                go_wp2_with fail
                go_region_held3 (fun W' => W'.cell? ⟨w.heap.size, 2, none⟩ = some (.slice (some ⟨b, o, none⟩) l.length c) ∧ W'.cell? ⟨w.heap.size + 1, 2, none⟩ = some (.slice (some ⟨b', o', none⟩) l'.length c') ∧
                    W'.cell? ⟨b, o + i * 4, none⟩ = some (.int .i64 a.kind) ∧ W'.cell? ⟨b, o + i * 4 + 1, none⟩ = some (.string a.text) ∧ W'.cell? ⟨b, o + i * 4 + 2, none⟩ = some (.slice KA KN KC) ∧ W'.cell? ⟨b, o + i * 4 + 3, none⟩ = some (.int .i64 a.off) ∧
                    W'.cell? ⟨b', o' + i * 4, none⟩ = some (.int .i64 a'.kind) ∧ W'.cell? ⟨b', o' + i * 4 + 1, none⟩ = some (.string a'.text) ∧ W'.cell? ⟨b', o' + i * 4 + 2, none⟩ = some (.slice KA' KN' KC') ∧ W'.cell? ⟨b', o' + i * 4 + 3, none⟩ = some (.int .i64 a'.off))
                  (first | exact ⟨c2, c2', p0, p1, p2, p4, p0', p1', p2', p4'⟩ | exact ⟨below_cell hb3 c2, below_cell hb3 c2', below_cell hb3 p0, below_cell hb3 p1, below_cell hb3 p2, below_cell hb3 p4, below_cell hb3 p0', below_cell hb3 p1', below_cell hb3 p2', below_cell hb3 p4'⟩)
                  (((go_at_call 23; (with_reducible refine (IH.out a a' HAS.out _ _ _ _ _ _ _ _ _ (by exact P3.out.drew) (by exact P3'.out.drew)).mono ?_); rintro e w3 ⟨he, hb3⟩; rw [← HV.out] at he; subst he)))
                have hb4 : Below (w.heap.size + 1 + 1) wr.drew w3 := hb3.mono (by have := HBR.out.size; have := HSW.out; show w.heap.size + 1 + 1 ≤ wr.heap.size; omega)
                go_wp2_with fail
              · go_ret
                refine ⟨?_, HBW.out.trans ((HBR.out.drew.trans hb4).mono (by omega))⟩
                have := eqNs_at i HX.out HY.out HN.out HP.out
                rw [← HV.out, Bool.false_and] at this
                rw [HE2.out, this]
                rfl
              · go_roundg (l.length - (i + 1))
                case measure => have := HQ.out; omega
                case rel => exact ⟨i + 1, by simp, by omega, rfl, eqNs_take_succ i HX.out HY.out HP.out HV.out.symm, HBR.out.drew.trans hb4⟩
            · obtain rfl : i = l.length := by omega
              have hd : decide ((l.length : Int) < (l.length : Int)) = false := by simp
              have he := HP.out
              rw [List.take_length, HN.out, List.take_length, ← HE2.out] at he
              have HEt := Lib.hid he
              clear he
              go_wp2_with fail
              go_ret
              exact ⟨by rw [HEt.out]; rfl, HBW.out.trans (HBR.out.mono (by omega))⟩
        · have he : E = false := by
            rw [HE.out]
            cases hq : eqNs l l' with
            | true => exact absurd (eqNs_len hq) hn
            | false => simp
          have n1 : ((l.length : Int) != (l'.length : Int)) = true := by simp; omega
          have n2 : ((l.length : Int) == (l'.length : Int)) = false := by simp; omega
          have n3 : (l.length == l'.length) = false := by simp; omega
          have n4 : (l.length != l'.length) = true := by simp; omega
          have HEt := Lib.hid he
          clear he hn hk ht
          go_enter Tryd.func23, Tryd.ntmps23
          go_wp2_with fail
          go_ret
          exact ⟨by rw [HEt.out]; rfl, by have := HBW.out; rw [HW.out] at this; exact this⟩
      · have he : E = false := by rw [HE.out, decide_eq_false ht]; simp
        have t3 : ¬ x.text.toList = y.text.toList := by
          rw [ByteArray.toList_eq, ByteArray.toList_eq]
          exact fun e => ht (ByteArray.ext (Array.toList_inj.1 e))
        have t1 : (x.text.toList == y.text.toList) = false := by simpa using t3
        have t2 : (!(x.text.toList == y.text.toList)) = true := by rw [t1]; rfl
        have HEt := Lib.hid he
        clear he hk ht
        go_enter Tryd.func23, Tryd.ntmps23
        go_wp2_with fail
        go_ret
        exact ⟨by rw [HEt.out]; rfl, by have := HBW.out; rw [HW.out] at this; exact this⟩
    · have k1 : (x.kind == y.kind) = false := by simpa using hk
      have k2 : (x.kind != y.kind) = true := by simpa using hk
      have he : E = false := by rw [HE.out, k1]; simp
      have HEt := Lib.hid he
      clear he hk
      go_enter Tryd.func23, Tryd.ntmps23
      go_wp2_with fail
      go_ret
      exact ⟨by rw [HEt.out]; rfl, by have := HBW.out; rw [HW.out] at this; exact this⟩

set_option maxRecDepth 100000 in
set_option maxHeartbeats 4000000 in
theorem equal_any : ∀ (m : Nat) (x y : Nd), SizeOf.sizeOf x ≤ m → ∀ (w : World) (ok ok' : Nat → Prop) (A A' : Option Addr) (n n' c c' : Nat),
    Rd w ok (.slice A n c) (.sl 39 4 (ndsTr 39 x.kids)) → Rd w ok' (.slice A' n' c') (.sl 39 4 (ndsTr 39 y.kids)) →
    Calls Tryd.prog 17 #[.agg #[.int .i64 x.kind, .string x.text, .slice A n c, .int .i64 x.off], .agg #[.int .i64 y.kind, .string y.text, .slice A' n' c', .int .i64 y.off]] w fun e w' => e = .returned (.bool (eqN x y)) ∧ Below w.heap.size w w' := by
  intro m
  induction m with
  | zero => intro x y hx; exfalso; cases x; simp at hx
  | succ m ih =>
    intro x y hx w ok ok' A A' n n' c c' h1 h2
    have hl1 := h1.len
    have hl2 := h2.len
    rw [ndsTr_length] at hl1 hl2
    obtain ⟨rfl, hc1, hm1⟩ : n = x.kids.length ∧ n ≤ c ∧ c ≤ maxLen := ⟨by omega, hl1.2⟩
    obtain ⟨rfl, hc2, hm2⟩ : n' = y.kids.length ∧ n' ≤ c' ∧ c' ≤ maxLen := ⟨by omega, hl2.2⟩
    simp only [maxLen] at hm1 hm2
    obtain ⟨l, hkl⟩ : ∃ l, l = x.kids := ⟨_, rfl⟩
    obtain ⟨l', hkl'⟩ : ∃ l', l' = y.kids := ⟨_, rfl⟩
    obtain ⟨E, hE⟩ : ∃ E, E = eqN x y := ⟨_, rfl⟩
    have hsz : SizeOf.sizeOf l ≤ m := by have := kids_sz x; rw [hkl]; omega
    have hEE := eqN_eq x y
    rw [← hkl, ← hkl', ← hE] at hEE
    rw [← hkl] at h1 hl1 hc1 ⊢
    rw [← hkl'] at h2 hl2 hc2 ⊢
    rw [← hE]
    have HE := Lib.hid hEE
    have IH := Lib.hid ih
    have HSZ := Lib.hid hsz
    have hb1 := heap_alloc_new w (.cells #[.int .i64 x.kind, .string x.text, .slice A l.length c, .int .i64 x.off] 39)
    have hb2 := heap_alloc_new (w.alloc (.cells #[.int .i64 x.kind, .string x.text, .slice A l.length c, .int .i64 x.off] 39)) (.cells #[.int .i64 y.kind, .string y.text, .slice A' l'.length c', .int .i64 y.off] 39)
    obtain ⟨W, hW⟩ : ∃ W, W = (w.alloc (.cells #[.int .i64 x.kind, .string x.text, .slice A l.length c, .int .i64 x.off] 39)).alloc (.cells #[.int .i64 y.kind, .string y.text, .slice A' l'.length c', .int .i64 y.off] 39) := ⟨_, rfl⟩
    have hb1' := blk_al hb1 (o' := .cells #[.int .i64 y.kind, .string y.text, .slice A' l'.length c', .int .i64 y.off] 39)
    have h1' := (h1.alloc (.cells #[.int .i64 x.kind, .string x.text, .slice A l.length c, .int .i64 x.off] 39)).alloc (.cells #[.int .i64 y.kind, .string y.text, .slice A' l'.length c', .int .i64 y.off] 39)
    have h2' := (h2.alloc (.cells #[.int .i64 x.kind, .string x.text, .slice A l.length c, .int .i64 x.off] 39)).alloc (.cells #[.int .i64 y.kind, .string y.text, .slice A' l'.length c', .int .i64 y.off] 39)
    have hbw : Below w.heap.size w W := by rw [hW]; exact ((Below.refl _ _).alloc (Nat.le_refl _) _).alloc (by simp) _
    have hsW : W.heap.size = w.heap.size + 1 + 1 := by rw [hW]; simp
    rw [← hW] at hb1' hb2 h1' h2'
    simp only [World.size_alloc] at hb2
    have HB1 := Lib.hid hb1'
    have HB2 := Lib.hid hb2
    have HR1 := Lib.hid h1'
    have HR2 := Lib.hid h2'
    have HBW := Lib.hid hbw
    have HSW := Lib.hid hsW
    have HW := Lib.hid hW
    clear hEE ih hsz hb1 hb2 hb1' h1 h2 h1' h2' hbw hsW hW hkl hkl' hE hl1 hl2 hx
    by_cases hk : x.kind = y.kind
    · have k1 : (x.kind == y.kind) = true := by simpa using hk
      have k2 : (x.kind != y.kind) = false := by simpa using hk
      by_cases ht : x.text = y.text
      · have t1 : (x.text.toList == y.text.toList) = true := by rw [ht]; simp
        have t2 : (!(x.text.toList == y.text.toList)) = false := by rw [ht]; simp
        have t3 : x.text.toList = y.text.toList := by rw [ht]
        by_cases hn : l.length = l'.length
        · have HE2 := Lib.hid (show E = eqNs l l' by rw [HE.out, k1, decide_eq_true ht]; simp)
          have HN := Lib.hid hn
          have n1 : ((l.length : Int) != (l'.length : Int)) = false := by simp; omega
          have n2 : ((l.length : Int) == (l'.length : Int)) = true := by simp; omega
          have n3 : (l.length == l'.length) = true := by simp; omega
          have n4 : (l.length != l'.length) = false := by simp; omega
          clear hn hk ht
          go_enter Tryd.func17, Tryd.ntmps17
          go_wp2_with fail
          go_loopg [30] l.length (fun q iv wr => ∃ (i : Nat), iv = .int .i64 (i : Int) ∧ Hid (i ≤ l.length ∧ q = l.length - i ∧ eqNs (l.take i) (l'.take i) = true ∧ Below (w.heap.size + 1 + 1) W wr))
          case atStart => exact ⟨0, rfl, Nat.zero_le _, rfl, rfl, by rw [HW.out]; exact Below.refl _ _⟩
          case round =>
            obtain ⟨i, rfl, HH⟩ := hrel
            obtain ⟨q1, q2, q3, q4⟩ := HH.out
            have HQ := Lib.hid q2
            have HP := Lib.hid q3
            have HBR := Lib.hid q4
            obtain ⟨c0, c1, c2, c3, -, -, -, -⟩ := four ((q4.block w.heap.size (by omega)).trans HB1.out)
            obtain ⟨c0', c1', c2', c3', -, -, -, -⟩ := four ((q4.block (w.heap.size + 1) (by omega)).trans HB2.out)
            clear HH q2 q3 q4
            by_cases hlt : i < l.length
            · have hx : l[i]? = some l[i] := List.getElem?_eq_getElem hlt
              have hlt2 : i < l'.length := by have := HN.out; omega
              have hy : l'[i]? = some l'[i] := List.getElem?_eq_getElem hlt2
              obtain ⟨a, hae⟩ : ∃ a, a = l[i] := ⟨_, rfl⟩
              obtain ⟨a', hae'⟩ : ∃ a', a' = l'[i] := ⟨_, rfl⟩
              rw [← hae] at hx
              rw [← hae'] at hy
              obtain ⟨b, o, KA, KN, KC, rfl, -, -, p0, p1, p2, p3, p4⟩ := nd_at (HR1.out.bl (by rw [HSW.out]; exact HBR.out)) hx
              obtain ⟨b', o', KA', KN', KC', rfl, -, -, p0', p1', p2', p3', p4'⟩ := nd_at (HR2.out.bl (by rw [HSW.out]; exact HBR.out)) hy
              have has : SizeOf.sizeOf a ≤ m := by have := kids_at hx; have := HSZ.out; omega
              have HAS := Lib.hid has
              have P3 := Lib.hid p3
              have P3' := Lib.hid p3'
              have HX := Lib.hid hx
              have HY := Lib.hid hy
              have hlt' : (i : Int) < (l.length : Int) := by omega
              have hlt2' : (i : Int) < (l'.length : Int) := by omega
              have hi0 : (0 : Int) ≤ (i : Int) := by omega
              obtain ⟨V, hV⟩ : ∃ V, V = eqN a a' := ⟨_, rfl⟩
              have HV := Lib.hid hV
              clear p3 p3' hx hy hae hae' has hV
              cases V
              all_goals
                go_wp2_with fail
                go_region_held3 (fun W' => W'.cell? ⟨w.heap.size, 2, none⟩ = some (.slice (some ⟨b, o, none⟩) l.length c) ∧ W'.cell? ⟨w.heap.size + 1, 2, none⟩ = some (.slice (some ⟨b', o', none⟩) l'.length c') ∧
                    W'.cell? ⟨b, o + i * 4, none⟩ = some (.int .i64 a.kind) ∧ W'.cell? ⟨b, o + i * 4 + 1, none⟩ = some (.string a.text) ∧ W'.cell? ⟨b, o + i * 4 + 2, none⟩ = some (.slice KA KN KC) ∧ W'.cell? ⟨b, o + i * 4 + 3, none⟩ = some (.int .i64 a.off) ∧
                    W'.cell? ⟨b', o' + i * 4, none⟩ = some (.int .i64 a'.kind) ∧ W'.cell? ⟨b', o' + i * 4 + 1, none⟩ = some (.string a'.text) ∧ W'.cell? ⟨b', o' + i * 4 + 2, none⟩ = some (.slice KA' KN' KC') ∧ W'.cell? ⟨b', o' + i * 4 + 3, none⟩ = some (.int .i64 a'.off))
                  (first | exact ⟨c2, c2', p0, p1, p2, p4, p0', p1', p2', p4'⟩ | exact ⟨below_cell hb3 c2, below_cell hb3 c2', below_cell hb3 p0, below_cell hb3 p1, below_cell hb3 p2, below_cell hb3 p4, below_cell hb3 p0', below_cell hb3 p1', below_cell hb3 p2', below_cell hb3 p4'⟩)
                  (((go_at_call 17; (with_reducible refine (IH.out a a' HAS.out _ _ _ _ _ _ _ _ _ (by exact P3.out.drew) (by exact P3'.out.drew)).mono ?_); rintro e w3 ⟨he, hb3⟩; rw [← HV.out] at he; subst he)))
                have hb4 : Below (w.heap.size + 1 + 1) wr.drew w3 := hb3.mono (by have := HBR.out.size; have := HSW.out; show w.heap.size + 1 + 1 ≤ wr.heap.size; omega)
                go_wp2_with fail
              · go_ret
                refine ⟨?_, HBW.out.trans ((HBR.out.drew.trans hb4).mono (by omega))⟩
                have := eqNs_at i HX.out HY.out HN.out HP.out
                rw [← HV.out, Bool.false_and] at this
                rw [HE2.out, this]
                rfl
              · go_roundg (l.length - (i + 1))
                case measure => have := HQ.out; omega
                case rel => exact ⟨i + 1, by simp, by omega, rfl, eqNs_take_succ i HX.out HY.out HP.out HV.out.symm, HBR.out.drew.trans hb4⟩
            · obtain rfl : i = l.length := by omega
              have hd : decide ((l.length : Int) < (l.length : Int)) = false := by simp
              have he := HP.out
              rw [List.take_length, HN.out, List.take_length, ← HE2.out] at he
              have HEt := Lib.hid he
              clear he
              go_wp2_with fail
              go_ret
              exact ⟨by rw [HEt.out]; rfl, HBW.out.trans (HBR.out.mono (by omega))⟩
        · have he : E = false := by
            rw [HE.out]
            cases hq : eqNs l l' with
            | true => exact absurd (eqNs_len hq) hn
            | false => simp
          have n1 : ((l.length : Int) != (l'.length : Int)) = true := by simp; omega
          have n2 : ((l.length : Int) == (l'.length : Int)) = false := by simp; omega
          have n3 : (l.length == l'.length) = false := by simp; omega
          have n4 : (l.length != l'.length) = true := by simp; omega
          have HEt := Lib.hid he
          clear he hn hk ht
          go_enter Tryd.func17, Tryd.ntmps17
          go_wp2_with fail
          go_ret
          exact ⟨by rw [HEt.out]; rfl, by have := HBW.out; rw [HW.out] at this; exact this⟩
      · have he : E = false := by rw [HE.out, decide_eq_false ht]; simp
        have t3 : ¬ x.text.toList = y.text.toList := by
          rw [ByteArray.toList_eq, ByteArray.toList_eq]
          exact fun e => ht (ByteArray.ext (Array.toList_inj.1 e))
        have t1 : (x.text.toList == y.text.toList) = false := by simpa using t3
        have t2 : (!(x.text.toList == y.text.toList)) = true := by rw [t1]; rfl
        have HEt := Lib.hid he
        clear he hk ht
        go_enter Tryd.func17, Tryd.ntmps17
        go_wp2_with fail
        go_ret
        exact ⟨by rw [HEt.out]; rfl, by have := HBW.out; rw [HW.out] at this; exact this⟩
    · have k1 : (x.kind == y.kind) = false := by simpa using hk
      have k2 : (x.kind != y.kind) = true := by simpa using hk
      have he : E = false := by rw [HE.out, k1]; simp
      have HEt := Lib.hid he
      clear he hk
      go_enter Tryd.func17, Tryd.ntmps17
      go_wp2_with fail
      go_ret
      exact ⟨by rw [HEt.out]; rfl, by have := HBW.out; rw [HW.out] at this; exact this⟩
end Go.Proofs.YtjpabigjmimogaaDoor
