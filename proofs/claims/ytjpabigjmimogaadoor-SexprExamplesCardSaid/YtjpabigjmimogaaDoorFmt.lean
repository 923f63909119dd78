/- telref1.Quote and FormatNode: the text of a node. -/
import Derived.Test.YtjpabigjmimogaaDoorFmtSpec
import Derived.Test.YtjpabigjmimogaaDoorQuoted
import Derived.Test.YtjpabigjmimogaaDoorAny
import Derived.Deep.LoopGhost
import Derived.Laws.OwnMore
import Derived.Laws.Concat
import Derived.OwnWalk
set_option linter.unusedVariables false
set_option linter.unusedSimpArgs false
namespace Go.Proofs.YtjpabigjmimogaaDoor
open Go.RowKit

theorem nums_take_succ (s : ByteArray) (i : Nat) (hi : i < s.size) : (nums s).take (i + 1) = (nums s).take i ++ [bat s i] := by
  rw [List.take_add_one, nums_at s i hi, Option.toList_some]
theorem esc_take (s : ByteArray) (i : Nat) (hi : i < s.size) : esc ((nums s).take (i + 1)) = esc ((nums s).take i) ++ (if bat s i = 34 ∨ bat s i = 92 then [92, bat s i] else [bat s i]) := by
  rw [nums_take_succ s i hi, esc_append, esc_cons]
  simp [esc]
theorem esc_take_len (s : ByteArray) (i : Nat) : (esc ((nums s).take i)).length ≤ 2 * i := by
  have := (esc_length ((nums s).take i)).1
  have h2 : ((nums s).take i).length ≤ i := by rw [List.length_take]; omega
  omega

set_option maxRecDepth 100000 in
set_option maxHeartbeats 2000000 in
theorem quote_any (s : ByteArray) (hs : s.size ≤ 1000000) (w : World) : Calls Tryd.prog 32 #[.string s] w fun e w' => e = .returned (.string (strOfNums (quoteL (nums s)))) ∧ Below w.heap.size w w' := by
  have HB := Lib.hid (Below.refl w.heap.size w)
  obtain ⟨i0, hi, hz0, hz1, hz2⟩ := info_parts byte_info
  go_enter Tryd.func32, Tryd.ntmps32
  go_wp2_with fail
  go_loopg [3, 4] s.size (fun q bv iv wr => ∃ (A : Option Addr) (n C : Nat) (ys : List Int) (i : Nat), bv = .slice A n C ∧ iv = .int .i64 (i : Int) ∧ Hid (i ≤ s.size ∧ q = s.size - i ∧ ys = 34 :: esc ((nums s).take i) ∧ ys.length = n ∧ n ≤ 2 * i + 1 ∧ Below w.heap.size w wr ∧ wr.ownsRow w.heap.size 5 1 (.slice A n C) n (bytesV ys)))
  case atStart => exact ⟨_, 1, 1, [34], 0, rfl, rfl, Nat.zero_le _, rfl, by simp [esc], rfl, by omega, HB.out.alloc (Nat.le_refl _) _, World.ownsRow_lit w #[.int .u8 34] 1 (Nat.le_refl _) (by decide) rfl⟩
  case round =>
    obtain ⟨A, n, C, ys, i, rfl, rfl, HR⟩ := hrel
    obtain ⟨r1, r2, r3, r4, r5, r6, r7⟩ := HR.out
    have HQ := Lib.hid r2
    have HY := Lib.hid r3
    have HL := Lib.hid r4
    have HBW := Lib.hid r6
    have HOWN := Lib.hid r7
    clear HR r2 r3 r4 r6 r7
    by_cases hlt : i < s.size
    · have hi' : (i : Int) < (s.size : Int) := by omega
      have hi0 : (0 : Int) ≤ (i : Int) := by omega
      have hat := bat_at s i
      have het := esc_take s i hlt
      by_cases hq : bat s i = 34 ∨ bat s i = 92
      · rw [if_pos hq] at het
        have HE := Lib.hid het
        clear het
        have b1 : (bat s i == 34) = true ∨ (bat s i == 34) = false ∧ (bat s i == 92) = true := by
          rcases hq with hq | hq
          · exact .inl (by simpa using hq)
          · exact .inr ⟨by simp; omega, by simpa using hq⟩
        clear hq
        rcases b1 with b1 | ⟨b1, b2⟩
        all_goals
          go_wp2_with (first
            | (at_builtin; refine wpList_append_lies _ rfl (.tmp 22) (.tmp 23) 69 rfl w.heap.size 5 i0 (.int .u8 0) 1 1 Tryd.underlying69 hi hz0 hz1 hz2 rfl (by omega) (.slice A n C) n (bytesV ys) rfl (by exact HOWN.out.alloc _) ⟨_, 0, none⟩ 1 1 [.int .u8 92] rfl rfl (World.news_of_block (cs := #[.int .u8 92]) (t := 5) (fr := (0, 0)) (heap_alloc_at _ (by simp))) (by simp [Value.oneCell']) (by omega) (by simp only [maxLen]; omega) (by omega) (by have := HBW.out.size; simp; omega) _ rfl ?_; intro g1 cap1 w1 hown2 hgrow hat2 hlt2; have HO1 := Lib.hid hown2; have HB1 := Lib.hid ((HBW.out.alloc HBW.out.size (.cells #[.int .u8 92] 5)).grown hgrow (by have := HBW.out.size; simp; omega) (fun b hb => (HOWN.out.lt b hb).1)); clear hown2 hgrow hat2)
            | (at_builtin; refine wpList_append_lies _ rfl (.tmp 25) (.tmp 29) 69 rfl w.heap.size 5 i0 (.int .u8 0) 1 1 Tryd.underlying69 hi hz0 hz1 hz2 rfl (by omega) (.slice (some ⟨g1, 0, none⟩) (n + 1) cap1) (n + 1) (bytesV ys ++ [.int .u8 92]) rfl (by exact HO1.out.alloc _) ⟨_, 0, none⟩ 1 1 [.int .u8 (bat s i)] rfl rfl (World.news_of_block (cs := #[.int .u8 (bat s i)]) (t := 5) (fr := (0, 0)) (heap_alloc_at _ (by simp))) (by simp [Value.oneCell']) (by omega) (by simp only [maxLen]; omega) (by omega) (by have := HB1.out.size; simp; omega) _ rfl ?_; intro g2 cap2 w2 hown3 hgrow2 hat3 hlt3; have HB2 := Lib.hid ((HB1.out.alloc HB1.out.size (.cells #[.int .u8 (bat s i)] 5)).grown hgrow2 (by have := HB1.out.size; simp; omega) (fun b hb => (HO1.out.lt b hb).1))))
          go_roundg (s.size - (i + 1))
          case measure => have := HQ.out; omega
          case rel =>
            refine ⟨some ⟨g2, 0, none⟩, n + 1 + 1, cap2, ys ++ [92, bat s i], i + 1, by simp, by simp, by omega, rfl, ?_, by simp [HL.out], by omega, HB2.out, ?_⟩
            · rw [HE.out, HY.out]; simp
            · simpa [bytesV] using hown3
      · rw [if_neg hq] at het
        have HE := Lib.hid het
        clear het
        have b1 : (bat s i == 34) = false := by simp; omega
        have b2 : (bat s i == 92) = false := by simp; omega
        clear hq
        go_wp2_with (at_builtin; refine wpList_append_lies _ rfl (.tmp 25) (.tmp 29) 69 rfl w.heap.size 5 i0 (.int .u8 0) 1 1 Tryd.underlying69 hi hz0 hz1 hz2 rfl (by omega) (.slice A n C) n (bytesV ys) rfl (by exact HOWN.out.alloc _) ⟨_, 0, none⟩ 1 1 [.int .u8 (bat s i)] rfl rfl (World.news_of_block (cs := #[.int .u8 (bat s i)]) (t := 5) (fr := (0, 0)) (heap_alloc_at _ (by simp))) (by simp [Value.oneCell']) (by omega) (by simp only [maxLen]; omega) (by omega) (by have := HBW.out.size; simp; omega) _ rfl ?_; intro g2 cap2 w2 hown3 hgrow2 hat3 hlt3; have HB2 := Lib.hid ((HBW.out.alloc HBW.out.size (.cells #[.int .u8 (bat s i)] 5)).grown hgrow2 (by have := HBW.out.size; simp; omega) (fun b hb => (HOWN.out.lt b hb).1)))
        go_roundg (s.size - (i + 1))
        case measure => have := HQ.out; omega
        case rel =>
          refine ⟨some ⟨g2, 0, none⟩, n + 1, cap2, ys ++ [bat s i], i + 1, by simp, by simp, by omega, rfl, ?_, by simp [HL.out], by omega, HB2.out, ?_⟩
          · rw [HE.out, HY.out]; simp
          · simpa [bytesV] using hown3
    · obtain rfl : i = s.size := by omega
      have hd : decide ((s.size : Int) < (s.size : Int)) = false := by simp
      go_wp2_with (at_builtin; refine wpList_append_lies _ rfl (.tmp 31) (.tmp 32) 69 rfl w.heap.size 5 i0 (.int .u8 0) 1 1 Tryd.underlying69 hi hz0 hz1 hz2 rfl (by omega) (.slice A n C) n (bytesV ys) rfl (by exact HOWN.out.alloc _) ⟨_, 0, none⟩ 1 1 [.int .u8 34] rfl rfl (World.news_of_block (cs := #[.int .u8 34]) (t := 5) (fr := (0, 0)) (heap_alloc_at _ (by simp))) (by simp [Value.oneCell']) (by omega) (by simp only [maxLen]; omega) (by omega) (by have := HBW.out.size; simp; omega) _ rfl ?_; intro g2 cap2 w2 hown3 hgrow2 hat3 hlt3; have hcv := bytes_string (a := ys ++ [34]) (by simpa [bytesV] using hown3); have HB2 := Lib.hid ((HBW.out.alloc HBW.out.size (.cells #[.int .u8 34] 5)).grown hgrow2 (by have := HBW.out.size; simp; omega) (fun b hb => (HOWN.out.lt b hb).1)); clear hgrow2 hat3)
      go_ret
      refine ⟨?_, HB2.out⟩
      have he := HY.out
      rw [List.take_of_length_le (by rw [nums_length]; exact Nat.le_refl _)] at he
      rw [quoteL, ← List.cons_append, ← he]
      rfl

theorem strOf_snoc (a b : List Int) (c : Int) : strOfNums (a ++ [c]) ++ strOfNums b = strOfNums (a ++ (c :: b)) := by rw [← strOf_append]; simp
theorem kids_lt {l : List Nd} {i : Nat} {x : Nd} (h : l[i]? = some x) : SizeOf.sizeOf x < SizeOf.sizeOf l := by
  obtain ⟨hi, rfl⟩ := List.getElem?_eq_some_iff.1 h
  exact List.sizeOf_lt_of_mem (List.getElem_mem hi)
theorem nd_kids_lt (x : Nd) : SizeOf.sizeOf x.kids < SizeOf.sizeOf x := by cases x; simp [Nd.kids]; omega
/-- A string made of one and one more: what '+' answers. -/
theorem add_run (P : Program) (a b c : List Int) (h : c = a ++ b) (hl : c.length ≤ 1000000) (W : World) : (Op.stringOp .add (strOfNums a) (strOfNums b)).run P W = .ok (.string (strOfNums c)) W := by
  subst h
  rw [strOf_append]
  rw [List.length_append] at hl
  exact run_string_add_sum W (strOfNums a) (strOfNums b) (by rw [strOfNums_size, strOfNums_size]; omega)

set_option maxRecDepth 100000 in
set_option maxHeartbeats 2000000 in
theorem format_node : ∀ (m : Nat) (x : Nd), SizeOf.sizeOf x ≤ m → ∀ (w : World) (ok : Nat → Prop) (A : Option Addr) (n c : Nat), (fmtL x).length ≤ 1000000 →
    Rd w ok (.slice A n c) (.sl 26 4 (ndsTr 26 x.kids)) →
    Calls Tryd.prog 10 #[.agg #[.int .i64 x.kind, .string x.text, .slice A n c, .int .i64 x.off]] w fun e w' => e = .returned (.string (strOfNums (fmtL x))) ∧ Below w.heap.size w w' := by
  intro m
  induction m with
  | zero => intro x hx; exfalso; cases x; simp at hx
  | succ m ih =>
    intro x hx w ok A n c hlen hr
    have HB := Lib.hid ((Below.refl w.heap.size w).alloc (Nat.le_refl _) (.cells #[.int .i64 x.kind, .string x.text, .slice A n c, .int .i64 x.off] 26))
    by_cases h1 : x.kind = 1
    · have e1 := fmtL_word h1
      have HE := Lib.hid e1
      have b1 : (x.kind == 1) = true := by simpa using h1
      have hs := strOf_nums x.text
      have HS := Lib.hid hs
      clear hs e1 h1 ih hr
      go_enter Tryd.func10, Tryd.ntmps10
      go_wp2_with fail
      go_ret
      exact ⟨by rw [HE.out, HS.out]; rfl, HB.out⟩
    · by_cases h2 : x.kind = 2
      · have e1 := fmtL_str h2
        have hq : x.text.size ≤ 1000000 := by
          rw [e1] at hlen
          have := (esc_length (nums x.text)).2
          rw [nums_length] at this
          simp [quoteL] at hlen
          omega
        have HE := Lib.hid e1
        have b1 : (x.kind == 1) = false := by simp; omega
        have b2 : (x.kind == 2) = true := by simpa using h2
        have HQ := Lib.hid hq
        clear e1 h1 h2 ih hr hq
        go_enter Tryd.func10, Tryd.ntmps10
        go_wp2_with (go_at_call 32; refine (quote_any _ HQ.out _).mono ?_; rintro e w1 ⟨rfl, hb1⟩)
        go_ret
        exact ⟨by rw [HE.out]; rfl, HB.out.trans (hb1.mono (by simp))⟩
      · have e1 := fmtL_list h1 h2
        have b1 : (x.kind == 1) = false := by simpa using h1
        have b2 : (x.kind == 2) = false := by simpa using h2
        have hl := hr.len
        rw [ndsTr_length] at hl
        obtain ⟨rfl, hl2, hl3⟩ : n = x.kids.length ∧ n ≤ c ∧ c ≤ maxLen := ⟨by omega, hl.2⟩
        simp only [maxLen] at hl3
        have hlk : (fmtItems x.kids).length + 2 ≤ 1000000 := by rw [e1] at hlen; simp at hlen; omega
        obtain ⟨l, hkl⟩ : ∃ l, l = x.kids := ⟨_, rfl⟩
        have hsz : SizeOf.sizeOf l ≤ m := by have := nd_kids_lt x; rw [hkl]; omega
        rw [← hkl] at e1 hr hl hl2 hlk ⊢
        have hbx := heap_alloc_new w (.cells #[.int .i64 x.kind, .string x.text, .slice A l.length c, .int .i64 x.off] 26)
        have HB0 : Hid (Below w.heap.size w (w.alloc (.cells #[.int .i64 x.kind, .string x.text, .slice A l.length c, .int .i64 x.off] 26))) := Lib.hid ((Below.refl _ _).alloc (Nat.le_refl _) _)
        have HR := Lib.hid (hr.alloc (.cells #[.int .i64 x.kind, .string x.text, .slice A l.length c, .int .i64 x.off] 26))
        have HE := Lib.hid e1
        have HBX := Lib.hid hbx
        have IH := Lib.hid ih
        have HSZ := Lib.hid hsz
        have HKL := Lib.hid hkl
        clear e1 h1 h2 ih hr hl hbx hsz hkl HB hx hlen
        go_enter Tryd.func10, Tryd.ntmps10
        go_wp2_with fail
        go_loopg [3, 4] l.length (fun q sv iv wr => ∃ (i : Nat) (S : ByteArray), sv = .string S ∧ iv = .int .i64 (i : Int) ∧ Hid (i ≤ l.length ∧ q = l.length - i ∧ S = strOfNums (40 :: fmtItems (l.take i)) ∧ Below (w.heap.size + 1) (w.alloc (.cells #[.int .i64 x.kind, .string x.text, .slice A l.length c, .int .i64 x.off] 26)) wr))
        case atStart => exact ⟨0, _, rfl, rfl, Nat.zero_le _, rfl, rfl, Below.refl _ _⟩
        case round =>
          obtain ⟨i, S, rfl, rfl, HH⟩ := hrel
          obtain ⟨q1, q2, q3, q4⟩ := HH.out
          have HQ := Lib.hid q2
          have HS := Lib.hid q3
          have HW := Lib.hid q4
          have hbb := (q4.block w.heap.size (by omega)).trans HBX.out
          obtain ⟨c0, c1, c2, c3, -, -, -, -⟩ := four hbb
          clear HH q2 q3 q4 hbb
          by_cases hi : i < l.length
          · have hx : l[i]? = some l[i] := List.getElem?_eq_getElem hi
            obtain ⟨y, hye⟩ : ∃ y, y = l[i] := ⟨_, rfl⟩
            rw [← hye] at hx
            obtain ⟨b, o, KA, KN, KC, rfl, -, -, p0, p1, p2, p3, p4⟩ := nd_at (HR.out.bl (by have := HW.out; simpa using this)) hx
            have hk := fmtL_kid l i y hx
            have ht := fmtItems_take l i y hx
            have P3 := Lib.hid p3
            have HK := Lib.hid hk
            have HT := Lib.hid ht
            have HX := Lib.hid hx
            clear p3 hk ht hx hye
            have hi' : (i : Int) < (l.length : Int) := by omega
            have hi0 : (0 : Int) ≤ (i : Int) := by omega
            obtain ⟨F, hF⟩ : ∃ F, F = strOfNums (fmtL y) := ⟨_, rfl⟩
            obtain ⟨S2, hS2⟩ : ∃ S2, S2 = strOfNums (40 :: fmtItems (l.take (i + 1))) := ⟨_, rfl⟩
            have hlt1 := fmtItems_le l (i + 1)
            have HF := Lib.hid hF
            have HS2 := Lib.hid hS2
            have hys : SizeOf.sizeOf y ≤ m := by have := kids_lt HX.out; have := HSZ.out; omega
            have hyl : (fmtL y).length ≤ 1000000 := by have := HK.out; omega
            have HYS := Lib.hid hys
            have HYL := Lib.hid hyl
            by_cases hi1 : 0 < i
            · obtain ⟨S1, hS1⟩ : ∃ S1, S1 = strOfNums (40 :: (fmtItems (l.take i) ++ [32])) := ⟨_, rfl⟩
              have hA : ∀ W, (Op.stringOp .add S ⟨#[32]⟩).run Tryd.prog W = .ok (.string S1) W := by
                rw [hS1, HS.out]
                have hk := HK.out
                rw [if_neg (by omega)] at hk
                exact add_run _ _ [32] _ (by simp) (by simp; omega)
              have hA2 : ∀ W, (Op.stringOp .add S1 F).run Tryd.prog W = .ok (.string S2) W := by
                rw [hS1, hS2, hF]
                have ht := HT.out
                rw [if_neg (by omega)] at ht
                exact add_run _ _ _ _ (by rw [ht]; simp) (by simp; omega)
              clear hS1 hS2 hF hys hyl
              have hi2 : (0 : Int) < (i : Int) := by omega
              go_wp2_with (go_at_call 10; (with_reducible refine (IH.out y HYS.out _ _ _ _ _ HYL.out (by exact P3.out)).mono ?_); rintro e w1 ⟨he, hb1⟩; rw [← HF.out] at he; subst he)
              go_roundg (l.length - (i + 1))
              case measure => have := HQ.out; omega
              case rel => exact ⟨i + 1, S2, rfl, by simp, by omega, rfl, HS2.out, HW.out.trans (hb1.mono (by have := HW.out.size; simpa using this))⟩
            · have hi2 : ¬ (0 : Int) < (i : Int) := by omega
              have hA2 : ∀ W, (Op.stringOp .add S F).run Tryd.prog W = .ok (.string S2) W := by
                rw [HS.out, hS2, hF]
                have ht := HT.out
                rw [if_pos (by omega)] at ht
                exact add_run _ _ _ _ (by rw [ht]; simp) (by simp; omega)
              clear hS2 hF hys hyl
              go_wp2_with (go_at_call 10; (with_reducible refine (IH.out y HYS.out _ _ _ _ _ HYL.out (by exact P3.out)).mono ?_); rintro e w1 ⟨he, hb1⟩; rw [← HF.out] at he; subst he)
              go_roundg (l.length - (i + 1))
              case measure => have := HQ.out; omega
              case rel => exact ⟨i + 1, S2, rfl, by simp, by omega, rfl, HS2.out, HW.out.trans (hb1.mono (by have := HW.out.size; simpa using this))⟩
          · obtain rfl : i = l.length := by omega
            obtain ⟨F, hF⟩ : ∃ F, F = strOfNums (fmtL x) := ⟨_, rfl⟩
            have hA : ∀ W, (Op.stringOp .add S ⟨#[41]⟩).run Tryd.prog W = .ok (.string F) W := by
              rw [HS.out, hF, HE.out]
              rw [List.take_length]
              exact add_run _ _ [41] _ (by simp) (by simp; omega)
            have HF := Lib.hid hF
            have hd : decide ((l.length : Int) < (l.length : Int)) = false := by simp
            clear hF
            go_wp2_with fail
            go_ret
            exact ⟨by rw [← HF.out]; rfl, HB0.out.trans (HW.out.mono (by omega))⟩
end Go.Proofs.YtjpabigjmimogaaDoor
