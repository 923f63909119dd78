/- sexpr.format and Format, Valid and telref1.NodeValid. -/
import Derived.Test.YtjpabigjmimogaaDoorBuild
import Derived.Test.YtjpabigjmimogaaDoorValid
import Derived.Test.YtjpabigjmimogaaDoorGood
import Derived.Test.YtjpabigjmimogaaDoorMeasWalk
set_option linter.unusedVariables false
set_option linter.unusedSimpArgs false
namespace Go.Proofs.YtjpabigjmimogaaDoor
open Go.RowKit
attribute [local go_sem ↓] Go.wp_at_zero Go.wp_at_succ

theorem Rd.belowB {w w' : World} {B : Nat} {v : Value} {e : Tr} (h : Rd w (fun k => k < B) v e) (k : Below B w w') : Rd w' (fun k => k < B) v e := h.step fun b hb _ => ⟨hb, k.block b hb⟩
theorem bl_lt {w : World} {B b : Nat} {L : List Int} (h : Bl w B b L) : b < w.heap.size := h.elim (fun h => h.lt) (fun h => h.lt)
theorem bl_alloc {w : World} {B b : Nat} {L : List Int} (h : Bl w B b L) (o : Obj) : Bl (w.alloc o) B b L := h.elim (fun h => .inl (h.alloc o)) (fun h => .inr (h.alloc o))
theorem Wr.bl {w w1 : World} {B b : Nat} {L : List Int} (h : Wr B b L w w1) : Bl w1 B b L := h.1
theorem Wr.start {w : World} {B b : Nat} {L : List Int} (h : Bl w B b L) : Wr B b L w w := ⟨h, Below.refl _ _, Lib.OthersKept.refl _ _ _⟩
theorem Wr.then {w w1 w2 : World} {B b : Nat} {L M : List Int} (h : Wr B b L w w1) (k : Wr B b M w1 w2) : Wr B b M w w2 := ⟨k.1, h.2.1.trans k.2.1, h.2.2.trans k.2.2⟩
theorem Wr.al {w w1 : World} {B b : Nat} {L : List Int} (h : Wr B b L w w1) (hB : B ≤ w.heap.size) (o : Obj) : Wr B b L w (w1.alloc o) := ⟨bl_alloc h.1 o, h.2.1.alloc (Nat.le_trans hB h.2.1.size) o, h.2.2.alloc o⟩
theorem Wr.box {w w1 : World} {B b k : Nat} {L : List Int} {cs : Array Value} (h : Wr B b L w w1) (hk : w.heap[k]? = some (.cells cs 39 (0, 0))) (hn : ¬ k = b) : w1.heap[k]? = some (.cells cs 39 (0, 0)) :=
  h.2.2 k _ hk (by simpa using hn) (fun c fz e => by
    injection e with _ e2 _
    exact absurd e2 (by decide))
theorem bl_new (v : World) : Bl (v.alloc (.cells #[.pointer none, .slice none 0 0] 71)) v.heap.size v.heap.size [] :=
  .inl ⟨Nat.le_refl _, .slice none 0 0, heap_alloc_new v _, ⟨rfl, .inl ⟨rfl, rfl⟩⟩, by simp [Value.ownBlock]⟩
theorem Wr.sz {w w1 : World} {B b : Nat} {L : List Int} (h : Wr B b L w w1) (hB : B ≤ w.heap.size) : B ≤ w1.heap.size := Nat.le_trans hB h.2.1.size

set_option maxRecDepth 100000 in
theorem Valid_any (x : Nd) (w : World) (ok : Nat → Prop) (A : Option Addr) (n c : Nat) (hr : Rd w ok (.slice A n c) (.sl 39 4 (ndsTr 39 x.kids))) :
    Calls Tryd.prog 25 #[.agg #[.int .i64 x.kind, .string x.text, .slice A n c, .int .i64 x.off]] w fun e w' => e = .returned (.bool (vN 40 x)) ∧ Below w.heap.size w w' := by
  have HR := Lib.hid hr
  clear hr
  go_enter Tryd.func25, Tryd.ntmps25
  go_wp2_with (go_at_call 39; (with_reducible refine (valid_any 40 x 40 _ ok _ _ _ (by omega) rfl (by exact HR.out.alloc _)).mono ?_); rintro e w' ⟨rfl, hb⟩)
  go_ret
  exact ⟨rfl, below_call (bl_box _ _) hb⟩
set_option maxRecDepth 100000 in
theorem NodeValid_any (x : Nd) (w : World) (ok : Nat → Prop) (A : Option Addr) (n c : Nat) (hf : fit 40 x) (hr : Rd w ok (.slice A n c) (.sl 26 4 (ndsTr 26 x.kids))) :
    Calls Tryd.prog 26 #[.agg #[.int .i64 x.kind, .string x.text, .slice A n c, .int .i64 x.off]] w fun e w' => e = .returned (.bool (vN 40 x)) ∧ Below w.heap.size w w' := by
  have HR := Lib.hid hr
  have HF := Lib.hid hf
  clear hr hf
  go_enter Tryd.func26, Tryd.ntmps26
  go_wp2_with (go_at_call 40; (with_reducible refine (validNode_any 40 x 0 _ ok _ _ _ (by omega) (by omega) HF.out (by exact HR.out.alloc _)).mono ?_); rintro e w' ⟨rfl, hb⟩)
  go_ret
  exact ⟨rfl, below_call (bl_box _ _) hb⟩

/-- What a valid leaf is. -/
theorem leafV_cases {x : Nd} (h : leafV x = true) : (x.kind = 1 ∧ x.text.size ≤ 24) ∨ (x.kind = 2 ∧ x.text.size ≤ 2000) := by
  unfold leafV at h
  split at h
  · simp at h; exact .inl ⟨by assumption, h.2.2.1⟩
  · split at h
    · simp at h; exact .inr ⟨by assumption, h.2.1⟩
    · simp at h

set_option maxRecDepth 100000 in
set_option maxHeartbeats 4000000 in
/-- format at a valid leaf. -/
theorem format_leaf (x : Nd) (hv : leafV x = true) (B b : Nat) (L : List Int) (w : World) (A : Option Addr) (n c : Nat) (hl : L.length ≤ 900000) (hB : B ≤ w.heap.size) (hb : Bl w B b L) :
    Calls Tryd.prog 37 #[.pointer (some ⟨b, 0, none⟩), .agg #[.int .i64 x.kind, .string x.text, .slice A n c, .int .i64 x.off]] w fun e w' => e = .returned (.tuple #[]) ∧ Wr B b (L ++ fmtL x) w w' := by
  have HBL := Lib.hid hb
  have hBW : B ≤ (w.alloc (.cells #[.int .i64 x.kind, .string x.text, .slice A n c, .int .i64 x.off] 39)).heap.size := by simp; omega
  have HBX := Lib.hid (heap_alloc_new w (.cells #[.int .i64 x.kind, .string x.text, .slice A n c, .int .i64 x.off] 39))
  have hbne : ¬ w.heap.size = b := by have := bl_lt hb; omega
  have HWR0 := Lib.hid (Wr.start (bl_alloc hb (.cells #[.int .i64 x.kind, .string x.text, .slice A n c, .int .i64 x.off] 39)))
  have HAL := Lib.hid ((Wr.start hb).al hB (.cells #[.int .i64 x.kind, .string x.text, .slice A n c, .int .i64 x.off] 39))
  rcases leafV_cases hv with ⟨h1, h2⟩ | ⟨h1, h2⟩
  · have b1 : (x.kind == 1) = true := by simpa using h1
    rw [fmtL_word h1]
    clear h1 hv hb
    go_enter Tryd.func37, Tryd.ntmps37
    go_wp2_with (go_at_call 57; (with_reducible refine (writeString_any B b L _ _ HWR0.out.bl (by omega) hBW).mono ?_); rintro e v1 ⟨rfl, h⟩; have HW1 := Lib.hid (HAL.out.then h); clear h)
    go_end0
    exact ⟨rfl, HW1.out⟩
  · have b1 : (x.kind == 1) = false := by simp [h1]
    have b2 : (x.kind == 2) = true := by simpa using h1
    rw [fmtL_str h1]
    clear h1 hv hb
    obtain ⟨s, hs⟩ : ∃ s, s = x.text := ⟨_, rfl⟩
    rw [← hs] at h2 ⊢
    rw [← hs] at HBX HAL HWR0 hBW
    have HWR := HWR0
    clear hs HWR0
    go_enter Tryd.func37, Tryd.ntmps37
    go_wp2_with (go_at_call 58; (with_reducible refine (writeByte_any B b _ _ _ HWR.out.bl (by omega) (HWR.out.sz hBW)).mono ?_); rintro e v1 ⟨rfl, h⟩; have HW1 := Lib.hid (HWR.out.then h); clear h; obtain ⟨_, _, _, _, -⟩ := four (HW1.out.box HBX.out hbne))
    go_loopg [4] s.size (fun q iv wr => ∃ (i : Nat), iv = .int .i64 (i : Int) ∧ Hid (i ≤ s.size ∧ q = s.size - i ∧ Wr B b (L ++ 34 :: esc ((nums s).take i)) (w.alloc (.cells #[.int .i64 x.kind, .string s, .slice A n c, .int .i64 x.off] 39)) wr))
    case atStart => exact ⟨0, rfl, Nat.zero_le _, rfl, HW1.out⟩
    case round =>
      clear HW1 HWR
      obtain ⟨i, rfl, HH⟩ := hrel
      obtain ⟨q1, q2, hwr⟩ := HH.out
      have HQ := Lib.hid q2
      obtain ⟨_, _, _, _, -⟩ := four (hwr.box HBX.out hbne)
      have hPl : (L ++ 34 :: esc ((nums s).take i)).length ≤ 910000 := by have hel := esc_take_len s i; simp; omega
      obtain ⟨P, hP⟩ : ∃ P, P = L ++ 34 :: esc ((nums s).take i) := ⟨_, rfl⟩
      rw [← hP] at hwr hPl
      have HP := Lib.hid hP
      have HWR := Lib.hid hwr
      clear HH q2 hwr hP
      by_cases hlt : i < s.size
      · have hi' : (i : Int) < (s.size : Int) := by omega
        have hi0 : (0 : Int) ≤ (i : Int) := by omega
        have hat := bat_at s i
        have HES := Lib.hid (esc_take s i hlt)
        by_cases hq : bat s i = 34
        · have hqb : (bat s i == 34) = true := by simpa using hq
          have HQQ := Lib.hid hq
          clear hq
          go_wp2_with (first | (go_at_call 58; (with_reducible refine (writeByte_any B b _ _ _ HW1.out.bl (by simp; omega) (HW1.out.sz hBW)).mono ?_); rintro e v2 ⟨rfl, h⟩; have HW2 := Lib.hid (HW1.out.then h); clear h; obtain ⟨_, _, _, _, -⟩ := four (HW2.out.box HBX.out hbne)) | (go_at_call 58; (with_reducible refine (writeByte_any B b _ _ _ HWR.out.bl (by omega) (HWR.out.sz hBW)).mono ?_); rintro e v1 ⟨rfl, h⟩; have HW1 := Lib.hid (HWR.out.then h); clear h; obtain ⟨_, _, _, _, -⟩ := four (HW1.out.box HBX.out hbne)))
          go_roundg (s.size - (i + 1))
          case measure => have := HQ.out; omega
          case rel => exact ⟨i + 1, by simp, by omega, rfl, by rw [HES.out, if_pos (Or.inl HQQ.out)]; have h := HW2.out; rw [HP.out] at h; simpa using h⟩
        · have hqb : (bat s i == 34) = false := by simpa using hq
          by_cases hq2 : bat s i = 92
          · have hqb2 : (bat s i == 92) = true := by simpa using hq2
            have HQQ := Lib.hid hq2
            clear hq hq2
            go_wp2_with (first | (go_at_call 58; (with_reducible refine (writeByte_any B b _ _ _ HW1.out.bl (by simp; omega) (HW1.out.sz hBW)).mono ?_); rintro e v2 ⟨rfl, h⟩; have HW2 := Lib.hid (HW1.out.then h); clear h; obtain ⟨_, _, _, _, -⟩ := four (HW2.out.box HBX.out hbne)) | (go_at_call 58; (with_reducible refine (writeByte_any B b _ _ _ HWR.out.bl (by omega) (HWR.out.sz hBW)).mono ?_); rintro e v1 ⟨rfl, h⟩; have HW1 := Lib.hid (HWR.out.then h); clear h; obtain ⟨_, _, _, _, -⟩ := four (HW1.out.box HBX.out hbne)))
            go_roundg (s.size - (i + 1))
            case measure => have := HQ.out; omega
            case rel => exact ⟨i + 1, by simp, by omega, rfl, by rw [HES.out, if_pos (Or.inr HQQ.out)]; have h := HW2.out; rw [HP.out] at h; simpa using h⟩
          · have hqb2 : (bat s i == 92) = false := by simpa using hq2
            have HNQ : Hid (¬ (bat s i = 34 ∨ bat s i = 92)) := Lib.hid (by omega)
            clear hq hq2
            go_wp2_with (go_at_call 58; (with_reducible refine (writeByte_any B b _ _ _ HWR.out.bl (by omega) (HWR.out.sz hBW)).mono ?_); rintro e v1 ⟨rfl, h⟩; have HW1 := Lib.hid (HWR.out.then h); clear h; obtain ⟨_, _, _, _, -⟩ := four (HW1.out.box HBX.out hbne))
            go_roundg (s.size - (i + 1))
            case measure => have := HQ.out; omega
            case rel => exact ⟨i + 1, by simp, by omega, rfl, by rw [HES.out, if_neg HNQ.out]; have h := HW1.out; rw [HP.out] at h; simpa using h⟩
      · obtain rfl : i = s.size := by omega
        have hd : decide ((s.size : Int) < (s.size : Int)) = false := by simp
        go_wp2_with (go_at_call 58; (with_reducible refine (writeByte_any B b _ _ _ HWR.out.bl (by omega) (HWR.out.sz hBW)).mono ?_); rintro e v1 ⟨rfl, h⟩; have HW1 := Lib.hid (HWR.out.then h); clear h; obtain ⟨_, _, _, _, -⟩ := four (HW1.out.box HBX.out hbne))
        go_end0
        refine ⟨rfl, ?_⟩
        have h := HAL.out.then HW1.out
        rw [HP.out] at h
        have e : (nums s).take s.size = nums s := by rw [← nums_length s, List.take_length]
        rw [e] at h
        simpa [quoteL] using h

set_option maxRecDepth 100000 in
set_option maxHeartbeats 4000000 in
theorem format_any : ∀ (d : Nat) (x : Nd) (B b : Nat) (L : List Int) (w : World) (A : Option Addr) (n c : Nat), vN d x = true → L.length + (fmtL x).length ≤ 900000 → B ≤ w.heap.size → Bl w B b L → Rd w (fun k => k < B) (.slice A n c) (.sl 39 4 (ndsTr 39 x.kids)) →
    Calls Tryd.prog 37 #[.pointer (some ⟨b, 0, none⟩), .agg #[.int .i64 x.kind, .string x.text, .slice A n c, .int .i64 x.off]] w fun e w' => e = .returned (.tuple #[]) ∧ Wr B b (L ++ fmtL x) w w' := by
  intro d
  induction d with
  | zero => intro x B b L w A n c hv hl hB hb hr; exact format_leaf x hv B b L w A n c (by omega) hB hb
  | succ d ih =>
    intro x B b L w A n c hv hfl hB hb hr
    by_cases h3 : x.kind = 3
    · have b3 : (x.kind == 3) = true := by simpa using h3
      have b1 : (x.kind == 1) = false := by simp [h3]
      have b2 : (x.kind == 2) = false := by simp [h3]
      rw [vN_list h3] at hv
      have hall : x.kids.all (vN d) = true := by simp at hv; simpa using hv.2
      have hfm := fmtL_list (x := x) (by omega) (by omega)
      rw [hfm] at hfl ⊢
      have hl := hr.len
      rw [ndsTr_length] at hl
      obtain ⟨l, hle⟩ : ∃ l, l = x.kids := ⟨_, rfl⟩
      rw [← hle] at hl hr hall hfl ⊢
      obtain ⟨rfl, hl2, hl3⟩ : n = l.length ∧ n ≤ c ∧ c ≤ maxLen := ⟨by omega, hl.2⟩
      simp only [maxLen] at hl3
      have hBW : B ≤ (w.alloc (.cells #[.int .i64 x.kind, .string x.text, .slice A l.length c, .int .i64 x.off] 39)).heap.size := by simp; omega
      have HBX := Lib.hid (heap_alloc_new w (.cells #[.int .i64 x.kind, .string x.text, .slice A l.length c, .int .i64 x.off] 39))
      have hbne : ¬ w.heap.size = b := by have := bl_lt hb; omega
      have HWR := Lib.hid (Wr.start (bl_alloc hb (.cells #[.int .i64 x.kind, .string x.text, .slice A l.length c, .int .i64 x.off] 39)))
      have HAL := Lib.hid ((Wr.start hb).al hB (.cells #[.int .i64 x.kind, .string x.text, .slice A l.length c, .int .i64 x.off] 39))
      have HR := Lib.hid hr
      have IH := Lib.hid ih
      have HALL := Lib.hid hall
      have hfl2 : L.length + (fmtItems l).length + 2 ≤ 900000 := by simp at hfl; omega
      clear ih hr hl hall hfl hv h3 hfm hb hle
      go_enter Tryd.func37, Tryd.ntmps37
      go_wp2_with (go_at_call 58; (with_reducible refine (writeByte_any B b _ _ _ HWR.out.bl (by omega) (HWR.out.sz hBW)).mono ?_); rintro e v1 ⟨rfl, h⟩; have HW1 := Lib.hid (HWR.out.then h); clear h; obtain ⟨_, _, _, _, -⟩ := four (HW1.out.box HBX.out hbne))
      go_loopg [54] l.length (fun q iv wr => ∃ (i : Nat), iv = .int .i64 (i : Int) ∧ Hid (i ≤ l.length ∧ q = l.length - i ∧ Wr B b (L ++ 40 :: fmtItems (l.take i)) (w.alloc (.cells #[.int .i64 x.kind, .string x.text, .slice A l.length c, .int .i64 x.off] 39)) wr))
      case atStart => exact ⟨0, rfl, Nat.zero_le _, rfl, HW1.out⟩
      case round =>
        clear HW1 HWR
        obtain ⟨i, rfl, HH⟩ := hrel
        obtain ⟨q1, q2, hwr⟩ := HH.out
        have HQ := Lib.hid q2
        have hPl : (L ++ 40 :: fmtItems (l.take i)).length ≤ L.length + 1 + (fmtItems l).length := by have := fmtItems_le l i; simp; omega
        have hBr : B ≤ wr.heap.size := hwr.sz hBW
        have hbr := bl_lt hwr.bl
        have hnb : ¬ wr.heap.size = b := by omega
        have HBEL := Lib.hid (HAL.out.then hwr).2.1
        obtain ⟨P, hP⟩ : ∃ P, P = L ++ 40 :: fmtItems (l.take i) := ⟨_, rfl⟩
        rw [← hP] at hwr hPl
        have HP := Lib.hid hP
        have HWR := Lib.hid hwr
        by_cases hlt : i < l.length
        · have hx : l[i]? = some l[i] := List.getElem?_eq_getElem hlt
          obtain ⟨y, hye⟩ : ∃ y, y = l[i] := ⟨_, rfl⟩
          rw [← hye] at hx
          have HRB := Lib.hid (HR.out.belowB HBEL.out)
          obtain ⟨b', o, KA, KN, KC, rfl, -, -, p0, p1, p2, p3, p4⟩ := nd_at HRB.out hx
          have hyv : vN d y = true := List.all_eq_true.1 HALL.out y (List.mem_of_getElem? hx)
          have hft := fmtItems_take l i y hx
          have hPy : P.length + 1 + (fmtL y).length ≤ 900000 ∧ (0 < i → P.length + 1 + (fmtL y).length ≤ L.length + 1 + (fmtItems l).length) := by
            have h1 := fmtItems_le l (i + 1)
            have h2 := congrArg List.length hft
            rw [hP]
            by_cases h : i = 0
            · subst h; simp [fmtItems] at *; omega
            · rw [if_neg h] at h2; simp at *; omega
          have hPy1 := hPy.1
          have HYV := Lib.hid hyv
          have HFT := Lib.hid hft
          have P3 := Lib.hid (p3.alloc (.cells #[.int .i64 y.kind, .string y.text, .slice KA KN KC, .int .i64 y.off] 39))
          have HWA := Lib.hid (hwr.al hBW (.cells #[.int .i64 y.kind, .string y.text, .slice KA KN KC, .int .i64 y.off] 39))
          have hBA : B ≤ (wr.alloc (.cells #[.int .i64 y.kind, .string y.text, .slice KA KN KC, .int .i64 y.off] 39)).heap.size := by simp; omega
          have HYX := Lib.hid (heap_alloc_new wr (.cells #[.int .i64 y.kind, .string y.text, .slice KA KN KC, .int .i64 y.off] 39))
          clear p3 hx hye hyv hft hPy HH q2 hwr hP
          have hlt' : (i : Int) < (l.length : Int) := by omega
          have hi0 : (0 : Int) ≤ (i : Int) := by omega
          by_cases hi : i = 0
          · have hiI : ¬ (0 : Int) < (i : Int) := by omega
            have HI := Lib.hid hi
            clear hi
            go_wp2_with (go_at_call 37; (with_reducible refine (IH.out y B b P _ _ _ _ HYV.out (by omega) hBA HWA.out.bl P3.out).mono ?_); rintro e v2 ⟨rfl, h⟩; have HW2 := Lib.hid (HWA.out.then h); clear h)
            go_roundg (l.length - (i + 1))
            case measure => have := HQ.out; omega
            case rel => exact ⟨i + 1, by simp, by omega, rfl, by rw [HFT.out, if_pos HI.out]; have h := HW2.out; rw [HP.out] at h; simpa using h⟩
          · have hiI : (0 : Int) < (i : Int) := by omega
            have HI := Lib.hid hi
            clear hi
            go_wp2_with (first | (go_at_call 37; (with_reducible refine (IH.out y B b (P ++ [32]) _ _ _ _ HYV.out (by simp; omega) (HW1.out.sz hBW) HW1.out.bl (P3.out.belowB HB1.out)).mono ?_); rintro e v2 ⟨rfl, h⟩; have HW2 := Lib.hid (HW1.out.then h); clear h) | (go_at_call 58; (with_reducible refine (writeByte_any B b P _ _ HWA.out.bl (by omega) hBA).mono ?_); rintro e v1 ⟨rfl, h⟩; have HW1 := Lib.hid (HWA.out.then h); have HB1 := Lib.hid h.2.1; obtain ⟨_, _, _, _, -⟩ := four (h.box HYX.out hnb); clear h))
            go_roundg (l.length - (i + 1))
            case measure => have := HQ.out; omega
            case rel => exact ⟨i + 1, by simp, by omega, rfl, by rw [HFT.out, if_neg HI.out]; have h := HW2.out; rw [HP.out] at h; simpa using h⟩
        · obtain rfl : i = l.length := by omega
          have hd : decide ((l.length : Int) < (l.length : Int)) = false := by simp
          clear HH q2 hwr hP
          go_wp2_with (go_at_call 58; (with_reducible refine (writeByte_any B b _ _ _ HWR.out.bl (by omega) (HWR.out.sz hBW)).mono ?_); rintro e v1 ⟨rfl, h⟩; have HW1 := Lib.hid (HWR.out.then h); clear h; obtain ⟨_, _, _, _, -⟩ := four (HW1.out.box HBX.out hbne))
          go_end0
          refine ⟨rfl, ?_⟩
          have h := HAL.out.then HW1.out
          rw [HP.out, List.take_length] at h
          simpa using h
    · rw [vN_leaf h3] at hv
      exact format_leaf x hv B b L w A n c (by omega) hB hb
theorem Below.weak {w w1 w2 : World} (h : Below w.heap.size w w1) (k : Below w1.heap.size w1 w2) : Below w.heap.size w w2 := below_call h k
set_option maxRecDepth 100000 in
set_option maxHeartbeats 2000000 in
theorem Format_any (x : Nd) (w : World) (ok : Nat → Prop) (A : Option Addr) (n c : Nat) (hl : vN 40 x = true → (fmtL x).length ≤ 900000) (hr : Rd w ok (.slice A n c) (.sl 39 4 (ndsTr 39 x.kids))) :
    Calls Tryd.prog 24 #[.agg #[.int .i64 x.kind, .string x.text, .slice A n c, .int .i64 x.off]] w fun e w' => e = .returned (.tuple #[.string (if vN 40 x then strOfNums (fmtL x) else ⟨#[]⟩), .int .i64 (if vN 40 x then 0 else 2)]) ∧ Below w.heap.size w w' := by
  have HR := Lib.hid hr
  cases hv : vN 40 x
  · have HV := Lib.hid hv
    clear hr hl hv
    go_enter Tryd.func24, Tryd.ntmps24
    go_wp2_with (go_at_call 25; (with_reducible refine (Valid_any x _ ok _ _ _ (by exact HR.out.alloc _)).mono ?_); rintro e w' ⟨he, hb⟩; rw [HV.out] at he; subst he)
    go_ret2
    exact ⟨rfl, below_call (bl_box _ _) hb⟩
  · have HV := Lib.hid hv
    have hl' := hl hv
    clear hr hl hv
    go_enter Tryd.func24, Tryd.ntmps24
    go_wp2_with (first
      | (go_at_call 25; (with_reducible refine (Valid_any x _ ok _ _ _ (by exact HR.out.alloc _)).mono ?_); rintro e v1 ⟨he, hb⟩; rw [HV.out] at he; subst he; have HB1 := Lib.hid (below_call (bl_box _ _) hb); have HBL0 := Lib.hid (bl_new v1); have HRV := Lib.hid (((HR.out.alloc (.cells #[.int .i64 x.kind, .string x.text, .slice A n c, .int .i64 x.off] 39)).bl hb).mono (ok' := fun k => k < v1.heap.size) (fun _ _ h => h)); obtain ⟨_, _, _, _, -⟩ := four (below_blk hb (heap_alloc_new w (.cells #[.int .i64 x.kind, .string x.text, .slice A n c, .int .i64 x.off] 39))); obtain ⟨_, _, _, _, -⟩ := fourA (below_blk hb (heap_alloc_new w (.cells #[.int .i64 x.kind, .string x.text, .slice A n c, .int .i64 x.off] 39))); clear hb)
      | (go_at_call 37; (with_reducible refine (format_any 40 x v1.heap.size _ [] _ _ _ _ HV.out (by simpa using hl') (by simp) HBL0.out (by exact HRV.out.alloc _)).mono ?_); rintro e v2 ⟨rfl, h⟩; have HW2 := Lib.hid h; clear h)
      | (go_at_call 38; (with_reducible refine (builder_string HW2.out.bl (by intro c hc; exact fmt_byte x c (by simpa using hc)) (HW2.out.sz (by simp))).mono ?_); rintro e v3 ⟨rfl, h⟩; have HB3 := Lib.hid h; clear h))
    go_ret2
    exact ⟨rfl, below_call HB1.out (((bl_box v1 _).trans HW2.out.2.1).trans HB3.out)⟩
end Go.Proofs.YtjpabigjmimogaaDoor
