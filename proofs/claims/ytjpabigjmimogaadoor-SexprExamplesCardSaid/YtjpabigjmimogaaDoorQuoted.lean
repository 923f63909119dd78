/- (*parser).quoted. -/
import Derived.Test.YtjpabigjmimogaaDoorComment
set_option linter.unusedVariables false
set_option linter.unusedSimpArgs false
namespace Go.Proofs.YtjpabigjmimogaaDoor
open Go.RowKit

theorem byte_info : (Tryd.prog.info? 5).map (fun i => (i.zero, i.size, i.bytes)) = some (some (.int .u8 0), 1, 1) := by kernel_rfl
theorem heap_alloc_at {w : World} {n : Nat} (o : Obj) (h : n = w.heap.size) : (w.alloc o).heap[n]? = some o := by subst h; exact heap_alloc_new w o
theorem below_alike {B : Nat} {a w w' : World} (h : Below B a w) (h1 : w'.os = w.os) (h2 : w'.tape = w.tape) (h3 : w'.output = w.output) (h4 : w'.heap = w.heap) : Below B a w' :=
  ⟨h1.trans h.os, h2.trans h.tape, h3.trans h.output, by rw [h4]; exact h.size, fun k hk => by rw [h4]; exact h.block k hk⟩
theorem setCell_setCell (w : World) (p : Addr) (u v : Value) : (w.setCell p u).setCell p v = w.setCell p v := by
  unfold World.setCell
  simp only [World.mk.injEq, true_and, and_true]
  apply Array.ext_getElem?
  intro i
  simp only [Array.getElem?_modify]
  by_cases hi : p.block = i
  · simp only [hi, if_true, Option.map_map]
    congr 1
    funext o
    cases o <;> simp
    split <;> simp
  · simp [hi]
theorem below_at {n : Nat} {w w' : World} {p : Addr} {u : Value} (h : Below n (w.setCell p u) w') (hp : p.block < n) (u' : Value) : Below n (w.setCell p u') (w'.setCell p u') := by
  refine ⟨h.os, h.tape, h.output, by simpa using h.size, fun k hk => ?_⟩
  have e := h.block k hk
  have e2 : (w.setCell p u') = ((w.setCell p u).setCell p u') := (setCell_setCell w p u u').symm
  rw [e2]
  generalize w.setCell p u = x at e
  simp only [World.setCell, Array.getElem?_modify, e]
def bytesV (a : List Int) : List Value := a.map (Value.int .u8)
theorem bytes_string {w : World} {base n : Nat} {v : Value} {a : List Int} (h : w.ownsRow base 5 1 v n (bytesV a)) : (convert 69 9 v).run Tryd.prog w = .ok (.string (strOfNums a)) w := by
  have hl : a.length = n := by have := h.1; simp [bytesV] at this; exact this
  rcases h.2 with ⟨rfl, rfl⟩ | ⟨g, cap, cur, rfl, _⟩
  · obtain rfl : a = [] := List.eq_nil_of_length_eq_zero hl
    exact run_convert_bytes_nil w _ _ Tryd.underlying69 Tryd.underlying5 0 0 _ Tryd.underlying9
  · refine run_convert_bytes_arg w _ _ Tryd.underlying69 Tryd.underlying5 g 0 n cap a hl (fun i hi => ?_) _ Tryd.underlying9
    have hc := h.cells (g := g) rfl i (.int .u8 (a.getD i 0)) (by simp [bytesV, List.getElem?_eq_getElem (show i < a.length by omega), List.getD_eq_getElem?_getD])
    have ha : (⟨g, 0, none⟩ : Addr).add i = ⟨g, 0 + i, none⟩ := by unfold Addr.add; split <;> simp_all
    rwa [ha] at hc

section
variable {w : World} {base g o cap k0 : Nat} {s : ByteArray} {pre : List Fr} {top : Fr} {vpre : List Value} {v : Value}
def QPost (w : World) (base g o cap : Nat) (s : ByteArray) (k0 : Nat) (pre : List Fr) (top : Fr) (vpre : List Value) (r : QR) (e : Ending) (w' : World) : Prop :=
  match r with
  | .bad p => FailPost w base 2 p e w'
  | .done E t => if 2000 < t.length then FailPost w base 4 k0 e w' else GoPost w base g o cap s E (pre ++ [top.add (.mk 2 (strOfNums t) [] k0)]) vpre e w'

/-- What holds at the head of the loop. -/
structure QInv (w wr : World) (g : Nat) (k : Nat) (a : List Int) (bv : Value) : Prop where
  bel : Below w.heap.size (w.setCell ⟨g, 1, none⟩ (.int .i64 k)) wr
  own : wr.ownsRow w.heap.size 5 1 bv a.length (bytesV a)

theorem qpush {W w1 : World} {k' : Nat} {a : List Int} {c : Int} {v v' : Value} {g : Nat} (hW : Below w.heap.size (w.setCell ⟨g, 1, none⟩ (.int .i64 k')) W)
    (hown : w1.ownsRow w.heap.size 5 1 v' (a.length + 1) (bytesV a ++ [.int .u8 c])) (hgrow : W.grownBy w1 v.ownBlock) (hv : ∀ b, v.ownBlock = some b → w.heap.size ≤ b) : QInv w w1 g k' (a ++ [c]) v' :=
  ⟨hW.grown hgrow (by have := hW.size; simpa using this) hv, by simpa [bytesV] using hown⟩
theorem QInv.next {wr : World} {g k : Nat} {a : List Int} {bv : Value} (h : QInv w wr g k a bv) (hg : g < w.heap.size) (k' : Nat) : QInv w (wr.setCell ⟨g, 1, none⟩ (.int .i64 k')) g k' a bv :=
  ⟨below_at h.bel hg _, ownsRow_setCell_other h.own (fun e => by have := (h.own.lt g e).1; omega) _⟩
theorem PInv.atQ {wr : World} {k k' : Nat} {a : List Int} {bv : Value} {fs : List Fr} {vs : List Value} (h : PInv 39 67 w base g o cap s k fs vs) (hq : QInv w wr g k' a bv) : PInv 39 67 wr base g o cap s k' fs vs :=
  (h.setPos k').bl (by have := hq.bel; simpa using this)

set_option maxRecDepth 100000 in
set_option maxHeartbeats 4000000 in
theorem quoted_any (h : PInv 39 67 w base g o cap s k0 (pre ++ [top]) (vpre ++ [v])) (hk : k0 < s.size) (hs : s.size ≤ 65536) (hm : pre.length ≤ 1000) (hK : top.kids.length ≤ 100000)
    (n : Nat) (r : QR) (hq : qScan s n (k0 + 1) [] = some r) :
    Calls Tryd.prog 55 #[.pointer (some ⟨g, 0, none⟩)] w (QPost w base g o cap s k0 pre top vpre r) := by
  have HQ := Lib.hid hq
  have HI := Lib.hid h
  obtain ⟨c0, c1, c2, f0, f1, f2⟩ := h.cells
  have hgl := h.lt.1
  obtain ⟨i0, hi, hz0, hz1, hz2⟩ := info_parts byte_info
  clear h hq
  go_enter Tryd.func55, Tryd.ntmps55
  go_wp2
  clear c0 c1 c2 f0 f1 f2
  go_loopg [3] n (fun q bv wr => ∃ A C k a, bv = .slice A (List.length a) C ∧ Hid (qScan s q k a = some r ∧ k0 < k ∧ k ≤ s.size ∧ a.length < k ∧ QInv w wr g k a (.slice A (List.length a) C)))
  case atStart => exact ⟨none, 0, k0 + 1, [], rfl, HQ.out, by omega, by omega, by simp, by simpa using Below.refl _ _, World.ownsRow_nil _ _ _ _⟩
  case round =>
    obtain ⟨A, C, k, a, rfl, HR⟩ := hrel
    obtain ⟨q1, r1, r2, r3, r4⟩ := HR.out
    have hP : PInv 39 67 wr base g o cap s k (pre ++ [top]) (vpre ++ [v]) := (HI.out.setPos k).bl (by have := r4.bel; simpa using this)
    have hBw : Below base w wr := ((Below.refl base w).setCell (p := ⟨g, 1, none⟩) HI.out.bg (.int .i64 k)).trans (r4.bel.mono (by have := HI.out.bg; omega))
    obtain ⟨c0, c1, c2, f0, f1, f2⟩ := hP.cells
    have HR4 := Lib.hid r4
    have HP := Lib.hid hP
    have HBW := Lib.hid hBw
    clear HR r4 hP hBw
    cases gk with
    | zero => simp [qScan] at q1
    | succ q =>
    simp only [qScan] at q1
    have hat := bat_at s k
    have hat1 := bat_at s (k + 1)
    by_cases hks : k < s.size
    · rw [if_pos hks] at q1
      have hks' : (k : Int) < (s.size : Int) := by omega
      by_cases h34 : bat s k = 34
      · rw [if_pos h34] at q1
        have b34 : (bat s k == 34) = true := by simpa using h34
        obtain rfl := (Option.some.inj q1).symm
        clear q1 h34
        by_cases hbig : 2000 < a.length
        · have hbig' : (2000 : Int) < (a.length : Int) := by omega
          go_wp2_with fail
          go_quiet (fail)
          go_wp2_with fail
          go_quiet (fail)
          go_wp2_with (go_at_call 52; refine (fail_any _ _ _).mono ?_; rintro e w' ⟨rfl, rfl⟩)
          refine ⟨rfl, ?_⟩
          unfold QPost
          simp only
          rw [if_pos hbig]
          exact ⟨rfl, (below_drewN' HBW.out _).setCell (p := ⟨g, 1, none⟩) HI.out.bg _⟩
        · have hbig' : ¬ (2000 : Int) < (a.length : Int) := by omega
          have hne : (Value.slice A a.length C).ownBlock ≠ some g := fun e => by have := (HR4.out.own.lt g e).1; omega
          have hcv : ∀ n : Nat, (convert 69 9 (.slice A a.length C)).run Tryd.prog ((wr.drewN n).setCell ⟨g, 1, none⟩ (.int .i64 ((k : Int) + 1))) = .ok (.string (strOfNums a)) ((wr.drewN n).setCell ⟨g, 1, none⟩ (.int .i64 ((k : Int) + 1))) :=
            fun n => bytes_string (base := w.heap.size) (ownsRow_setCell_other (w := wr.drewN n) HR4.out.own hne _)
          go_wp2_with fail
          go_quiet (fail)
          go_wp2_with fail
          go_quiet (fail)
          go_wp2_with fail
          have hp2 := fun n : Nat => (HP.out.drewN n).setPos (k + 1)
          refine (add_any (x := .mk 2 (strOfNums a) [] k0) (by simpa using hp2 _) hm hK (Rd.nil _ _)).mono ?_
          rintro e w' ⟨rfl, hq⟩
          go_wp2_with fail
          refine bodyPost_ret (results_none rfl _ _ _) rfl ?_
          unfold QPost
          simp only
          rw [if_neg hbig]
          exact ⟨rfl, hq.1, ((below_drewN' HBW.out _).setCell (p := ⟨g, 1, none⟩) HI.out.bg _).trans hq.2⟩
      · rw [if_neg h34] at q1
        have b34 : (bat s k == 34) = false := by simpa using h34
        by_cases hS : isS (bat s k) = false
        · rw [if_pos hS] at q1
          obtain rfl := (Option.some.inj q1).symm
          clear q1 h34
          go_wp2_with fail
          go_quiet (fail)
          go_wp2_with fail
          go_quiet (fail)
          go_wp2_with (first | (go_at_call 59; refine (isStringByte_any _ _).mono ?_; rintro e w' ⟨rfl, rfl⟩) | (go_at_call 52; refine (fail_any _ _ _).mono ?_; rintro e w' ⟨rfl, rfl⟩))
          exact ⟨rfl, rfl, below_drewN' HBW.out _⟩
        · rw [if_neg hS] at q1
          have hS' : isS (bat s k) = true := by simpa using hS
          clear hS
          have hne : (Value.slice A a.length C).ownBlock ≠ some g := fun e => by have := (HR4.out.own.lt g e).1; omega
          by_cases h92 : bat s k = 92
          · rw [if_pos h92] at q1
            have b92 : (bat s k == 92) = true := by simpa using h92
            by_cases hend : k + 1 = s.size
            · rw [if_pos hend] at q1
              have bend : ((k : Int) + 1 == (s.size : Int)) = true := by simp; omega
              obtain rfl := (Option.some.inj q1).symm
              clear q1 h34 h92 hend
              go_wp2_with fail
              go_quiet (fail)
              go_wp2_with fail
              go_quiet (fail)
              go_wp2_with (go_at_call 59; refine (isStringByte_any _ _).mono ?_; rintro e w' ⟨rfl, rfl⟩)
              go_quiet (fail)
              go_wp2_with (first | (go_at_call 59; refine (isStringByte_any _ _).mono ?_; rintro e w' ⟨rfl, rfl⟩) | (go_at_call 52; refine (fail_any _ _ _).mono ?_; rintro e w' ⟨rfl, rfl⟩))
              exact ⟨rfl, rfl, below_drewN' HBW.out _⟩
            · rw [if_neg hend] at q1
              have bend : ((k : Int) + 1 == (s.size : Int)) = false := by simp; omega
              have hk1 : k + 1 < s.size := by omega
              have hk1' : (k : Int) + 1 < (s.size : Int) := by omega
              by_cases g34 : bat s (k + 1) = 34
              · rw [if_pos g34] at q1
                have n34 : (bat s (k + 1) != 34) = false := by simpa using g34
                have Hq1 := Lib.hid q1
                clear q1 h34 h92 hend g34
                go_wp2_with fail
                go_quiet (fail)
                go_wp2_with fail
                go_quiet (fail)
                go_wp2_with (go_at_call 59; refine (isStringByte_any _ _).mono ?_; rintro e w' ⟨rfl, rfl⟩)
                go_quiet (fail)
                go_wp2_with fail
                go_quiet (fail)
                go_wp2_with (at_builtin; refine wpList_append_lies _ rfl (.tmp 133) (.tmp 135) 69 rfl w.heap.size 5 i0 (.int .u8 0) 1 1 Tryd.underlying69 hi hz0 hz1 hz2 rfl (by omega) (.slice A a.length C) a.length (bytesV a) rfl (by exact (ownsRow_setCell_other (w := wr) HR4.out.own hne (.int .i64 ((k : Int) + 1))).alloc _) ⟨_, 0, none⟩ 1 1 [.int .u8 (bat s (k + 1))] rfl rfl (World.news_of_block (cs := #[.int .u8 (bat s (k + 1))]) (t := 5) (fr := (0, 0)) (heap_alloc_at _ (by simp))) (by simp [Value.oneCell']) (by omega) (by simp only [maxLen]; omega) (by omega) (by simp; have := HR4.out.bel.size; simp at this; omega) _ rfl ?_; intro g1 cap1 w1 hown2 hgrow hat2 hlt2; have hQ := qpush (k' := k + 1) (c := bat s (k + 1)) (a := a) (w := w) (g := g) (by have h9 := (below_at HR4.out.bel HI.out.lt.1 (.int .i64 ((k + 1 : Nat) : Int))).alloc (by simpa using HR4.out.bel.size) (.cells #[.int .u8 (bat s (k + 1))] 5); exact below_alike h9 rfl rfl rfl rfl) hown2 hgrow (fun b hb => (HR4.out.own.lt b hb).1); have hP1 := HI.out.atQ hQ; obtain ⟨d0, d1, d2, e0, e1, e2⟩ := hP1.cells; have HQ1 := Lib.hid hQ; have HP1 := Lib.hid hP1; clear hQ hP1)
                go_roundg q
                case measure => omega
                case rel =>
                  refine ⟨some ⟨g1, 0, none⟩, cap1, k + 2, a ++ [bat s (k + 1)], by simp, Hq1.out, by omega, by omega, by simp; omega, ?_⟩
                  have hq2 := HQ1.out.next HI.out.lt.1 (k + 2)
                  rw [show ((k : Int) + 1 + 1) = ((k + 2 : Nat) : Int) from by omega, List.length_append]
                  exact hq2
              · rw [if_neg g34] at q1
                have n34 : (bat s (k + 1) != 34) = true := by simpa using g34
                by_cases g92 : bat s (k + 1) = 92
                · rw [if_pos g92] at q1
                  have n92 : (bat s (k + 1) != 92) = false := by simpa using g92
                  have Hq1 := Lib.hid q1
                  clear q1 h34 h92 hend g34 g92
                  go_wp2_with fail
                  go_quiet (fail)
                  go_wp2_with fail
                  go_quiet (fail)
                  go_wp2_with (go_at_call 59; refine (isStringByte_any _ _).mono ?_; rintro e w' ⟨rfl, rfl⟩)
                  go_quiet (fail)
                  go_wp2_with fail
                  go_quiet (fail)
                  go_wp2_with (at_builtin; refine wpList_append_lies _ rfl (.tmp 133) (.tmp 135) 69 rfl w.heap.size 5 i0 (.int .u8 0) 1 1 Tryd.underlying69 hi hz0 hz1 hz2 rfl (by omega) (.slice A a.length C) a.length (bytesV a) rfl (by exact (ownsRow_setCell_other (w := wr) HR4.out.own hne (.int .i64 ((k : Int) + 1))).alloc _) ⟨_, 0, none⟩ 1 1 [.int .u8 (bat s (k + 1))] rfl rfl (World.news_of_block (cs := #[.int .u8 (bat s (k + 1))]) (t := 5) (fr := (0, 0)) (heap_alloc_at _ (by simp))) (by simp [Value.oneCell']) (by omega) (by simp only [maxLen]; omega) (by omega) (by simp; have := HR4.out.bel.size; simp at this; omega) _ rfl ?_; intro g1 cap1 w1 hown2 hgrow hat2 hlt2; have hQ := qpush (k' := k + 1) (c := bat s (k + 1)) (a := a) (w := w) (g := g) (by have h9 := (below_at HR4.out.bel HI.out.lt.1 (.int .i64 ((k + 1 : Nat) : Int))).alloc (by simpa using HR4.out.bel.size) (.cells #[.int .u8 (bat s (k + 1))] 5); exact below_alike h9 rfl rfl rfl rfl) hown2 hgrow (fun b hb => (HR4.out.own.lt b hb).1); have hP1 := HI.out.atQ hQ; obtain ⟨d0, d1, d2, e0, e1, e2⟩ := hP1.cells; have HQ1 := Lib.hid hQ; have HP1 := Lib.hid hP1; clear hQ hP1)
                  go_roundg q
                  case measure => omega
                  case rel =>
                    refine ⟨some ⟨g1, 0, none⟩, cap1, k + 2, a ++ [bat s (k + 1)], by simp, Hq1.out, by omega, by omega, by simp; omega, ?_⟩
                    have hq2 := HQ1.out.next HI.out.lt.1 (k + 2)
                    rw [show ((k : Int) + 1 + 1) = ((k + 2 : Nat) : Int) from by omega, List.length_append]
                    exact hq2
                · rw [if_neg g92] at q1
                  have n92 : (bat s (k + 1) != 92) = true := by simpa using g92
                  obtain rfl := (Option.some.inj q1).symm
                  clear q1 h34 h92 hend g34 g92
                  go_wp2_with fail
                  go_quiet (fail)
                  go_wp2_with fail
                  go_quiet (fail)
                  go_wp2_with (go_at_call 59; refine (isStringByte_any _ _).mono ?_; rintro e w' ⟨rfl, rfl⟩)
                  go_quiet (fail)
                  go_wp2_with (first | (go_at_call 59; refine (isStringByte_any _ _).mono ?_; rintro e w' ⟨rfl, rfl⟩) | (go_at_call 52; refine (fail_any _ _ _).mono ?_; rintro e w' ⟨rfl, rfl⟩))
                  exact ⟨rfl, rfl, below_drewN' HBW.out _⟩
          · rw [if_neg h92] at q1
            have b92 : (bat s k == 92) = false := by simpa using h92
            have Hq1 := Lib.hid q1
            clear q1 h34 h92
            go_wp2_with fail
            go_quiet (fail)
            go_wp2_with fail
            go_quiet (fail)
            go_wp2_with (first | (go_at_call 59; refine (isStringByte_any _ _).mono ?_; rintro e w' ⟨rfl, rfl⟩) | (at_builtin; refine wpList_append_lies _ rfl (.tmp 133) (.tmp 135) 69 rfl w.heap.size 5 i0 (.int .u8 0) 1 1 Tryd.underlying69 hi hz0 hz1 hz2 rfl (by omega) (.slice A a.length C) a.length (bytesV a) rfl (HR4.out.own.alloc _) ⟨_, 0, none⟩ 1 1 [.int .u8 (bat s k)] rfl rfl (World.news_of_block (cs := #[.int .u8 (bat s k)]) (t := 5) (fr := (0, 0)) (heap_alloc_at _ (by simp))) (by simp [Value.oneCell']) (by omega) (by simp only [maxLen]; omega) (by omega) (by simp; have := HR4.out.bel.size; simp at this; omega) _ rfl ?_; intro g1 cap1 w1 hown2 hgrow hat2 hlt2; have hQ := qpush (k' := k) (c := bat s k) (a := a) (w := w) (g := g) (by exact ((below_drewN' HR4.out.bel _).alloc (by have := HR4.out.bel.size; simpa using this) _)) hown2 hgrow (fun b hb => (HR4.out.own.lt b hb).1); have hP1 := HI.out.atQ hQ; obtain ⟨d0, d1, d2, e0, e1, e2⟩ := hP1.cells; have HQ1 := Lib.hid hQ; have HP1 := Lib.hid hP1; clear hQ hP1))
            go_roundg q
            case measure => omega
            case rel =>
              refine ⟨some ⟨g1, 0, none⟩, cap1, k + 1, a ++ [bat s k], by simp, Hq1.out, by omega, by omega, by simp; omega, ?_⟩
              have hq2 := HQ1.out.next HI.out.lt.1 (k + 1)
              simpa using hq2
    · rw [if_neg hks] at q1
      have hd : decide ((k : Int) < (s.size : Int)) = false := by simp; omega
      obtain rfl := (Option.some.inj q1).symm
      clear q1
      go_wp2_with fail
      go_quiet (fail)
      go_wp2_with (go_at_call 52; refine (fail_any _ _ _).mono ?_; rintro e w' ⟨rfl, rfl⟩)
      exact ⟨rfl, rfl, below_drewN' HBW.out _⟩
end
end Go.Proofs.YtjpabigjmimogaaDoor
