/- The reference parser: quoted. -/
import Derived.Test.YtoepnohmhpdeiaaRState
import Derived.Test.YtoepnohmhpdeiaaQuoted
import Derived.Laws.Rows
import Derived.Deep.RegionLaw
import Derived.Deep.AppendLies
import Derived.Deep.DrawnRows
set_option linter.unusedVariables false
set_option linter.unusedSimpArgs false
namespace Go.Proofs.Ytoepnohmhpdeiaa
open Go.RowKit
attribute [local go_sem ↓] Go.wp_at_zero Go.wp_at_succ

structure RB (w wr : World) (g : Nat) (s : ByteArray) (k fk fo k0 : Int) (t : ByteArray) : Prop where
  rs : RS wr g s k fk fo
  kg : KG w wr g
  r2 : wr.heap[w.heap.size]? = some (.cells #[.int .i64 0, .string ⟨#[]⟩, .slice none 0 0, .int .i64 0] 80 (0, 0))
  r3 : wr.heap[w.heap.size + 1]? = some (.cells #[.int .i64 2, .string t, .slice none 0 0, .int .i64 k0] 80 (0, 0))
section
variable {w wr w' : World} {g : Nat} {s : ByteArray} {k fk fo k0 : Int} {t : ByteArray}
theorem RB.mk0 (h : RS w g s k fk fo) (k0 k2 : Int) : RB w (((w.setCell ⟨g, 1, none⟩ (.int .i64 k2)).alloc (.cells #[.int .i64 0, .string ⟨#[]⟩, .slice none 0 0, .int .i64 0] 80)).alloc (.cells #[.int .i64 2, .string ⟨#[]⟩, .slice none 0 0, .int .i64 k0] 80)) g s k2 fk fo k0 ⟨#[]⟩ := by
  have hl := h.lt
  obtain ⟨W, hW⟩ : ∃ W, W = w.setCell ⟨g, 1, none⟩ (.int .i64 k2) := ⟨_, rfl⟩
  have hs : W.heap.size = w.heap.size := by rw [hW]; simp
  have h' : RS W g s k2 fk fo := by rw [hW]; exact h.setPos k2
  have hk : KG w W g := by rw [hW]; exact (KG.rfl' w g).set _ _
  rw [← hW]
  rw [← hs] at hl
  refine ⟨⟨?_⟩, Kp.alloc (Kp.alloc hk _) _, ?_, ?_⟩
  · rw [Below.heap_alloc _ _ _ (by simp; omega), Below.heap_alloc _ _ _ hl]
    exact h'.row
  · rw [← hs, Below.heap_alloc _ _ _ (by simp)]
    exact heap_alloc_new W _
  · rw [← hs]
    exact heap_alloc2_new W _ _
theorem RB.setPos (h : RB w wr g s k fk fo k0 t) (hg : g < w.heap.size) {k' k2 : Int} (e : k2 = k') : RB w (wr.setCell ⟨g, 1, none⟩ (.int .i64 k2)) g s k' fk fo k0 t :=
  ⟨h.rs.toPos e, h.kg.set _ _, blk_far h.r2 (by dsimp only; omega) _, blk_far h.r3 (by dsimp only; omega) _⟩
theorem RB.drewN (h : RB w wr g s k fk fo k0 t) (n : Nat) : RB w (wr.drewN n) g s k fk fo k0 t := ⟨h.rs.drewN n, h.kg.drewN n, h.r2, h.r3⟩
theorem RB.fail (h : RB w wr g s k 0 0 k0 t) (hg : g < w.heap.size) {a b : Int} (q : RP wr g s k a b w') : RB w w' g s k a b k0 t :=
  ⟨q.1, h.kg.trans q.2.1 (fun _ _ h => h), q.2.1.blk h.r2 (by omega), q.2.1.blk h.r3 (by omega)⟩
theorem RB.text (h : RB w wr g s k fk fo k0 t) (hg : g < w.heap.size) (u : ByteArray) : RB w (wr.setCell ⟨w.heap.size + 1, 1, none⟩ (.string u)) g s k fk fo k0 u :=
  ⟨⟨blk_far h.rs.row (by dsimp only; omega) _⟩, Kp.setCell h.kg (.inr (by simp)) _, blk_far h.r2 (by dsimp only; omega) _, by simpa using blk_set h.r3 1 (.string u)⟩
theorem RB.alloc (h : RB w wr g s k fk fo k0 t) (o : Obj) : RB w (wr.alloc o) g s k fk fo k0 t :=
  ⟨⟨(Below.heap_alloc _ _ _ h.rs.lt).trans h.rs.row⟩, Kp.alloc h.kg o, (Below.heap_alloc _ _ _ (lt_of_block h.r2)).trans h.r2, (Below.heap_alloc _ _ _ (lt_of_block h.r3)).trans h.r3⟩
theorem RB.grown (h : RB w wr g s k fk fo k0 t) (hg : g < w.heap.size) {row : Option Nat} (q : wr.grownBy w' row) (hr : ∀ b, row = some b → w.heap.size + 2 ≤ b) : RB w w' g s k fk fo k0 t := by
  have hb : ∀ b, b < w.heap.size + 2 → some b ≠ row := fun b hb e => by have := hr b e.symm; omega
  exact ⟨⟨(q.block _ h.rs.lt (hb _ (by omega))).trans h.rs.row⟩, Kp.grown h.kg q (fun b hb => .inr (by have := hr b hb; omega)), (q.block _ (lt_of_block h.r2) (hb _ (by omega))).trans h.r2, (q.block _ (lt_of_block h.r3) (hb _ (by omega))).trans h.r3⟩
theorem RB.alike (h : RB w wr g s k fk fo k0 t) (h1 : w'.os = wr.os) (h2 : w'.tape = wr.tape) (h3 : w'.output = wr.output) (h4 : w'.heap = wr.heap) : RB w w' g s k fk fo k0 t :=
  ⟨⟨by rw [h4]; exact h.rs.row⟩, ⟨h1.trans h.kg.os, h2.trans h.kg.tape, h3.trans h.kg.output, by rw [h4]; exact h.kg.size, fun b hb hn => by rw [h4]; exact h.kg.block b hb hn⟩, by rw [h4]; exact h.r2, by rw [h4]; exact h.r3⟩
theorem RB.cells (h : RB w wr g s k fk fo k0 t) : (wr.cell? ⟨w.heap.size, 0, none⟩ = some (.int .i64 0) ∧ wr.cell? ⟨w.heap.size, 1, none⟩ = some (.string ⟨#[]⟩) ∧ wr.cell? ⟨w.heap.size, 2, none⟩ = some (.slice none 0 0) ∧ wr.cell? ⟨w.heap.size, 3, none⟩ = some (.int .i64 0)) ∧ (wr.cell? ⟨w.heap.size + 1, 0, none⟩ = some (.int .i64 2) ∧ wr.cell? ⟨w.heap.size + 1, 1, none⟩ = some (.string t) ∧ wr.cell? ⟨w.heap.size + 1, 2, none⟩ = some (.slice none 0 0) ∧ wr.cell? ⟨w.heap.size + 1, 3, none⟩ = some (.int .i64 k0)) ∧
    wr.frozen? ⟨w.heap.size, 0, none⟩ = false ∧ wr.frozen? ⟨w.heap.size, 1, none⟩ = false ∧ wr.frozen? ⟨w.heap.size, 2, none⟩ = false ∧ wr.frozen? ⟨w.heap.size, 3, none⟩ = false ∧ wr.frozen? ⟨w.heap.size + 1, 1, none⟩ = false :=
  ⟨⟨(cell_of_row _ _ 0 _ _ _ h.r2).trans rfl, (cell_of_row _ _ 1 _ _ _ h.r2).trans rfl, (cell_of_row _ _ 2 _ _ _ h.r2).trans rfl, (cell_of_row _ _ 3 _ _ _ h.r2).trans rfl⟩, ⟨(cell_of_row _ _ 0 _ _ _ h.r3).trans rfl, (cell_of_row _ _ 1 _ _ _ h.r3).trans rfl, (cell_of_row _ _ 2 _ _ _ h.r3).trans rfl, (cell_of_row _ _ 3 _ _ _ h.r3).trans rfl⟩, blk_frozen h.r2 0, blk_frozen h.r2 1, blk_frozen h.r2 2, blk_frozen h.r2 3, blk_frozen h.r3 1⟩
end

structure RQEnd (w w' : World) (g : Nat) (s : ByteArray) (pos fk fo k0 : Int) (t : ByteArray) : Prop where
  row : w'.heap[w.heap.size]? = some (.cells #[.int .i64 2, .string t, .slice none 0 0, .int .i64 k0] 80 (0, 0))
  rs : RS w' g s pos fk fo
  kg : KG w w' g
theorem RB.done {w wr : World} {g : Nat} {s : ByteArray} {k fk fo k0 : Int} {t : ByteArray} (h : RB w wr g s k fk fo k0 t) (hg : g < w.heap.size) :
    RQEnd w ((((wr.setCell ⟨w.heap.size, 0, none⟩ (.int .i64 2)).setCell ⟨w.heap.size, 1, none⟩ (.string t)).setCell ⟨w.heap.size, 2, none⟩ (.slice none 0 0)).setCell ⟨w.heap.size, 3, none⟩ (.int .i64 k0)) g s k fk fo k0 t := by
  refine ⟨by simpa using blk_set (blk_set (blk_set (blk_set h.r2 0 (.int .i64 2)) 1 (.string t)) 2 (.slice none 0 0)) 3 (.int .i64 k0), ⟨?_⟩, ?_⟩
  · exact blk_far (blk_far (blk_far (blk_far h.rs.row (by dsimp only; omega) _) (by dsimp only; omega) _) (by dsimp only; omega) _) (by dsimp only; omega) _
  · exact Kp.setCell (Kp.setCell (Kp.setCell (Kp.setCell h.kg (.inr (by simp)) _) (.inr (by simp)) _) (.inr (by simp)) _) (.inr (by simp)) _

def RQR (k0 : Nat) (r : QR) (t : ByteArray) (pos fk fo : Int) : Prop :=
  match r with
  | .bad p => fk = 2 ∧ fo = p
  | .done E a => if 2000 < a.length then fk = 4 ∧ fo = k0 else fk = 0 ∧ fo = 0 ∧ t = strOfNums a ∧ pos = E
def RQPost (w : World) (g : Nat) (s : ByteArray) (k0 : Nat) (r : QR) (e : Ending) (w' : World) : Prop :=
  ∃ t pos fk fo, e = .returned (.agg #[.int .i64 2, .string t, .slice none 0 0, .int .i64 k0]) ∧ RS w' g s pos fk fo ∧ KG w w' g ∧
    RQR k0 r t pos fk fo
theorem RQEnd.post {w w' : World} {g : Nat} {s : ByteArray} {pos fk fo : Int} {k0 : Nat} {t : ByteArray} {r : QR} (h : RQEnd w w' g s pos fk fo k0 t) (hm : RQR k0 r t pos fk fo) :
    RQPost w g s k0 r (.returned (.agg #[.int .i64 2, .string t, .slice none 0 0, .int .i64 k0])) w' := ⟨t, pos, fk, fo, rfl, h.rs, h.kg, hm⟩

theorem lt32_of (c : Int) (h : isS c = true) : decide (c < 32) = false ∧ decide (126 < c) = false := by
  unfold isS at h; simp at h; simp; omega

set_option maxRecDepth 100000 in
set_option maxHeartbeats 4000000 in
theorem rquoted_any {w : World} {g : Nat} {s : ByteArray} {k0 : Nat} (h : RS w g s k0 0 0) (hk : k0 < s.size) (hs : s.size ≤ 65536) (n : Nat) (r : QR) (hq : qScan s n (k0 + 1) [] = some r) :
    Calls Try.prog 64 #[.pointer (some ⟨g, 0, none⟩)] w (RQPost w g s k0 r) := by
  have hgl := h.lt
  have HQ := Lib.hid hq
  have HB0 := Lib.hid (RB.mk0 h k0 ((k0 : Int) + 1))
  obtain ⟨c0, c1, c2, c3, f1, f2, f3⟩ := h.cells
  obtain ⟨i0, hi, hz0, hz1, hz2⟩ := info_parts byte_info
  have hn1 : ¬ g = w.heap.size := by omega
  have hn2 : ¬ g = w.heap.size + 1 := by omega
  have hn3 : ¬ w.heap.size = g := by omega
  have hn4 : ¬ w.heap.size + 1 = g := by omega
  clear h hq
  go_enter Try.func64, Try.ntmps64
  go_wp2
  clear c0 c1 c2 c3 f1 f2 f3
  go_loopg [4] n (fun q bv wr => ∃ A C k a, bv = .slice A (List.length a) C ∧ Hid (qScan s q k a = some r ∧ k0 < k ∧ k ≤ s.size ∧ a.length < k ∧ RB w wr g s (k : Nat) 0 0 k0 ⟨#[]⟩ ∧ wr.ownsRow (w.heap.size + 2) 5 1 (.slice A (List.length a) C) a.length (bytesV a)))
  case atStart => exact ⟨none, 0, k0 + 1, [], rfl, HQ.out, by omega, by omega, by simp, by simpa using HB0.out, World.ownsRow_nil _ _ _ _⟩
  case round =>
    obtain ⟨A, C, k, a, rfl, HR⟩ := hrel
    obtain ⟨q1, r1, r2, r3, r4, r5⟩ := HR.out
    obtain ⟨c0, c1, c2, c3, f1, f2, f3⟩ := r4.rs.cells
    obtain ⟨⟨i1, i2, i3, i4⟩, ⟨d0, d1, d2, d3⟩, e0, e1, e2, e3, e4⟩ := r4.cells
    have hsz : w.heap.size + 2 ≤ wr.heap.size := lt_of_block r4.r3
    clear HR
    have HR := Lib.hid r4
    have HO := Lib.hid r5
    clear r4 r5 c2 c3 f2 f3
    cases gk with
    | zero => simp [qScan] at q1
    | succ q =>
    simp only [qScan] at q1
    have hat := bat_at s k
    have hat1 := bat_at s (k + 1)
    by_cases hks : k < s.size
    · rw [if_pos hks] at q1
      have hks' : (k : Int) < (s.size : Int) := by omega
      have hk0' : (0 : Int) ≤ (k : Int) + 1 := by omega
      by_cases h34 : bat s k = 34
      · rw [if_pos h34] at q1
        have b34 : (bat s k == 34) = true := by simpa using h34
        obtain rfl := (Option.some.inj q1).symm
        clear q1 h34
        have hne : (Value.slice A a.length C).ownBlock ≠ some g := fun e => by have := (HO.out.lt g e).1; omega
        have hcv : ∀ n : Nat, (convert 36 9 (.slice A a.length C)).run Try.prog ((wr.drewN n).setCell ⟨g, 1, none⟩ (.int .i64 ((k : Int) + 1))) = .ok (.string (strOfNums a)) ((wr.drewN n).setCell ⟨g, 1, none⟩ (.int .i64 ((k : Int) + 1))) :=
          fun n => bytes_string (base := w.heap.size + 2) (ownsRow_setCell_other (w := wr.drewN n) HO.out hne _)
        by_cases hbig : 2000 < a.length
        · have hbig' : (2000 : Int) < (a.length : Int) := by omega
          go_wp2_with fail
          go_quiet (fail)
          go_wp2_with fail
          go_quiet (fail)
          go_wp2_with (go_at_call 63; refine (rfail_any (by exact (((HR.out.drewN _).setPos hgl rfl).text hgl _).rs) _ _).mono ?_; rintro e w' ⟨rfl, hP⟩; have hB2 := (((HR.out.drewN _).setPos hgl rfl).text hgl _).fail hgl hP; obtain ⟨⟨u1, u2, u3, u4⟩, ⟨x0, x1, x2, x3⟩, y0, y1, y2, y3, y4⟩ := hB2.cells; have HB2 := Lib.hid hB2; clear hB2 hP)
          have hE := HB2.out.done hgl
          refine bodyPost_ret (results_cell_row rfl _ _ w.heap.size _ _ (0, 0) _ rfl hE.row rfl rfl rfl) rfl (hE.post ?_)
          simp [RQR, hbig]
        · have hbig' : ¬ (2000 : Int) < (a.length : Int) := by omega
          go_wp2_with fail
          go_quiet (fail)
          go_wp2_with fail
          go_quiet (fail)
          go_wp2_with fail
          have hE := fun m => (((HR.out.drewN m).setPos hgl (k' := ((k + 1 : Nat) : Int)) (k2 := (k : Int) + 1) (by simp)).text hgl (strOfNums a)).done hgl
          refine bodyPost_ret (results_cell_row rfl _ _ w.heap.size _ _ (0, 0) _ rfl (hE _).row rfl rfl rfl) rfl ((hE _).post ?_)
          simp [RQR, hbig]
      · rw [if_neg h34] at q1
        have b34 : (bat s k == 34) = false := by simpa using h34
        by_cases hS : isS (bat s k) = false
        · rw [if_pos hS] at q1
          obtain rfl := (Option.some.inj q1).symm
          clear q1 h34
          by_cases hlo : bat s k < 32
          · clear hS
            go_wp2_with fail
            go_quiet (fail)
            go_wp2_with fail
            go_quiet (fail)
            go_wp2_with (go_at_call 63; refine (rfail_any (by exact (HR.out.drewN _).rs) _ _).mono ?_; rintro e w' ⟨rfl, hP⟩; have hB2 := (HR.out.drewN _).fail hgl hP; obtain ⟨⟨u1, u2, u3, u4⟩, ⟨x0, x1, x2, x3⟩, y0, y1, y2, y3, y4⟩ := hB2.cells; have HB2 := Lib.hid hB2; clear hB2 hP)
            have hE := HB2.out.done hgl
            refine bodyPost_ret (results_cell_row rfl _ _ w.heap.size _ _ (0, 0) _ rfl hE.row rfl rfl rfl) rfl (hE.post ?_)
            exact ⟨rfl, rfl⟩
          · have hhi : 126 < bat s k := by unfold isS at hS; simp at hS; omega
            clear hS
            go_wp2_with fail
            go_quiet (fail)
            go_wp2_with fail
            go_quiet (fail)
            go_wp2_with (go_at_call 63; refine (rfail_any (by exact (HR.out.drewN _).rs) _ _).mono ?_; rintro e w' ⟨rfl, hP⟩; have hB2 := (HR.out.drewN _).fail hgl hP; obtain ⟨⟨u1, u2, u3, u4⟩, ⟨x0, x1, x2, x3⟩, y0, y1, y2, y3, y4⟩ := hB2.cells; have HB2 := Lib.hid hB2; clear hB2 hP)
            have hE := HB2.out.done hgl
            refine bodyPost_ret (results_cell_row rfl _ _ w.heap.size _ _ (0, 0) _ rfl hE.row rfl rfl rfl) rfl (hE.post ?_)
            exact ⟨rfl, rfl⟩
        · rw [if_neg hS] at q1
          have hS' : isS (bat s k) = true := by simpa using hS
          have hlo : ¬ bat s k < 32 := by unfold isS at hS'; simp at hS'; omega
          have hhi : ¬ 126 < bat s k := by unfold isS at hS'; simp at hS'; omega
          clear hS hS'
          have hne : (Value.slice A a.length C).ownBlock ≠ some g := fun e => by have := (HO.out.lt g e).1; omega
          by_cases h92 : bat s k = 92
          · rw [if_pos h92] at q1
            have b92 : (bat s k == 92) = true := by simpa using h92
            by_cases hend : k + 1 = s.size
            · rw [if_pos hend] at q1
              have bend : ((k : Int) + 1 == (s.size : Int)) = true := by simp; omega
              obtain rfl := (Option.some.inj q1).symm
              clear q1 h34 h92 hend
              go_wp2_with fail
              go_quiet (fail)
              go_wp2_with fail
              go_quiet (fail)
              go_wp2_with fail
              go_quiet (fail)
              go_wp2_with (go_at_call 63; refine (rfail_any (by exact (HR.out.drewN _).rs) _ _).mono ?_; rintro e w' ⟨rfl, hP⟩; have hB2 := (HR.out.drewN _).fail hgl hP; obtain ⟨⟨u1, u2, u3, u4⟩, ⟨x0, x1, x2, x3⟩, y0, y1, y2, y3, y4⟩ := hB2.cells; have HB2 := Lib.hid hB2; clear hB2 hP)
              have hE := HB2.out.done hgl
              refine bodyPost_ret (results_cell_row rfl _ _ w.heap.size _ _ (0, 0) _ rfl hE.row rfl rfl rfl) rfl (hE.post ?_)
              exact ⟨rfl, rfl⟩
            · rw [if_neg hend] at q1
              have bend : ((k : Int) + 1 == (s.size : Int)) = false := by simp; omega
              have hk1 : k + 1 < s.size := by omega
              have hk1' : (k : Int) + 1 < (s.size : Int) := by omega
              by_cases g34 : bat s (k + 1) = 34
              · rw [if_pos g34] at q1
                have n34 : (bat s (k + 1) != 34) = false := by simpa using g34
                have Hq1 := Lib.hid q1
                clear q1 h34 h92 hend g34
                go_wp2_with fail
                go_quiet (fail)
                go_wp2_with fail
                go_quiet (fail)
                go_wp2_with fail
                go_quiet (fail)
                go_wp2_with fail
                generalize hW : World.setCell (World.drewN wr _) ⟨g, 1, none⟩ (.int .i64 ((k : Int) + 1)) = W
                have hRW : RB w W g s ((k : Int) + 1) 0 0 k0 ⟨#[]⟩ := by rw [← hW]; exact (HR.out.drewN _).setPos hgl rfl
                have hOW : W.ownsRow (w.heap.size + 2) 5 1 (.slice A (List.length a) C) a.length (bytesV a) := by rw [← hW]; exact ownsRow_setCell_other (w := wr.drewN _) HO.out hne _
                have hsW : w.heap.size + 2 ≤ W.heap.size := lt_of_block hRW.r3
                obtain ⟨c0, c1, c2, c3, f1, f2, f3⟩ := hRW.rs.cells
                have hgW := hRW.rs.lt
                have k0' : ∀ y, (W.alloc y).cell? ⟨g, 0, none⟩ = some (.string s) := fun y => (World.cell?_alloc_lt W y _ hgW).trans c0
                have k1' : ∀ y, (W.alloc y).cell? ⟨g, 1, none⟩ = some (.int .i64 ((k : Int) + 1)) := fun y => (World.cell?_alloc_lt W y _ hgW).trans c1
                have HRW := Lib.hid hRW
                clear hW hRW c2 c3 f1 f2 f3
                go_region_law ((refine step_append_lies _ (by rfl) (.tmp 137) (.tmp 147) 36 (by rfl) (w.heap.size + 2) 5 i0 (.int .u8 0) 1 1 Try.underlying36 hi hz0 hz1 hz2 rfl (by omega) (.slice A a.length C) a.length (bytesV a) (by rfl) (hOW.alloc _) ⟨W.heap.size, 0, none⟩ 1 1 [.int .u8 (bat s (k + 1))] (by rfl) rfl (World.news_of_block (cs := #[.int .u8 (bat s (k + 1))]) (t := 5) (fr := (0, 0)) (heap_alloc_new W _)) (by simp [Value.oneCell']) (by omega) (by simp only [maxLen]; omega) (by omega) (by simp; omega) (W.heap.size + 1) (by simp) ?_; intro g1 cap1 w1 hown2 hgrow hat2 hlt2))
                all_goals
                  have hP1 := ((HRW.out.alloc (.cells #[.int .u8 (bat s (k + 1))] 5)).drewN 1).grown hgl hgrow (fun b hb => (HO.out.lt b hb).1)
                  obtain ⟨v0, v1, v2, v3, v4, v5, v6⟩ := hP1.rs.cells
                  have HP1 := Lib.hid hP1
                  clear hP1 v2 v3 v5 v6
                  go_wp2_with fail
                  go_roundg q
                  case measure => omega
                  case rel =>
                    refine ⟨some ⟨g1, 0, none⟩, cap1, k + 2, a ++ [bat s (k + 1)], by simp, Hq1.out, by omega, by omega, by simp; omega, HP1.out.setPos hgl (by simp; omega), ?_⟩
                    have hne2 : (Value.slice (some ⟨g1, 0, none⟩) (a.length + 1) cap1).ownBlock ≠ some g := fun e => by have := (hown2.lt g e).1; omega
                    have := ownsRow_setCell_other hown2 (a := ⟨g, 1, none⟩) hne2 (.int .i64 ((k : Int) + 1 + 1))
                    simpa [bytesV] using this
              · rw [if_neg g34] at q1
                have n34 : (bat s (k + 1) != 34) = true := by simpa using g34
                by_cases g92 : bat s (k + 1) = 92
                · rw [if_pos g92] at q1
                  have n92 : (bat s (k + 1) != 92) = false := by simpa using g92
                  have Hq1 := Lib.hid q1
                  clear q1 h34 h92 hend g34 g92
                  go_wp2_with fail
                  go_quiet (fail)
                  go_wp2_with fail
                  go_quiet (fail)
                  go_wp2_with fail
                  go_quiet (fail)
                  go_wp2_with fail
                  generalize hW : World.setCell (World.drewN wr _) ⟨g, 1, none⟩ (.int .i64 ((k : Int) + 1)) = W
                  have hRW : RB w W g s ((k : Int) + 1) 0 0 k0 ⟨#[]⟩ := by rw [← hW]; exact (HR.out.drewN _).setPos hgl rfl
                  have hOW : W.ownsRow (w.heap.size + 2) 5 1 (.slice A (List.length a) C) a.length (bytesV a) := by rw [← hW]; exact ownsRow_setCell_other (w := wr.drewN _) HO.out hne _
                  have hsW : w.heap.size + 2 ≤ W.heap.size := lt_of_block hRW.r3
                  obtain ⟨c0, c1, c2, c3, f1, f2, f3⟩ := hRW.rs.cells
                  have hgW := hRW.rs.lt
                  have k0' : ∀ y, (W.alloc y).cell? ⟨g, 0, none⟩ = some (.string s) := fun y => (World.cell?_alloc_lt W y _ hgW).trans c0
                  have k1' : ∀ y, (W.alloc y).cell? ⟨g, 1, none⟩ = some (.int .i64 ((k : Int) + 1)) := fun y => (World.cell?_alloc_lt W y _ hgW).trans c1
                  have HRW := Lib.hid hRW
                  clear hW hRW c2 c3 f1 f2 f3
                  go_region_law ((refine step_append_lies _ (by rfl) (.tmp 137) (.tmp 147) 36 (by rfl) (w.heap.size + 2) 5 i0 (.int .u8 0) 1 1 Try.underlying36 hi hz0 hz1 hz2 rfl (by omega) (.slice A a.length C) a.length (bytesV a) (by rfl) (hOW.alloc _) ⟨W.heap.size, 0, none⟩ 1 1 [.int .u8 (bat s (k + 1))] (by rfl) rfl (World.news_of_block (cs := #[.int .u8 (bat s (k + 1))]) (t := 5) (fr := (0, 0)) (heap_alloc_new W _)) (by simp [Value.oneCell']) (by omega) (by simp only [maxLen]; omega) (by omega) (by simp; omega) (W.heap.size + 1) (by simp) ?_; intro g1 cap1 w1 hown2 hgrow hat2 hlt2))
                  all_goals
                    have hP1 := ((HRW.out.alloc (.cells #[.int .u8 (bat s (k + 1))] 5)).drewN 1).grown hgl hgrow (fun b hb => (HO.out.lt b hb).1)
                    obtain ⟨v0, v1, v2, v3, v4, v5, v6⟩ := hP1.rs.cells
                    have HP1 := Lib.hid hP1
                    clear hP1 v2 v3 v5 v6
                    go_wp2_with fail
                    go_roundg q
                    case measure => omega
                    case rel =>
                      refine ⟨some ⟨g1, 0, none⟩, cap1, k + 2, a ++ [bat s (k + 1)], by simp, Hq1.out, by omega, by omega, by simp; omega, HP1.out.setPos hgl (by simp; omega), ?_⟩
                      have hne2 : (Value.slice (some ⟨g1, 0, none⟩) (a.length + 1) cap1).ownBlock ≠ some g := fun e => by have := (hown2.lt g e).1; omega
                      have := ownsRow_setCell_other hown2 (a := ⟨g, 1, none⟩) hne2 (.int .i64 ((k : Int) + 1 + 1))
                      simpa [bytesV] using this
                · rw [if_neg g92] at q1
                  have n92 : (bat s (k + 1) != 92) = true := by simpa using g92
                  obtain rfl := (Option.some.inj q1).symm
                  clear q1 h34 h92 hend g34 g92
                  go_wp2_with fail
                  go_quiet (fail)
                  go_wp2_with fail
                  go_quiet (fail)
                  go_wp2_with fail
                  go_quiet (fail)
                  go_wp2_with (go_at_call 63; refine (rfail_any (by exact (HR.out.drewN _).rs) _ _).mono ?_; rintro e w' ⟨rfl, hP⟩; have hB2 := (HR.out.drewN _).fail hgl hP; obtain ⟨⟨u1, u2, u3, u4⟩, ⟨x0, x1, x2, x3⟩, y0, y1, y2, y3, y4⟩ := hB2.cells; have HB2 := Lib.hid hB2; clear hB2 hP)
                  have hE := HB2.out.done hgl
                  refine bodyPost_ret (results_cell_row rfl _ _ w.heap.size _ _ (0, 0) _ rfl hE.row rfl rfl rfl) rfl (hE.post ?_)
                  exact ⟨rfl, rfl⟩
          · rw [if_neg h92] at q1
            have b92 : (bat s k == 92) = false := by simpa using h92
            have Hq1 := Lib.hid q1
            clear q1 h34 h92
            go_wp2_with fail
            go_quiet (fail)
            go_wp2_with fail
            go_quiet (fail)
            go_wp2_with (at_builtin; refine wpList_append_lies _ rfl (.tmp 44) (.tmp 46) 36 rfl (w.heap.size + 2) 5 i0 (.int .u8 0) 1 1 Try.underlying36 hi hz0 hz1 hz2 rfl (by omega) (.slice A a.length C) a.length (bytesV a) rfl (by exact HO.out.alloc _) ⟨_, 0, none⟩ 1 1 [.int .u8 (bat s k)] rfl rfl (World.news_of_block (cs := #[.int .u8 (bat s k)]) (t := 5) (fr := (0, 0)) (heap_alloc_at _ (by simp))) (by simp [Value.oneCell']) (by omega) (by simp only [maxLen]; omega) (by omega) (by simp; omega) _ rfl ?_; intro g1 cap1 w1 hown2 hgrow hat2 hlt2; have hP1 := ((HR.out.drewN _).alloc (.cells #[.int .u8 (bat s k)] 5)).grown hgl hgrow (fun b hb => (HO.out.lt b hb).1); obtain ⟨v0, v1, v2, v3, v4, v5, v6⟩ := hP1.rs.cells; have HP1 := Lib.hid hP1; clear hP1 v2 v3 v5 v6)
            go_roundg q
            case measure => omega
            case rel =>
              refine ⟨some ⟨g1, 0, none⟩, cap1, k + 1, a ++ [bat s k], by simp, Hq1.out, by omega, by omega, by simp; omega, HP1.out.setPos hgl (by simp), ?_⟩
              have hne2 : (Value.slice (some ⟨g1, 0, none⟩) (a.length + 1) cap1).ownBlock ≠ some g := fun e => by have := (hown2.lt g e).1; omega
              have := ownsRow_setCell_other hown2 (a := ⟨g, 1, none⟩) hne2 (.int .i64 ((k : Int) + 1))
              simpa [bytesV] using this
    · rw [if_neg hks] at q1
      have hd : decide ((k : Int) < (s.size : Int)) = false := by simp; omega
      obtain rfl := (Option.some.inj q1).symm
      clear q1
      go_wp2_with fail
      go_quiet (fail)
      go_wp2_with (go_at_call 63; refine (rfail_any (by exact (HR.out.drewN _).rs) _ _).mono ?_; rintro e w' ⟨rfl, hP⟩; have hB2 := (HR.out.drewN _).fail hgl hP; obtain ⟨⟨u1, u2, u3, u4⟩, ⟨x0, x1, x2, x3⟩, y0, y1, y2, y3, y4⟩ := hB2.cells; have HB2 := Lib.hid hB2; clear hB2 hP)
      have hE := HB2.out.done hgl
      refine bodyPost_ret (results_cell_row rfl _ _ w.heap.size _ _ (0, 0) _ rfl hE.row rfl rfl rfl) rfl (hE.post ?_)
      exact ⟨rfl, rfl⟩
end Go.Proofs.Ytoepnohmhpdeiaa
