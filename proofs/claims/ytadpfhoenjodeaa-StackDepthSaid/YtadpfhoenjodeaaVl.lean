/- Trees of api.Value, and telpher/own.Values. -/
import Derived.Test.YtadpfhoenjodeaaOwnD
import Derived.Test.YtadpfhoenjodeaaTape
import Derived.Test.YtadpfhoenjodeaaProg
import Derived.Deep.LoopGhost
import Derived.Lib.Hide
import Derived.Laws.Rows
set_option linter.unusedVariables false
set_option linter.unusedSimpArgs false
namespace Go.Proofs.Ytadpfhoenjodeaa
open Go.RowKit

inductive Vl where
  | mk (kind : Int) (num : Int) (str : ByteArray) (elems : List Vl)
def Vl.kind : Vl → Int | .mk a _ _ _ => a
def Vl.num : Vl → Int | .mk _ a _ _ => a
def Vl.str : Vl → ByteArray | .mk _ _ a _ => a
def Vl.elems : Vl → List Vl | .mk _ _ _ a => a
mutual
def Vl.tr : Vl → List Tr
  | .mk a b c l => [.sc (.int .i64 a), .sc (.int .i64 b), .sc (.string c), .sl 50 4 (vlsT l)]
def vlsT : List Vl → List Tr
  | [] => []
  | x :: l => x.tr ++ vlsT l
end
mutual
def Vl.cnt : Vl → Nat
  | .mk _ _ _ l => 1 + vlsC l
def vlsC : List Vl → Nat
  | [] => 0
  | x :: l => x.cnt + vlsC l
end
def vlsTr (l : List Vl) : Tr := .sl 50 4 (vlsT l)
theorem Vl.tr_eq (x : Vl) : x.tr = [.sc (.int .i64 x.kind), .sc (.int .i64 x.num), .sc (.string x.str), vlsTr x.elems] := by cases x; simp [Vl.tr, vlsTr, Vl.kind, Vl.num, Vl.str, Vl.elems]
theorem Vl.tr_length (x : Vl) : x.tr.length = 4 := by rw [Vl.tr_eq]; rfl
theorem vlsT_flat (l : List Vl) : vlsT l = l.flatMap Vl.tr := by
  induction l with
  | nil => simp [vlsT]
  | cons x l ih => simp [vlsT, ih]
theorem vlsT_length (l : List Vl) : (vlsT l).length = l.length * 4 := by rw [vlsT_flat, length_flatMap_row _ 4 Vl.tr_length]
theorem vlsT_append (l m : List Vl) : vlsT (l ++ m) = vlsT l ++ vlsT m := by simp [vlsT_flat]
theorem vlsT_one (x : Vl) : vlsT [x] = x.tr := by simp [vlsT]
theorem Vl.tr_one (x : Vl) : ∀ e ∈ x.tr, e.one := by
  intro e he
  rw [Vl.tr_eq] at he
  simp only [List.mem_cons, List.not_mem_nil, or_false] at he
  rcases he with rfl | rfl | rfl | rfl
  · rfl
  · rfl
  · rfl
  · trivial
theorem vlsC_append (l m : List Vl) : vlsC (l ++ m) = vlsC l + vlsC m := by
  induction l with
  | nil => simp [vlsC]
  | cons x l ih => simp only [List.cons_append, vlsC, ih]; omega
theorem Vl.cnt_eq (x : Vl) : x.cnt = 1 + vlsC x.elems := by cases x; simp [Vl.cnt, Vl.elems]
theorem vlsC_len (l : List Vl) : l.length ≤ vlsC l := by
  induction l with
  | nil => simp [vlsC]
  | cons x l ih => have := x.cnt_eq; simp only [List.length_cons, vlsC]; omega
theorem vlsC_at {l : List Vl} {i : Nat} {x : Vl} (hx : l[i]? = some x) : x.cnt ≤ vlsC l := by
  obtain ⟨hi, rfl⟩ := List.getElem?_eq_some_iff.1 hx
  have h := congrArg vlsC (List.take_append_drop i l)
  rw [vlsC_append, List.drop_eq_getElem_cons hi] at h
  simp only [vlsC] at h
  omega
theorem vls_sz {l : List Vl} {i : Nat} {x : Vl} (h : l[i]? = some x) : SizeOf.sizeOf x < SizeOf.sizeOf l := by
  obtain ⟨hi, rfl⟩ := List.getElem?_eq_some_iff.1 h
  exact List.sizeOf_lt_of_mem (List.getElem_mem hi)
theorem Vl.sz (x : Vl) : SizeOf.sizeOf x.elems < SizeOf.sizeOf x := by cases x; simp [Vl.elems]; omega
theorem vls_len {w : World} {ok : Nat → Prop} {A : Option Addr} {n c : Nat} {l : List Vl} (h : Rd w ok (.slice A n c) (vlsTr l)) : n = l.length ∧ n ≤ c ∧ c ≤ maxLen := by
  have := h.len
  rw [vlsT_length] at this
  exact ⟨by omega, this.2⟩
theorem vls_at {w : World} {ok : Nat → Prop} {A : Option Addr} {n c i : Nat} {l : List Vl} {x : Vl} (h : Rd w ok (.slice A n c) (vlsTr l)) (hx : l[i]? = some x) :
    ∃ b o A' n' c', A = some ⟨b, o, none⟩ ∧ b < w.heap.size ∧ w.cell? ⟨b, o + i * 4, none⟩ = some (.int .i64 x.kind) ∧ w.cell? ⟨b, o + i * 4 + 1, none⟩ = some (.int .i64 x.num) ∧ w.cell? ⟨b, o + i * 4 + 2, none⟩ = some (.string x.str) ∧ w.cell? ⟨b, o + i * 4 + 3, none⟩ = some (.slice A' n' c') ∧ Rd w ok (.slice A' n' c') (vlsTr x.elems) := by
  have hi := (List.getElem?_eq_some_iff.1 hx).1
  have hn := (vls_len h).1
  obtain ⟨b, o, rfl, -, hbl, hc⟩ := h.at_ (by omega)
  have e := fun (k : Nat) (hk : k < 4) => getElem?_flatMap_row _ 4 Vl.tr_length l i k x hx hk
  rw [← vlsT_flat, Vl.tr_eq] at e
  have gg := fun (k : Nat) (hk : k < 4) => hc (i * 4 + k) (by omega)
  obtain ⟨u0, e0, q0, c0, r0⟩ := gg 0 (by omega)
  obtain ⟨u1, e1, q1, c1, r1⟩ := gg 1 (by omega)
  obtain ⟨u2, e2, q2, c2, r2⟩ := gg 2 (by omega)
  obtain ⟨u3, e3, q3, c3, r3⟩ := gg 3 (by omega)
  have x0 := q0.symm.trans (e 0 (by omega)); have x1 := q1.symm.trans (e 1 (by omega)); have x2 := q2.symm.trans (e 2 (by omega)); have x3 := q3.symm.trans (e 3 (by omega))
  simp at x0 x1 x2 x3
  subst x0 x1 x2 x3
  have s0 := r0.sc_inv; have s1 := r1.sc_inv; have s2 := r2.sc_inv
  subst s0 s1 s2
  obtain ⟨A', n', c', rfl, -⟩ := r3.sl_inv
  exact ⟨b, o, A', n', c', rfl, hbl, by simpa using c0, by simpa [Nat.add_assoc] using c1, by simpa [Nat.add_assoc] using c2, by simpa [Nat.add_assoc] using c3, r3⟩
theorem vls_rdl {w : World} {ok : Nat → Prop} {A : Option Addr} {n c : Nat} {x : Vl} (h : Rd w ok (.slice A n c) (vlsTr x.elems)) : RdL w ok [.int .i64 x.kind, .int .i64 x.num, .string x.str, .slice A n c] x.tr := by
  rw [Vl.tr_eq]
  exact .cons (.sc _) (.cons (.sc _) (.cons (.sc _) (.cons h .nil)))

theorem vls_info : (Try.prog.info? 50).map (fun i => (i.zero, i.size, i.bytes)) = some (some (.agg #[.int .i64 0, .int .i64 0, .string ⟨#[]⟩, .slice none 0 0]), 4, 56) := by kernel_rfl
@[reducible] def CopiesVl (l : List Vl) : Prop := ∀ (w : World) (ok : Nat → Prop) (A : Option Addr) (n c : Nat), Rd w ok (.slice A n c) (vlsTr l) →
  Calls Try.prog 55 #[.slice A n c] w fun e w' => ∃ A' c', e = .returned (.slice A' l.length c') ∧ Rd w' (fun b => w.heap.size ≤ b) (.slice A' l.length c') (vlsTr l) ∧ Below w.heap.size w w'
set_option maxRecDepth 100000 in
set_option maxHeartbeats 4000000 in
theorem ownVl_of (x : Vl) (H : CopiesVl x.elems) (w : World) (ok : Nat → Prop) (A : Option Addr) (n c : Nat) (hr : Rd w ok (.slice A n c) (vlsTr x.elems)) :
    Calls Try.prog 64 #[.agg #[.int .i64 x.kind, .int .i64 x.num, .string x.str, .slice A n c]] w fun e w' => ∃ A' n' c', e = .returned (.agg #[.int .i64 x.kind, .int .i64 x.num, .string x.str, .slice A' n' c']) ∧ Rd w' (fun b => w.heap.size ≤ b) (.slice A' n' c') (vlsTr x.elems) ∧ Below w.heap.size w w' := by
  have HR := Lib.hid hr
  have HH := Lib.hid H
  clear hr H
  go_enter Try.func64, Try.ntmps64
  go_wp2_with (go_at_call 55; (with_reducible refine (HH.out _ ok A n c ((HR.out.alloc _).alloc _)).mono ?_); rintro e w1 ⟨A1, c1, rfl, h1, h2⟩; have hb1 : w1.heap[w.heap.size]? = some (.cells #[.int .i64 x.kind, .int .i64 x.num, .string x.str, .slice A n c] 50 (0, 0)) := (h2.block _ (by simp; omega)).trans (blk_new1 w _ _); have hb2 : w1.heap[w.heap.size + 1]? = some (.cells #[.int .i64 0, .int .i64 0, .string ⟨#[]⟩, .slice none 0 0] 50 (0, 0)) := (h2.block _ (by simp)).trans (blk_new2 w _ _); have s0 : w1.cell? ⟨w.heap.size, 0, none⟩ = some (.int .i64 x.kind) := (cell_of_row _ _ 0 _ _ _ hb1).trans rfl; have s1 : w1.cell? ⟨w.heap.size, 1, none⟩ = some (.int .i64 x.num) := (cell_of_row _ _ 1 _ _ _ hb1).trans rfl; have s2 : w1.cell? ⟨w.heap.size, 2, none⟩ = some (.string x.str) := (cell_of_row _ _ 2 _ _ _ hb1).trans rfl; have s3 : w1.cell? ⟨w.heap.size, 3, none⟩ = some (.slice A n c) := (cell_of_row _ _ 3 _ _ _ hb1).trans rfl; have v0 : w1.cell? ⟨w.heap.size + 1, 0, none⟩ = some (.int .i64 0) := (cell_of_row _ _ 0 _ _ _ hb2).trans rfl; have v1 : w1.cell? ⟨w.heap.size + 1, 1, none⟩ = some (.int .i64 0) := (cell_of_row _ _ 1 _ _ _ hb2).trans rfl; have v2 : w1.cell? ⟨w.heap.size + 1, 2, none⟩ = some (.string ⟨#[]⟩) := (cell_of_row _ _ 2 _ _ _ hb2).trans rfl; have v3 : w1.cell? ⟨w.heap.size + 1, 3, none⟩ = some (.slice none 0 0) := (cell_of_row _ _ 3 _ _ _ hb2).trans rfl; have f3 : w1.frozen? ⟨w.heap.size, 3, none⟩ = false := tp_frozen hb1 3; have g0 := tp_frozen hb2 0; have g1 := tp_frozen hb2 1; have g2 := tp_frozen hb2 2; have g3 := tp_frozen hb2 3; have HB2 := Lib.hid hb2; have HR1 := Lib.hid h1; have HBL := Lib.hid h2; clear hb1 hb2 h1 h2)
  have hrow : (((((w1.setCell ⟨w.heap.size, 3, none⟩ (.slice A1 x.elems.length c1)).setCell ⟨w.heap.size + 1, 0, none⟩ (.int .i64 x.kind)).setCell ⟨w.heap.size + 1, 1, none⟩ (.int .i64 x.num)).setCell ⟨w.heap.size + 1, 2, none⟩ (.string x.str)).setCell ⟨w.heap.size + 1, 3, none⟩ (.slice A1 x.elems.length c1)).heap[w.heap.size + 1]? = some (.cells #[.int .i64 x.kind, .int .i64 x.num, .string x.str, .slice A1 x.elems.length c1] 50 (0, 0)) := by
    have := HB2.out
    simp [World.setCell, Array.getElem?_modify, this]
  refine bodyPost_ret (results_cell_row rfl _ _ (w.heap.size + 1) _ _ (0, 0) _ rfl hrow rfl rfl rfl) rfl ?_
  refine ⟨A1, _, c1, rfl, ?_, ?_⟩
  · have h : Rd w1 (fun b => w.heap.size + 2 ≤ b) (.slice A1 x.elems.length c1) (vlsTr x.elems) := HR1.out.mono fun b hb _ => by simpa using hb
    exact (((((h.setCell (p := ⟨w.heap.size, 3, none⟩) (by simp) _).setCell (p := ⟨w.heap.size + 1, 0, none⟩) (by simp) _).setCell (p := ⟨w.heap.size + 1, 1, none⟩) (by simp) _).setCell (p := ⟨w.heap.size + 1, 2, none⟩) (by simp) _).setCell (p := ⟨w.heap.size + 1, 3, none⟩) (by simp) _).mono fun b hb _ => by omega
  · have hk : Kp w w1 fun _ => False := Kp.of_below (below_call (bel_alloc (bel_alloc (Below.refl _ _) _) _) HBL.out) _
    exact (((((hk.setCell (p := ⟨w.heap.size, 3, none⟩) (.inr (Nat.le_refl _)) _).setCell (p := ⟨w.heap.size + 1, 0, none⟩) (.inr (by simp)) _).setCell (p := ⟨w.heap.size + 1, 1, none⟩) (.inr (by simp)) _).setCell (p := ⟨w.heap.size + 1, 2, none⟩) (.inr (by simp)) _).setCell (p := ⟨w.heap.size + 1, 3, none⟩) (.inr (by simp)) _).below
set_option maxRecDepth 100000 in
set_option maxHeartbeats 4000000 in
theorem ownVls_any : ∀ (m : Nat) (l : List Vl), SizeOf.sizeOf l ≤ m → vlsC l ≤ 1000000 → CopiesVl l := by
  intro m
  induction m with
  | zero => intro l hl; exfalso; cases l <;> simp at hl
  | succ m ih =>
    intro l hsz hcn w ok A n c hr
    obtain ⟨i0, hi, hz0, hz1, hz2⟩ := info_parts vls_info
    obtain ⟨rfl, hl2, hl3⟩ := vls_len hr
    simp only [maxLen] at hl3
    have hll := vlsC_len l
    have hl6 : (l.length : Int) ≤ 1000000 := by omega
    have HR := Lib.hid hr
    have IH := Lib.hid ih
    have HSZ := Lib.hid hsz
    have HCN := Lib.hid hcn
    clear ih hr hsz hll hcn
    go_enter Try.func55, Try.ntmps55
    go_wp2_with fail
    go_loopg [3, 8] l.length (fun q sv iv wr => ∃ (i : Nat) (A' : Option Addr) (C : Nat), sv = .slice A' i C ∧ iv = .int .i64 (i : Int) ∧ Hid (i ≤ l.length ∧ q = l.length - i ∧ OwnD wr w.heap.size 50 4 (.slice A' i C) i (vlsT (l.take i)) ∧ Below w.heap.size w wr))
    case atStart => exact ⟨0, none, 0, rfl, rfl, Nat.zero_le _, rfl, OwnD.nil _ _ _ _, Below.refl _ _⟩
    case round =>
      obtain ⟨i, A1, C1, rfl, rfl, HH⟩ := hrel
      obtain ⟨q1, q2, q3, q4⟩ := HH.out
      have HQ := Lib.hid q2
      have HO := Lib.hid q3
      have HBR := Lib.hid q4
      clear HH q2 q3 q4
      by_cases hlt : i < l.length
      · obtain ⟨x, hxe⟩ : ∃ x, x = l[i] := ⟨_, rfl⟩
        have hx : l[i]? = some x := by rw [hxe]; exact List.getElem?_eq_getElem hlt
        obtain ⟨b, o, KA, KN, KC, rfl, hbl, p0, p1, p2, p3, p4⟩ := vls_at (HR.out.bl HBR.out) hx
        have HX : Hid (CopiesVl x.elems) := Lib.hid (IH.out x.elems (by have := vls_sz hx; have := x.sz; have := HSZ.out; omega) (by have := vlsC_at hx; have := x.cnt_eq; have := HCN.out; omega))
        have htk : l.take (i + 1) = l.take i ++ [x] := by rw [List.take_add_one, hx]; rfl
        have HTK := Lib.hid htk
        have P4 := Lib.hid p4
        clear hx hxe htk p4
        have hlt' : (i : Int) < (l.length : Int) := by omega
        have hi0 : (0 : Int) ≤ (i : Int) := by omega
        go_wp2_with (first
          | (go_at_call 64; (with_reducible refine (ownVl_of x HX.out _ ok KA KN KC (P4.out.alloc _)).mono ?_); rintro e w3 ⟨A2, n2, c2, rfl, h1, h2⟩; have HR2 := Lib.hid h1; have HB2 := Lib.hid (below_call (bel_alloc (Below.refl _ _) _) h2); clear h1 h2)
          | (at_builtin; refine wpList_append_d _ rfl (.tmp 12) (.tmp 15) 41 rfl w.heap.size 50 i0 _ 4 56 Try.underlying41 hi hz0 hz1 hz2 rfl (by omega) (.slice A1 i C1) i (vlsT (l.take i)) rfl ((HO.out.bl HB2.out).alloc _) _ [.int .i64 x.kind, .int .i64 x.num, .string x.str, .slice A2 n2 c2] x.tr rfl (blk_of _ _ rfl) (by have := HBR.out.size; have := HB2.out.size; omega) (fun e => by have := (HO.out.lt _ e).2; have := HB2.out.size; omega) rfl (fun b => wr.heap.size < b) ((vls_rdl (HR2.out.mono (fun b hb _ => by simp at hb; omega))).step (fun b hb hlt => ⟨hb, Below.heap_alloc _ _ b hlt⟩)) (fun b hb _ => ⟨by have := HBR.out.size; omega, fun e => by have := (HO.out.lt _ e).2; omega⟩) x.tr_one (by simp only [maxLen]; omega) (by omega) (by have := HBR.out.size; have := HB2.out.size; simp; omega) ?_; intro A4 c4 w9 hown9 hgrow9 hat9))
        go_roundg (l.length - (i + 1))
        case measure => have := HQ.out; omega
        case rel =>
          refine ⟨i + 1, A4, c4, rfl, by simp, by omega, rfl, by rw [HTK.out, vlsT_append, vlsT_one]; exact hown9, bel_grown (bel_alloc (below_call HBR.out HB2.out) _) hgrow9 (fun j hj => (HO.out.lt j hj).1)⟩
      · obtain rfl : i = l.length := by omega
        have hd : decide ((l.length : Int) < (l.length : Int)) = false := by simp
        go_wp2_with fail
        go_ret
        have h := HO.out.rd
        rw [List.take_length] at h
        exact ⟨A1, C1, rfl, h, HBR.out⟩
theorem ownVls_all (l : List Vl) (h : vlsC l ≤ 1000000) : CopiesVl l := ownVls_any _ l (Nat.le_refl _) h
end Go.Proofs.Ytadpfhoenjodeaa
