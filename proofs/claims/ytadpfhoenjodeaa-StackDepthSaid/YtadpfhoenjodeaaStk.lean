/- callstack: frames with their slots; New, valid, Push, Frames; own.Frame. -/
import Derived.Test.YtadpfhoenjodeaaVl
import Derived.Deep.DeepCutAuto
set_option linter.unusedVariables false
set_option linter.unusedSimpArgs false
namespace Go.Proofs.Ytadpfhoenjodeaa
open Go.RowKit

/-- A frame with its slots. -/
structure DF where
  code : Int
  meth : Int
  world : Int
  pc : Int
  slots : List Vl
def DF.tr (f : DF) : List Tr := [.sc (.int .i64 f.code), .sc (.int .i64 f.meth), .sc (.int .i64 f.world), .sc (.int .i64 f.pc), vlsTr f.slots]
def dfsE (l : List DF) : List Tr := l.flatMap DF.tr
def dfsTr (l : List DF) : Tr := .sl 43 5 (dfsE l)
theorem dfsE_length (l : List DF) : (dfsE l).length = l.length * 5 := length_flatMap_row _ 5 (fun _ => rfl) l
theorem dfsE_append (l m : List DF) : dfsE (l ++ m) = dfsE l ++ dfsE m := by simp [dfsE]
theorem dfsE_one (f : DF) : dfsE [f] = f.tr := by simp [dfsE]
theorem DF.tr_one (f : DF) : ∀ e ∈ f.tr, e.one := by
  intro e he
  simp only [DF.tr, List.mem_cons, List.not_mem_nil, or_false] at he
  rcases he with rfl | rfl | rfl | rfl | rfl <;> first | rfl | trivial
theorem dfs_len {w : World} {ok : Nat → Prop} {A : Option Addr} {n c : Nat} {l : List DF} (h : Rd w ok (.slice A n c) (dfsTr l)) : n = l.length ∧ n ≤ c ∧ c ≤ maxLen := by
  have := h.len
  rw [dfsE_length] at this
  exact ⟨by omega, this.2⟩
theorem dfs_at {w : World} {ok : Nat → Prop} {A : Option Addr} {n c i : Nat} {l : List DF} {f : DF} (h : Rd w ok (.slice A n c) (dfsTr l)) (hx : l[i]? = some f) :
    ∃ b o A' n' c', A = some ⟨b, o, none⟩ ∧ ok b ∧ w.cell? ⟨b, o + i * 5, none⟩ = some (.int .i64 f.code) ∧ w.cell? ⟨b, o + i * 5 + 1, none⟩ = some (.int .i64 f.meth) ∧ w.cell? ⟨b, o + i * 5 + 2, none⟩ = some (.int .i64 f.world) ∧ w.cell? ⟨b, o + i * 5 + 3, none⟩ = some (.int .i64 f.pc) ∧ w.cell? ⟨b, o + i * 5 + 4, none⟩ = some (.slice A' n' c') ∧ Rd w ok (.slice A' n' c') (vlsTr f.slots) := by
  have hi := (List.getElem?_eq_some_iff.1 hx).1
  have hn := (dfs_len h).1
  obtain ⟨b, o, rfl, hok, hbl, hc⟩ := h.at_ (by omega)
  have e := fun (k : Nat) (hk : k < 5) => getElem?_flatMap_row DF.tr 5 (fun _ => rfl) l i k f hx hk
  have gg := fun (k : Nat) (hk : k < 5) => hc (i * 5 + k) (by omega)
  obtain ⟨u0, e0, q0, c0, r0⟩ := gg 0 (by omega)
  obtain ⟨u1, e1, q1, c1, r1⟩ := gg 1 (by omega)
  obtain ⟨u2, e2, q2, c2, r2⟩ := gg 2 (by omega)
  obtain ⟨u3, e3, q3, c3, r3⟩ := gg 3 (by omega)
  obtain ⟨u4, e4, q4, c4, r4⟩ := gg 4 (by omega)
  have x0 := q0.symm.trans (e 0 (by omega)); have x1 := q1.symm.trans (e 1 (by omega)); have x2 := q2.symm.trans (e 2 (by omega)); have x3 := q3.symm.trans (e 3 (by omega)); have x4 := q4.symm.trans (e 4 (by omega))
  simp [DF.tr] at x0 x1 x2 x3 x4
  subst x0 x1 x2 x3 x4
  have s0 := r0.sc_inv; have s1 := r1.sc_inv; have s2 := r2.sc_inv; have s3 := r3.sc_inv
  subst s0 s1 s2 s3
  obtain ⟨A', n', c', rfl, -⟩ := r4.sl_inv
  exact ⟨b, o, A', n', c', rfl, hok, by simpa using c0, by simpa [Nat.add_assoc] using c1, by simpa [Nat.add_assoc] using c2, by simpa [Nat.add_assoc] using c3, by simpa [Nat.add_assoc] using c4, r4⟩
theorem df_rdl {w : World} {ok : Nat → Prop} {A : Option Addr} {n c : Nat} {f : DF} (h : Rd w ok (.slice A n c) (vlsTr f.slots)) : RdL w ok [.int .i64 f.code, .int .i64 f.meth, .int .i64 f.world, .int .i64 f.pc, .slice A n c] f.tr :=
  .cons (.sc _) (.cons (.sc _) (.cons (.sc _) (.cons (.sc _) (.cons h .nil))))
theorem dframe_info : (Try.prog.info? 43).map (fun i => (i.zero, i.size, i.bytes)) = some (some (.agg #[.int .i64 0, .int .i64 0, .int .i64 0, .int .i64 0, .slice none 0 0]), 5, 56) := by kernel_rfl

/-- May this frame be on a stack? -/
def DF.ok (f : DF) : Bool := decide (0 ≤ f.code) && decide (0 ≤ f.meth) && decide (0 ≤ f.pc) && decide (1 ≤ f.world) && decide (f.slots.length ≤ 200)
set_option maxRecDepth 100000 in
set_option maxHeartbeats 2000000 in
theorem validF_any (f : DF) (w : World) (A : Option Addr) (c : Nat) : Calls Try.prog 45 #[.agg #[.int .i64 f.code, .int .i64 f.meth, .int .i64 f.world, .int .i64 f.pc, .slice A f.slots.length c]] w fun e w' => e = .returned (.bool f.ok) ∧ Below w.heap.size w w' := by
  have HB := Lib.hid (fun o => bel_alloc (Below.refl w.heap.size w) o)
  unfold DF.ok
  by_cases h1 : 0 ≤ f.code
  · have e1 : decide (0 ≤ f.code) = true := by simpa using h1
    rw [e1]
    by_cases h2 : 0 ≤ f.meth
    · have e2 : decide (0 ≤ f.meth) = true := by simpa using h2
      rw [e2]
      by_cases h3 : 0 ≤ f.pc
      · have e3 : decide (0 ≤ f.pc) = true := by simpa using h3
        rw [e3]
        by_cases h4 : 1 ≤ f.world
        · have e4 : decide (1 ≤ f.world) = true := by simpa using h4
          rw [e4]
          obtain ⟨B, hB⟩ : ∃ B, B = decide (f.slots.length ≤ 200) := ⟨_, rfl⟩
          have hBI : decide ((f.slots.length : Int) ≤ 200) = B := by rw [hB]; apply Bool.eq_iff_iff.2; simp; omega
          rw [← hB]
          clear hB
          go_enter Try.func45, Try.ntmps45
          go_wp2_with fail
          go_ret
          exact ⟨by simp [hBI], HB.out _⟩
        · have e4 : decide (1 ≤ f.world) = false := by simpa using h4
          rw [e4]
          go_enter Try.func45, Try.ntmps45
          go_wp2_with fail
          go_ret
          exact ⟨rfl, HB.out _⟩
      · have e3 : decide (0 ≤ f.pc) = false := by simpa using h3
        rw [e3]
        go_enter Try.func45, Try.ntmps45
        go_wp2_with fail
        go_ret
        exact ⟨rfl, HB.out _⟩
    · have e2 : decide (0 ≤ f.meth) = false := by simpa using h2
      rw [e2]
      go_enter Try.func45, Try.ntmps45
      go_wp2_with fail
      go_ret
      exact ⟨rfl, HB.out _⟩
  · have e1 : decide (0 ≤ f.code) = false := by simpa using h1
    rw [e1]
    go_enter Try.func45, Try.ntmps45
    go_wp2_with fail
    go_ret
    exact ⟨rfl, HB.out _⟩

set_option maxRecDepth 100000 in
set_option maxHeartbeats 4000000 in
theorem ownFrame_any (f : DF) (hf : vlsC f.slots ≤ 1000000) (w : World) (ok : Nat → Prop) (A : Option Addr) (n c : Nat) (hr : Rd w ok (.slice A n c) (vlsTr f.slots)) :
    Calls Try.prog 46 #[.agg #[.int .i64 f.code, .int .i64 f.meth, .int .i64 f.world, .int .i64 f.pc, .slice A n c]] w fun e w' => ∃ A' c', e = .returned (.agg #[.int .i64 f.code, .int .i64 f.meth, .int .i64 f.world, .int .i64 f.pc, .slice A' f.slots.length c']) ∧ Rd w' (fun b => w.heap.size ≤ b) (.slice A' f.slots.length c') (vlsTr f.slots) ∧ Below w.heap.size w w' := by
  have HR := Lib.hid hr
  have HH := Lib.hid (ownVls_all f.slots hf)
  clear hr hf
  go_enter Try.func46, Try.ntmps46
  go_wp2_with (go_at_call 55; (with_reducible refine (HH.out _ ok A n c ((HR.out.alloc _).alloc _)).mono ?_); rintro e w1 ⟨A1, c1, rfl, h1, h2⟩; have hb1 : w1.heap[w.heap.size]? = some (.cells #[.int .i64 f.code, .int .i64 f.meth, .int .i64 f.world, .int .i64 f.pc, .slice A n c] 43 (0, 0)) := (h2.block _ (by simp; omega)).trans (blk_new1 w _ _); have hb2 : w1.heap[w.heap.size + 1]? = some (.cells #[.int .i64 0, .int .i64 0, .int .i64 0, .int .i64 0, .slice none 0 0] 43 (0, 0)) := (h2.block _ (by simp)).trans (blk_new2 w _ _); have s0 : w1.cell? ⟨w.heap.size, 0, none⟩ = some (.int .i64 f.code) := (cell_of_row _ _ 0 _ _ _ hb1).trans rfl; have s1 : w1.cell? ⟨w.heap.size, 1, none⟩ = some (.int .i64 f.meth) := (cell_of_row _ _ 1 _ _ _ hb1).trans rfl; have s2 : w1.cell? ⟨w.heap.size, 2, none⟩ = some (.int .i64 f.world) := (cell_of_row _ _ 2 _ _ _ hb1).trans rfl; have s3 : w1.cell? ⟨w.heap.size, 3, none⟩ = some (.int .i64 f.pc) := (cell_of_row _ _ 3 _ _ _ hb1).trans rfl; have s4 : w1.cell? ⟨w.heap.size, 4, none⟩ = some (.slice A n c) := (cell_of_row _ _ 4 _ _ _ hb1).trans rfl; have v0 : w1.cell? ⟨w.heap.size + 1, 0, none⟩ = some (.int .i64 0) := (cell_of_row _ _ 0 _ _ _ hb2).trans rfl; have v1 : w1.cell? ⟨w.heap.size + 1, 1, none⟩ = some (.int .i64 0) := (cell_of_row _ _ 1 _ _ _ hb2).trans rfl; have v2 : w1.cell? ⟨w.heap.size + 1, 2, none⟩ = some (.int .i64 0) := (cell_of_row _ _ 2 _ _ _ hb2).trans rfl; have v3 : w1.cell? ⟨w.heap.size + 1, 3, none⟩ = some (.int .i64 0) := (cell_of_row _ _ 3 _ _ _ hb2).trans rfl; have v4 : w1.cell? ⟨w.heap.size + 1, 4, none⟩ = some (.slice none 0 0) := (cell_of_row _ _ 4 _ _ _ hb2).trans rfl; have f4 : w1.frozen? ⟨w.heap.size, 4, none⟩ = false := tp_frozen hb1 4; have g0 := tp_frozen hb2 0; have g1 := tp_frozen hb2 1; have g2 := tp_frozen hb2 2; have g3 := tp_frozen hb2 3; have g4 := tp_frozen hb2 4; have HB2 := Lib.hid hb2; have HR1 := Lib.hid h1; have HBL := Lib.hid h2; clear hb1 hb2 h1 h2)
  have hrow : ((((((w1.setCell ⟨w.heap.size, 4, none⟩ (.slice A1 f.slots.length c1)).setCell ⟨w.heap.size + 1, 0, none⟩ (.int .i64 f.code)).setCell ⟨w.heap.size + 1, 1, none⟩ (.int .i64 f.meth)).setCell ⟨w.heap.size + 1, 2, none⟩ (.int .i64 f.world)).setCell ⟨w.heap.size + 1, 3, none⟩ (.int .i64 f.pc)).setCell ⟨w.heap.size + 1, 4, none⟩ (.slice A1 f.slots.length c1)).heap[w.heap.size + 1]? = some (.cells #[.int .i64 f.code, .int .i64 f.meth, .int .i64 f.world, .int .i64 f.pc, .slice A1 f.slots.length c1] 43 (0, 0)) := by
    have := HB2.out
    simp [World.setCell, Array.getElem?_modify, this]
  refine bodyPost_ret (results_cell_row rfl _ _ (w.heap.size + 1) _ _ (0, 0) _ rfl hrow rfl rfl rfl) rfl ?_
  refine ⟨A1, c1, rfl, ?_, ?_⟩
  · have h : Rd w1 (fun b => w.heap.size + 2 ≤ b) (.slice A1 f.slots.length c1) (vlsTr f.slots) := HR1.out.mono fun b hb _ => by simpa using hb
    exact ((((((h.setCell (p := ⟨w.heap.size, 4, none⟩) (by simp) _).setCell (p := ⟨w.heap.size + 1, 0, none⟩) (by simp) _).setCell (p := ⟨w.heap.size + 1, 1, none⟩) (by simp) _).setCell (p := ⟨w.heap.size + 1, 2, none⟩) (by simp) _).setCell (p := ⟨w.heap.size + 1, 3, none⟩) (by simp) _).setCell (p := ⟨w.heap.size + 1, 4, none⟩) (by simp) _).mono fun b hb _ => by omega
  · have hk : Kp w w1 fun _ => False := Kp.of_below (below_call (bel_alloc (bel_alloc (Below.refl _ _) _) _) HBL.out) _
    exact ((((((hk.setCell (p := ⟨w.heap.size, 4, none⟩) (.inr (Nat.le_refl _)) _).setCell (p := ⟨w.heap.size + 1, 0, none⟩) (.inr (by simp)) _).setCell (p := ⟨w.heap.size + 1, 1, none⟩) (.inr (by simp)) _).setCell (p := ⟨w.heap.size + 1, 2, none⟩) (.inr (by simp)) _).setCell (p := ⟨w.heap.size + 1, 3, none⟩) (.inr (by simp)) _).setCell (p := ⟨w.heap.size + 1, 4, none⟩) (.inr (by simp)) _).below
end Go.Proofs.Ytadpfhoenjodeaa
