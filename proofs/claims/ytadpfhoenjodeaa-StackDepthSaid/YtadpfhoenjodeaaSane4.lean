/- The sanity check of chapter 34. -/
import Derived.Test.YtadpfhoenjodeaaStk4
import Derived.Deep.RegionHeldLaw
import Derived.Test.YtadpfhoenjodeaaStk5
import Derived.Test.YtadpfhoenjodeaaRoots2
import Derived.Test.YtadpfhoenjodeaaVeq
import Derived.Test.YtadpfhoenjodeaaSane
set_option linter.unusedVariables false
set_option linter.unusedSimpArgs false
namespace Go.Proofs.Ytadpfhoenjodeaa
open Go.RowKit Go.Maps
theorem rdl_rows {w : World} {ok : Nat → Prop} {g t t' sz n : Nat} (us : List Value) (es : List Tr) (hl : us.length = n * sz) (hn : n ≤ maxLen) (hg : ok g) (hb : w.heap[g]? = some (.cells us.toArray t' (0, 0))) (hr : RdL w ok us es) : Rd w ok (.slice (some ⟨g, 0, none⟩) n n) (.sl t sz es) := by
  refine .row g 0 n n _ sz _ _ us _ hg hb (Nat.le_refl _) hn (by rw [← hr.1, hl]) hl (fun j hj => by simp) hr.2
theorem leaf_rdl {w : World} {ok : Nat → Prop} (x : Int) {us : List Value} {es : List Tr} (h : RdL w ok us es) : RdL w ok (.int .i64 5 :: .int .i64 x :: .string ⟨#[]⟩ :: .slice none 0 0 :: us) ((objV x).tr ++ es) := by
  rw [Vl.tr_eq]
  exact .cons (.sc _) (.cons (.sc _) (.cons (.sc _) (.cons (.nil _ _) h)))
def f34 : DF := ⟨4, 1, 3, 0, [.mk 4 0 ⟨#[]⟩ ([7, 2, 7].map objV)]⟩
theorem leaves_rd {w : World} {ok : Nat → Prop} {g t : Nat} (hg : ok g) (hb : w.heap[g]? = some (.cells #[.int .i64 5, .int .i64 2, .string ⟨#[]⟩, .slice none 0 0, .int .i64 5, .int .i64 7, .string ⟨#[]⟩, .slice none 0 0] t (0, 0))) :
    Rd w ok (.slice (some ⟨g, 0, none⟩) 2 2) (vlsTr ([2, 7].map objV)) :=
  rdl_rows [.int .i64 5, .int .i64 2, .string ⟨#[]⟩, .slice none 0 0, .int .i64 5, .int .i64 7, .string ⟨#[]⟩, .slice none 0 0] (vlsT ([2, 7].map objV)) rfl (by simp [maxLen]) hg hb
    (by have h := leaf_rdl (w := w) (ok := ok) 2 (leaf_rdl (w := w) (ok := ok) 7 RdL.nil); simpa [vlsT] using h)
theorem slots_rd {w : World} {ok : Nat → Prop} {g : Nat} (hg : ok g) (hg1 : ok (g + 1)) (hb : w.heap[g]? = some (.cells #[.int .i64 5, .int .i64 7, .string ⟨#[]⟩, .slice none 0 0, .int .i64 5, .int .i64 2, .string ⟨#[]⟩, .slice none 0 0, .int .i64 5, .int .i64 7, .string ⟨#[]⟩, .slice none 0 0] 50 (0, 0)))
    (hb1 : w.heap[g + 1]? = some (.cells #[.int .i64 4, .int .i64 0, .string ⟨#[]⟩, .slice (some ⟨g, 0, none⟩) 3 3] 50 (0, 0))) :
    Rd w ok (.slice (some ⟨g + 1, 0, none⟩) 1 1) (vlsTr f34.slots) := by
  have h3 : Rd w ok (.slice (some ⟨g, 0, none⟩) 3 3) (vlsTr ([7, 2, 7].map objV)) :=
    rdl_rows [.int .i64 5, .int .i64 7, .string ⟨#[]⟩, .slice none 0 0, .int .i64 5, .int .i64 2, .string ⟨#[]⟩, .slice none 0 0, .int .i64 5, .int .i64 7, .string ⟨#[]⟩, .slice none 0 0] (vlsT ([7, 2, 7].map objV)) rfl (by simp [maxLen]) hg hb
      (by have h := leaf_rdl (w := w) (ok := ok) 7 (leaf_rdl (w := w) (ok := ok) 2 (leaf_rdl (w := w) (ok := ok) 7 RdL.nil)); simpa [vlsT] using h)
  refine rdl_rows [.int .i64 4, .int .i64 0, .string ⟨#[]⟩, .slice (some ⟨g, 0, none⟩) 3 3] (vlsT f34.slots) rfl (by simp [maxLen]) hg1 hb1 ?_
  have h := vls_rdl (x := .mk 4 0 ⟨#[]⟩ ([7, 2, 7].map objV)) h3
  rw [f34, vlsT_one]
  exact h
theorem roots34 : Lists (RootP [f34]) [2, 7] := by
  refine ⟨by simp [Up], fun x => ?_⟩
  simp [RootP, f34, vlsO, Vl.objs, objV]
  omega
theorem worlds34 : Lists (fun x => ∃ f ∈ [f34], f.world = x) [3] := ⟨by simp [Up], fun x => by simp [f34]; omega⟩
theorem codes34 : Lists (fun x => ∃ f ∈ [f34], 0 < f.code ∧ f.code = x) [4] := ⟨by simp [Up], fun x => by simp [f34]; omega⟩
theorem flat34 : ∀ f ∈ [f34], vlsF (DF.slots f) := by intro f hf; simp at hf; subst hf; simp [f34, vlsF, Vl.fit, objV]; decide
theorem cnt34 : vlsC f34.slots = 4 := by simp [f34, vlsC, Vl.cnt, objV]
theorem cnts34 : ∀ f ∈ [f34], vlsC (DF.slots f) ≤ 1000000 := by intro f hf; simp at hf; subst hf; rw [cnt34]; decide
theorem dfsc34 : dfsC [f34] ≤ 1000000 := by simp [dfsC, cnt34]
theorem pushed34 : pushed [] f34 = [f34] ∧ pushCode [] f34 = 0 := by simp [pushed, pushCode, f34, DF.ok]
theorem pushc34 : pushCode [f34] ⟨0, 0, 0, 0, []⟩ = 1 := by simp [pushCode, DF.ok]
def W34 (w : World) : World := ((((w.alloc (.cells #[.slice none 0 0] 90 (0, 0))).alloc (.cells #[.int .i64 5, .int .i64 7, .string ⟨#[]⟩, .slice none 0 0] 50 (0, 0))).alloc (.cells #[.int .i64 5, .int .i64 2, .string ⟨#[]⟩, .slice none 0 0] 50 (0, 0))).alloc
    (.cells #[.int .i64 5, .int .i64 7, .string ⟨#[]⟩, .slice none 0 0, .int .i64 5, .int .i64 2, .string ⟨#[]⟩, .slice none 0 0, .int .i64 5, .int .i64 7, .string ⟨#[]⟩, .slice none 0 0] 50 (0, 0))).alloc (.cells #[.int .i64 4, .int .i64 0, .string ⟨#[]⟩, .slice (some ⟨w.heap.size + 3, 0, none⟩) 3 3] 50 (0, 0))
theorem made34 (w : World) : SK (W34 w) w.heap.size [] ∧ Rd (W34 w) (fun _ => True) (.slice (some ⟨w.heap.size + 4, 0, none⟩) 1 1) (vlsTr f34.slots) ∧ Below w.heap.size w (W34 w) ∧ ¬ skS (W34 w) w.heap.size (w.heap.size + 1) ∧ ¬ skS (W34 w) w.heap.size (w.heap.size + 2) ∧ w.heap.size + 2 < (W34 w).heap.size ∧
    (W34 w).heap[w.heap.size + 1]? = some (.cells #[.int .i64 5, .int .i64 7, .string ⟨#[]⟩, .slice none 0 0] 50 (0, 0)) ∧ (W34 w).heap[w.heap.size + 2]? = some (.cells #[.int .i64 5, .int .i64 2, .string ⟨#[]⟩, .slice none 0 0] 50 (0, 0)) := by
  have h0 : (W34 w).heap[w.heap.size]? = some (.cells #[.slice none 0 0] 90 (0, 0)) := blk_old (blk_old (blk_old (blk_old (blk_at _ _ rfl))))
  have hn : ∀ k, k ≠ w.heap.size → ¬ skS (W34 w) w.heap.size k := by
    rintro k hk (h | ⟨v, t, fr, h1, h2⟩)
    · exact hk h
    · rw [h0] at h1
      injection h1 with h1
      injection h1 with h1
      have : v = .slice none 0 0 := by simpa using h1.symm
      subst this
      simp [Value.ownBlock] at h2
  refine ⟨⟨none, 0, h0, OwnD.nil _ _ _ _⟩, slots_rd trivial trivial (blk_old (blk_at _ _ (by simp))) (blk_at _ _ (by simp)), bel_alloc (bel_alloc (bel_alloc (bel_alloc (bel_alloc (Below.refl _ _) _) _) _) _) _, hn _ (by omega), hn _ (by omega), by simp [W34], blk_old (blk_old (blk_old (blk_at _ _ (by simp)))), blk_old (blk_old (blk_at _ _ (by simp)))⟩
section
variable {w0 w w' : World} {B G1 G2 g : Nat}
theorem heldSK (h : (w.cell? ⟨B, 0, none⟩ = some (.int .i64 4) ∧ (w.cell? ⟨G1, 0, none⟩ = some (.int .i64 5) ∧ w.cell? ⟨G1, 1, none⟩ = some (.int .i64 7) ∧ w.cell? ⟨G1, 2, none⟩ = some (.string ⟨#[]⟩) ∧ w.cell? ⟨G1, 3, none⟩ = some (.slice none 0 0)) ∧ (w.cell? ⟨G2, 0, none⟩ = some (.int .i64 5) ∧ w.cell? ⟨G2, 1, none⟩ = some (.int .i64 2) ∧ w.cell? ⟨G2, 2, none⟩ = some (.string ⟨#[]⟩) ∧ w.cell? ⟨G2, 3, none⟩ = some (.slice none 0 0)) ∧ Hid (Below w0.heap.size w0 w ∧ SK w g [f34]))) : SK w g [f34] := h.2.2.2.out.2
theorem heldB (h : (w.cell? ⟨B, 0, none⟩ = some (.int .i64 4) ∧ (w.cell? ⟨G1, 0, none⟩ = some (.int .i64 5) ∧ w.cell? ⟨G1, 1, none⟩ = some (.int .i64 7) ∧ w.cell? ⟨G1, 2, none⟩ = some (.string ⟨#[]⟩) ∧ w.cell? ⟨G1, 3, none⟩ = some (.slice none 0 0)) ∧ (w.cell? ⟨G2, 0, none⟩ = some (.int .i64 5) ∧ w.cell? ⟨G2, 1, none⟩ = some (.int .i64 2) ∧ w.cell? ⟨G2, 2, none⟩ = some (.string ⟨#[]⟩) ∧ w.cell? ⟨G2, 3, none⟩ = some (.slice none 0 0)) ∧ Hid (Below w0.heap.size w0 w ∧ SK w g [f34]))) : Below w0.heap.size w0 w := h.2.2.2.out.1
theorem heldC (h : (w.cell? ⟨B, 0, none⟩ = some (.int .i64 4) ∧ (w.cell? ⟨G1, 0, none⟩ = some (.int .i64 5) ∧ w.cell? ⟨G1, 1, none⟩ = some (.int .i64 7) ∧ w.cell? ⟨G1, 2, none⟩ = some (.string ⟨#[]⟩) ∧ w.cell? ⟨G1, 3, none⟩ = some (.slice none 0 0)) ∧ (w.cell? ⟨G2, 0, none⟩ = some (.int .i64 5) ∧ w.cell? ⟨G2, 1, none⟩ = some (.int .i64 2) ∧ w.cell? ⟨G2, 2, none⟩ = some (.string ⟨#[]⟩) ∧ w.cell? ⟨G2, 3, none⟩ = some (.slice none 0 0)) ∧ Hid (Below w0.heap.size w0 w ∧ SK w g [f34]))) (k : Below w.heap.size w w') : (w'.cell? ⟨B, 0, none⟩ = some (.int .i64 4) ∧ (w'.cell? ⟨G1, 0, none⟩ = some (.int .i64 5) ∧ w'.cell? ⟨G1, 1, none⟩ = some (.int .i64 7) ∧ w'.cell? ⟨G1, 2, none⟩ = some (.string ⟨#[]⟩) ∧ w'.cell? ⟨G1, 3, none⟩ = some (.slice none 0 0)) ∧ (w'.cell? ⟨G2, 0, none⟩ = some (.int .i64 5) ∧ w'.cell? ⟨G2, 1, none⟩ = some (.int .i64 2) ∧ w'.cell? ⟨G2, 2, none⟩ = some (.string ⟨#[]⟩) ∧ w'.cell? ⟨G2, 3, none⟩ = some (.slice none 0 0)) ∧ Hid (Below w0.heap.size w0 w' ∧ SK w' g [f34])) := by
  obtain ⟨a, ⟨b1, b2, b3, b4⟩, ⟨c1, c2, c3, c4⟩, d⟩ := h
  have kc : ∀ {a : Addr} {v : Value}, w.cell? a = some v → w'.cell? a = some v := fun h => (Kp.of_below k fun _ => False).cell h (fun h => h)
  exact ⟨kc a, ⟨kc b1, kc b2, kc b3, kc b4⟩, ⟨kc c1, kc c2, kc c3, kc c4⟩, Lib.hid ⟨below_call d.out.1 k, d.out.2.bl k⟩⟩
theorem heldA {o : Obj} (h : (w.cell? ⟨B, 0, none⟩ = some (.int .i64 4) ∧ (w.cell? ⟨G1, 0, none⟩ = some (.int .i64 5) ∧ w.cell? ⟨G1, 1, none⟩ = some (.int .i64 7) ∧ w.cell? ⟨G1, 2, none⟩ = some (.string ⟨#[]⟩) ∧ w.cell? ⟨G1, 3, none⟩ = some (.slice none 0 0)) ∧ (w.cell? ⟨G2, 0, none⟩ = some (.int .i64 5) ∧ w.cell? ⟨G2, 1, none⟩ = some (.int .i64 2) ∧ w.cell? ⟨G2, 2, none⟩ = some (.string ⟨#[]⟩) ∧ w.cell? ⟨G2, 3, none⟩ = some (.slice none 0 0)) ∧ Hid (Below w0.heap.size w0 w ∧ SK w g [f34]))) : ((w.alloc o).cell? ⟨B, 0, none⟩ = some (.int .i64 4) ∧ ((w.alloc o).cell? ⟨G1, 0, none⟩ = some (.int .i64 5) ∧ (w.alloc o).cell? ⟨G1, 1, none⟩ = some (.int .i64 7) ∧ (w.alloc o).cell? ⟨G1, 2, none⟩ = some (.string ⟨#[]⟩) ∧ (w.alloc o).cell? ⟨G1, 3, none⟩ = some (.slice none 0 0)) ∧ ((w.alloc o).cell? ⟨G2, 0, none⟩ = some (.int .i64 5) ∧ (w.alloc o).cell? ⟨G2, 1, none⟩ = some (.int .i64 2) ∧ (w.alloc o).cell? ⟨G2, 2, none⟩ = some (.string ⟨#[]⟩) ∧ (w.alloc o).cell? ⟨G2, 3, none⟩ = some (.slice none 0 0)) ∧ Hid (Below w0.heap.size w0 (w.alloc o) ∧ SK (w.alloc o) g [f34])) := heldC h (bel_alloc (Below.refl _ _) _)
theorem heldD (h : (w.cell? ⟨B, 0, none⟩ = some (.int .i64 4) ∧ (w.cell? ⟨G1, 0, none⟩ = some (.int .i64 5) ∧ w.cell? ⟨G1, 1, none⟩ = some (.int .i64 7) ∧ w.cell? ⟨G1, 2, none⟩ = some (.string ⟨#[]⟩) ∧ w.cell? ⟨G1, 3, none⟩ = some (.slice none 0 0)) ∧ (w.cell? ⟨G2, 0, none⟩ = some (.int .i64 5) ∧ w.cell? ⟨G2, 1, none⟩ = some (.int .i64 2) ∧ w.cell? ⟨G2, 2, none⟩ = some (.string ⟨#[]⟩) ∧ w.cell? ⟨G2, 3, none⟩ = some (.slice none 0 0)) ∧ Hid (Below w0.heap.size w0 w ∧ SK w g [f34]))) : (w.drew.cell? ⟨B, 0, none⟩ = some (.int .i64 4) ∧ (w.drew.cell? ⟨G1, 0, none⟩ = some (.int .i64 5) ∧ w.drew.cell? ⟨G1, 1, none⟩ = some (.int .i64 7) ∧ w.drew.cell? ⟨G1, 2, none⟩ = some (.string ⟨#[]⟩) ∧ w.drew.cell? ⟨G1, 3, none⟩ = some (.slice none 0 0)) ∧ (w.drew.cell? ⟨G2, 0, none⟩ = some (.int .i64 5) ∧ w.drew.cell? ⟨G2, 1, none⟩ = some (.int .i64 2) ∧ w.drew.cell? ⟨G2, 2, none⟩ = some (.string ⟨#[]⟩) ∧ w.drew.cell? ⟨G2, 3, none⟩ = some (.slice none 0 0)) ∧ Hid (Below w0.heap.size w0 w.drew ∧ SK w.drew g [f34])) := ⟨h.1, h.2.1, h.2.2.1, Lib.hid ⟨⟨h.2.2.2.out.1.os, h.2.2.2.out.1.tape, h.2.2.2.out.1.output, h.2.2.2.out.1.size, h.2.2.2.out.1.block⟩, h.2.2.2.out.2.bl ⟨rfl, rfl, rfl, Nat.le_refl _, fun _ _ => rfl⟩⟩⟩
theorem held0 {v1 v2 v3 v4 : Value} {t t1 t2 : TypeId} (h1 : Below w0.heap.size w0 w) (h2 : SK w g [f34]) (hB : w.heap[B]? = some (.cells #[.int .i64 4, v1, v2, v3, v4] t (0, 0))) (h7 : w.heap[G1]? = some (.cells #[.int .i64 5, .int .i64 7, .string ⟨#[]⟩, .slice none 0 0] t1 (0, 0))) (h8 : w.heap[G2]? = some (.cells #[.int .i64 5, .int .i64 2, .string ⟨#[]⟩, .slice none 0 0] t2 (0, 0))) : (w.cell? ⟨B, 0, none⟩ = some (.int .i64 4) ∧ (w.cell? ⟨G1, 0, none⟩ = some (.int .i64 5) ∧ w.cell? ⟨G1, 1, none⟩ = some (.int .i64 7) ∧ w.cell? ⟨G1, 2, none⟩ = some (.string ⟨#[]⟩) ∧ w.cell? ⟨G1, 3, none⟩ = some (.slice none 0 0)) ∧ (w.cell? ⟨G2, 0, none⟩ = some (.int .i64 5) ∧ w.cell? ⟨G2, 1, none⟩ = some (.int .i64 2) ∧ w.cell? ⟨G2, 2, none⟩ = some (.string ⟨#[]⟩) ∧ w.cell? ⟨G2, 3, none⟩ = some (.slice none 0 0)) ∧ Hid (Below w0.heap.size w0 w ∧ SK w g [f34])) :=
  ⟨(cell_of_row _ _ 0 _ _ _ hB).trans rfl, ⟨(cell_of_row _ _ 0 _ _ _ h7).trans rfl, (cell_of_row _ _ 1 _ _ _ h7).trans rfl, (cell_of_row _ _ 2 _ _ _ h7).trans rfl, (cell_of_row _ _ 3 _ _ _ h7).trans rfl⟩, ⟨(cell_of_row _ _ 0 _ _ _ h8).trans rfl, (cell_of_row _ _ 1 _ _ _ h8).trans rfl, (cell_of_row _ _ 2 _ _ _ h8).trans rfl, (cell_of_row _ _ 3 _ _ _ h8).trans rfl⟩, Lib.hid ⟨h1, h2⟩⟩
end
theorem leaf34 : ∀ x ∈ [2, 7].map objV, Vl.elems x = [] := by simp [objV, Vl.elems]
set_option maxRecDepth 100000 in
set_option maxHeartbeats 8000000 in
theorem pushBad_any (w : World) (g : Nat) (f : DF) (hok : f.ok = false) (A : Option Addr) (c : Nat) :
    Calls Try.prog 21 #[.pointer (some ⟨g, 0, none⟩), .agg #[.int .i64 f.code, .int .i64 f.meth, .int .i64 f.world, .int .i64 f.pc, .slice A f.slots.length c]] w fun e w' => e = .returned (.int .i64 1) ∧ Below w.heap.size w w' := by
  go_enter Try.func21, Try.ntmps21
  go_wp2_with (go_at_call 45; (with_reducible refine (validF_any f _ A c).mono ?_); rintro e w2 ⟨rfl, hb2⟩; rw [hok]; have HB2 := Lib.hid (below_call (bel_alloc (Below.refl _ _) _) hb2); clear hb2)
  go_ret
  exact ⟨rfl, HB2.out⟩
set_option maxRecDepth 100000 in
set_option maxHeartbeats 8000000 in
theorem sane34_any (w : World) : Calls Try.prog 25 #[] w fun e w' => e = .returned (.bool true) ∧ Below w.heap.size w w' := by
  obtain ⟨m1, m2, m3, m4, m5, m6, m7, m8⟩ := made34 w
  have hW : W34 w = W34 w := rfl
  conv at hW => rhs; unfold W34
  have HSK := Lib.hid m1
  have HR := Lib.hid m2
  have HB := Lib.hid m3
  have HO := Lib.hid (And.intro m7 m8)
  have HN := Lib.hid (And.intro m4 (And.intro m5 m6))
  have HW := Lib.hid hW
  clear m1 m2 m3 m4 m5 m6 m7 m8 hW
  generalize W34 w = W at *
  go_enter Try.func25, Try.ntmps25
  go_upto_region 6 with (first | (go_at_call 20; (with_reducible refine (newStk_any w).mono ?_); rintro e w1 ⟨rfl, rfl⟩) | (go_at_call 21; generalize hV : World.alloc (World.alloc (World.alloc (World.alloc (World.alloc w _) _) _) _) _ = V; obtain rfl : W = V := HW.out.trans hV; clear HW hV; (refine (push_any W w.heap.size [] HSK.out f34 (by rw [cnt34]; decide) (by decide) (fun _ => True) _ 1 HR.out).mono ?_); rintro e w2 ⟨rfl, h2, h3, h4⟩; rw [pushed34.1] at h2; rw [pushed34.2]; have HS2 := Lib.hid h2; have HK2 := Lib.hid (kp_below HB.out h3 (fun b hb => (SK.ge HSK.out hb).1)); have HO2 := Lib.hid (And.intro (h3.blk HO.out.1 HN.out.1) (h3.blk HO.out.2 HN.out.2.1)); clear h2 h3 h4))
  go_upto_region 7 with (go_at_call 49; (refine (topSnoc_any w2 w.heap.size [] f34 HS2.out (by decide) cnts34).mono ?_); rintro e w3 ⟨A3, c3, he, h1, h2⟩; have he' : e = .returned (.tuple #[.agg #[.int .i64 4, .int .i64 1, .int .i64 3, .int .i64 0, .slice A3 1 c3], .bool true]) := he; subst he'; have HS3 := Lib.hid (HS2.out.bl h2); have HK3 := Lib.hid (below_call HK2.out h2); have HO3 := Lib.hid (And.intro (below_blk h2 HO2.out.1) (below_blk h2 HO2.out.2)); clear h1 h2 he)
  have hB : (w3.alloc (.cells #[.int .i64 4, .int .i64 1, .int .i64 3, .int .i64 0, .slice A3 1 c3] 43 (0, 0))).heap[w3.heap.size]? = some (.cells #[.int .i64 4, .int .i64 1, .int .i64 3, .int .i64 0, .slice A3 1 c3] 43 (0, 0)) := heap_alloc_new w3 _
  have hS0 := held0 (w := w3.alloc (.cells #[.int .i64 4, .int .i64 1, .int .i64 3, .int .i64 0, .slice A3 1 c3] 43 (0, 0))) (bel_alloc HK3.out _) (HS3.out.bl (bel_alloc (Below.refl _ _) _)) hB (blk_old HO3.out.1) (blk_old HO3.out.2)
  generalize w3.alloc (.cells #[.int .i64 4, .int .i64 1, .int .i64 3, .int .i64 0, .slice A3 1 c3] 43 (0, 0)) = W4 at *
  have HW4 := Lib.hid hS0
  clear hB hS0 HS3 HK3 HO3
  generalize w3.heap.size = B at *
  go_region_held_law (fun w' => w'.cell? ⟨B, 0, none⟩ = some (.int .i64 4) ∧ (w'.cell? ⟨w.heap.size + 1, 0, none⟩ = some (.int .i64 5) ∧ w'.cell? ⟨w.heap.size + 1, 1, none⟩ = some (.int .i64 7) ∧ w'.cell? ⟨w.heap.size + 1, 2, none⟩ = some (.string ⟨#[]⟩) ∧ w'.cell? ⟨w.heap.size + 1, 3, none⟩ = some (.slice none 0 0)) ∧ (w'.cell? ⟨w.heap.size + 1 + 1, 0, none⟩ = some (.int .i64 5) ∧ w'.cell? ⟨w.heap.size + 1 + 1, 1, none⟩ = some (.int .i64 2) ∧ w'.cell? ⟨w.heap.size + 1 + 1, 2, none⟩ = some (.string ⟨#[]⟩) ∧ w'.cell? ⟨w.heap.size + 1 + 1, 3, none⟩ = some (.slice none 0 0)) ∧ Hid (Below w.heap.size w w' ∧ SK w' w.heap.size [f34]))
    (first | exact heldD HW4.out | exact heldA (by assumption) | exact heldC (by assumption) (Hid.out (by assumption)) | (assumption))
    (first
      | (go_at_call 31; (with_reducible refine (lenStk_any _ w.heap.size [f34] (heldSK (by assumption))).mono ?_); rintro e w5 ⟨he, rfl⟩; have he' : e = .returned (.int .i64 1) := he; subst he'; clear he)
      | (go_at_call 23; (with_reducible refine (roots_any _ w.heap.size [f34] (heldSK (by assumption)) (by decide) dfsc34 flat34).mono ?_); rintro e w5 ⟨A5, c5, Z5, rfl, h1, h2, h3, h4, h5⟩; obtain rfl := sorted_eq h1 h2 h3 roots34 (by decide); have HB5 := Lib.hid h5; have HR5 := Lib.hid (show Rd w5 _ (.slice A5 2 c5) (vlsTr ([2, 7].map objV)) from h4); clear h1 h2 h3 h4 h5)
      | (go_at_call 50; (with_reducible refine (eqLeaves_any ([2, 7].map objV) leaf34 _ (fun _ => True) (fun _ => True) A5 _ 2 2 c5 2 (by first | exact HR5.out.mono (fun _ _ _ => trivial) | exact (HR5.out.alloc _).mono (fun _ _ _ => trivial)) (leaves_rd trivial (by first | exact blk_at _ _ rfl | exact below_blk HB5.out (blk_at _ _ rfl)))).mono ?_); rintro e w6 ⟨rfl, h5⟩; have HB6 := Lib.hid h5; clear h5)
      | (go_at_call 28; (with_reducible refine (worldsStk_any _ w.heap.size [f34] (heldSK (by assumption)) (by decide) (by decide)).mono ?_); rintro e w7 ⟨A7, c7, Z7, rfl, h1, h2, h3, h4, h5⟩; obtain rfl := sorted_eq h1 h2 h3 worlds34 (by decide); have HB7 := Lib.hid h5; have HR7 := Lib.hid (show Rd w7 _ (.slice A7 1 c7) (intsTr [3]) from h4); clear h1 h2 h3 h4 h5)
      | (go_at_call 13; (with_reducible refine (equalInts_any [4] [4] _ (fun _ => True) (fun _ => True) A9 _ 1 1 c9 1 (by first | exact HR9.out.mono (fun _ _ _ => trivial) | exact (HR9.out.alloc _).mono (fun _ _ _ => trivial)) (rows_rd [.int .i64 4] rfl (by simp [maxLen]) trivial (by first | exact blk_at _ _ rfl | exact below_blk HB9.out (blk_at _ _ rfl)))).mono ?_); rintro e w10 ⟨rfl, h5⟩; have HB10 := Lib.hid h5; clear h5)
      | (go_at_call 13; (with_reducible refine (equalInts_any [3] [3] _ (fun _ => True) (fun _ => True) A7 _ 1 1 c7 1 (by first | exact HR7.out.mono (fun _ _ _ => trivial) | exact (HR7.out.alloc _).mono (fun _ _ _ => trivial)) (rows_rd [.int .i64 3] rfl (by simp [maxLen]) trivial (by first | exact blk_at _ _ rfl | exact below_blk HB7.out (blk_at _ _ rfl)))).mono ?_); rintro e w8 ⟨rfl, h5⟩; have HB8 := Lib.hid h5; clear h5)
      | (go_at_call 27; (with_reducible refine (codesStk_any _ w.heap.size [f34] (heldSK (by assumption)) (by decide) (by decide)).mono ?_); rintro e w9 ⟨A9, c9, Z9, rfl, h1, h2, h3, h4, h5⟩; obtain rfl := sorted_eq h1 h2 h3 codes34 (by decide); have HB9 := Lib.hid h5; have HR9 := Lib.hid (show Rd w9 _ (.slice A9 1 c9) (intsTr [4]) from h4); clear h1 h2 h3 h4 h5)
      | (go_at_call 21; (refine (pushBad_any _ w.heap.size ⟨0, 0, 0, 0, []⟩ rfl none 0).mono ?_); rintro e w11 ⟨rfl, h5⟩; have HB11 := Lib.hid h5; clear h5))
  all_goals
    go_wp2_with fail
    go_ret
    exact ⟨rfl, heldB (by assumption)⟩
end Go.Proofs.Ytadpfhoenjodeaa
