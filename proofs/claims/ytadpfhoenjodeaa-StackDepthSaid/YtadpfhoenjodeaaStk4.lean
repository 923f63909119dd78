/- callstack: Top, Pop, Replace; telgen.Within. -/
import Derived.Test.YtadpfhoenjodeaaStk3
set_option linter.unusedVariables false
set_option linter.unusedSimpArgs false
namespace Go.Proofs.Ytadpfhoenjodeaa
open Go.RowKit Go.Maps

theorem results_cell_row_tmp {P : Program} {fn : Func} {p u : Tmp} {ty : TypeId} (h : fn.results = #[.cell p ty, .tmp u]) (tmps : Array Value) (w : World) (g : Nat) (t : TypeId) (cs : Array Value) (fr : Nat × Nat) (d : TypeDesc)
    (hp : tmps.getD p undef = .pointer (some ⟨g, 0, none⟩)) (hg : w.heap[g]? = some (.cells cs t fr))
    (hu : P.underlying ty = some d) (hd : (match d with | .struct _ | .array _ _ => true | _ => false) = true) (hi : (P.info? ty).map (·.size) = some cs.size) :
    (results fn tmps).run P w = .ok (.tuple #[.agg cs, tmps.getD u undef]) w := by
  have hp' : tmps[p]?.getD undef = .pointer (some ⟨g, 0, none⟩) := by simpa using hp
  simp [results, h, hp', asAddr, run_loadVar_row w g t ty cs fr d hg hu hd hi]
theorem wrap_i64 {x : Int} (h0 : -9223372036854775808 ≤ x) (h1 : x ≤ 9223372036854775807) : IntKind.i64.wrap x = x := by
  simp only [IntKind.wrap, IntKind.bits, IntKind.signed]
  simp
  split <;> omega
/-- What Top answers. -/
def TopPost (w : World) (l : List DF) (e : Ending) (w' : World) : Prop :=
  (l = [] ∧ e = .returned (.tuple #[.agg #[.int .i64 0, .int .i64 0, .int .i64 0, .int .i64 0, .slice none 0 0], .bool false]) ∧ Below w.heap.size w w') ∨
  ∃ l' f A c, l = l' ++ [f] ∧ e = .returned (.tuple #[.agg #[.int .i64 f.code, .int .i64 f.meth, .int .i64 f.world, .int .i64 f.pc, .slice A f.slots.length c], .bool true]) ∧ Rd w' (fun b => w.heap.size ≤ b) (.slice A f.slots.length c) (vlsTr f.slots) ∧ Below w.heap.size w w'
theorem kp_set5 {w w' : World} {S : Nat → Prop} (h : Kp w w' S) {B : Nat} (hB : w.heap.size ≤ B) (a b c d e : Value) : Kp w (((((w'.setCell ⟨B, 0, none⟩ (a)).setCell ⟨B, 1, none⟩ (b)).setCell ⟨B, 2, none⟩ (c)).setCell ⟨B, 3, none⟩ (d)).setCell ⟨B, 4, none⟩ (e)) S :=
  ((((h.setCell (p := ⟨B, 0, none⟩) (.inr hB) a).setCell (p := ⟨B, 1, none⟩) (.inr hB) b).setCell (p := ⟨B, 2, none⟩) (.inr hB) c).setCell (p := ⟨B, 3, none⟩) (.inr hB) d).setCell (p := ⟨B, 4, none⟩) (.inr hB) e
theorem blk_set5 {w : World} {B t : Nat} {x0 x1 x2 x3 x4 : Value} (h : w.heap[B]? = some (.cells #[x0, x1, x2, x3, x4] t (0, 0))) (a b c d e : Value) : (((((w.setCell ⟨B, 0, none⟩ (a)).setCell ⟨B, 1, none⟩ (b)).setCell ⟨B, 2, none⟩ (c)).setCell ⟨B, 3, none⟩ (d)).setCell ⟨B, 4, none⟩ (e)).heap[B]? = some (.cells #[a, b, c, d, e] t (0, 0)) := by
  simp [World.setCell, Array.getElem?_modify, h]
set_option maxRecDepth 100000 in
set_option maxHeartbeats 8000000 in
theorem top_any (w : World) (g : Nat) (l : List DF) (h : SK w g l) (hl : l.length ≤ 100000) (hsm : ∀ f ∈ l, vlsC (DF.slots f) ≤ 1000000) :
    Calls Try.prog 49 #[.pointer (some ⟨g, 0, none⟩)] w (TopPost w l) := by
  obtain ⟨As, cs, hblk, hown0⟩ := h
  have hr := hown0.rd
  obtain ⟨-, hn1, hn2⟩ := dfs_len hr
  simp only [maxLen] at hn2
  have hgl := lt_of_block hblk
  have hgc : w.cell? ⟨g, 0, none⟩ = some (.slice As l.length cs) := (cell_of_row _ _ 0 _ _ _ hblk).trans rfl
  have HR := Lib.hid hr
  have HSM := Lib.hid hsm
  clear hr hsm hown0 hblk
  rcases List.eq_nil_or_concat l with rfl | ⟨l', f, rfl⟩
  · have HP : Hid (∀ e w', e = .returned (.tuple #[.agg #[.int .i64 0, .int .i64 0, .int .i64 0, .int .i64 0, .slice none 0 0], .bool false]) → Below w.heap.size w w' → TopPost w [] e w') := Lib.hid (fun e w' h1 h2 => .inl ⟨rfl, h1, h2⟩)
    go_enter Try.func49, Try.ntmps49
    go_wp2_with fail
    exact bodyPost_ret (results_cell_row_tmp rfl _ _ w.heap.size _ _ (0, 0) _ rfl (blk_new w _) rfl rfl rfl) rfl (HP.out _ _ rfl (bel_alloc (Below.refl _ _) _))
  · have hfi : (l'.concat f)[l'.length]? = some f := by simp
    obtain ⟨b, o, KA, KN, KC, rfl, -, p0, p1, p2, p3, p4, p5⟩ := dfs_at HR.out hfi
    obtain ⟨hkn, -, -⟩ := vls_len p5
    subst hkn
    have HF := Lib.hid (HSM.out f (List.mem_of_getElem? hfi))
    have P5 := Lib.hid p5
    obtain ⟨n, hn⟩ : ∃ n, n = l'.length := ⟨_, rfl⟩
    have hlen : (l'.concat f).length = n + 1 := by simp [hn]
    rw [hlen] at hgc hl hn1
    rw [← hn] at p0 p1 p2 p3 p4
    have HP : Hid (∀ e w' A c, e = .returned (.tuple #[.agg #[.int .i64 f.code, .int .i64 f.meth, .int .i64 f.world, .int .i64 f.pc, .slice A f.slots.length c], .bool true]) → Rd w' (fun b => w.heap.size ≤ b) (.slice A f.slots.length c) (vlsTr f.slots) → Below w.heap.size w w' → TopPost w (l'.concat f) e w') := Lib.hid (fun e w' A c h1 h2 h3 => .inr ⟨l', f, A, c, by simp, h1, h2, h3⟩)
    have hw1 : wrap64 ((n : Int) + 1 - 1) = (n : Int) := by unfold wrap64; omega
    have hbl : b < w.heap.size := World.block_lt_of_cell? w ⟨b, o + n * 5, none⟩ p0
    have hw2 : IntKind.i64.wrap (n : Int) = (n : Int) := wrap_i64 (by omega) (by omega)
    have hi0 : (0 : Int) ≤ (n : Int) := by omega
    have hi1 : (n : Int) < (n : Int) + 1 := by omega
    have hz : (((n : Int) + 1) == 0) = false := by simp; omega
    have hcast : ((n + 1 : Nat) : Int) = (n : Int) + 1 := by simp
    have hcs : n + 1 ≤ cs := hn1
    clear hn hfi p5 hlen
    have HRD : Hid (Rd w (fun b => g + 1 ≤ b) (.slice KA f.slots.length KC) (vlsTr f.slots)) := P5
    clear P5
    go_enter Try.func49, Try.ntmps49
    go_wp2_with fail
    go_region_law ((go_simp; go_at_call 46; (with_reducible refine (ownFrame_any f HF.out _ (fun b => g + 1 ≤ b) KA f.slots.length KC ((HRD.out.alloc _).drew)).mono ?_); rintro e w3 ⟨A2, c2, rfl, h1, h2⟩; have HR2 := Lib.hid (show Rd w3 (fun b => w.heap.size + 1 ≤ b) (.slice A2 f.slots.length c2) (vlsTr f.slots) from h1.mono (fun b hb _ => by simpa using hb)); have hb3 : Below w.heap.size w w3 := below_call (bel_alloc (Below.refl _ _) (.cells #[.int .i64 0, .int .i64 0, .int .i64 0, .int .i64 0, .slice none 0 0] 43)) ⟨h2.os, h2.tape, h2.output, h2.size, h2.block⟩; have hrb : w3.heap[w.heap.size]? = some (.cells #[.int .i64 0, .int .i64 0, .int .i64 0, .int .i64 0, .slice none 0 0] 43 (0, 0)) := (h2.block _ (by simp)).trans (blk_new w _); have v0 : w3.cell? ⟨w.heap.size, 0, none⟩ = some (.int .i64 0) := (cell_of_row _ _ 0 _ _ _ hrb).trans rfl; have v1 : w3.cell? ⟨w.heap.size, 1, none⟩ = some (.int .i64 0) := (cell_of_row _ _ 1 _ _ _ hrb).trans rfl; have v2 : w3.cell? ⟨w.heap.size, 2, none⟩ = some (.int .i64 0) := (cell_of_row _ _ 2 _ _ _ hrb).trans rfl; have v3 : w3.cell? ⟨w.heap.size, 3, none⟩ = some (.int .i64 0) := (cell_of_row _ _ 3 _ _ _ hrb).trans rfl; have v4 : w3.cell? ⟨w.heap.size, 4, none⟩ = some (.slice none 0 0) := (cell_of_row _ _ 4 _ _ _ hrb).trans rfl; have k0 := tp_frozen hrb 0; have k1 := tp_frozen hrb 1; have k2 := tp_frozen hrb 2; have k3 := tp_frozen hrb 3; have k4 := tp_frozen hrb 4; have HRB := Lib.hid hrb; have HB3 := Lib.hid hb3; clear h1 h2 hb3 hrb))
    all_goals go_wp2_with fail
    all_goals
      refine bodyPost_ret (results_cell_row_tmp rfl _ _ w.heap.size _ _ (0, 0) _ rfl (blk_set5 HRB.out _ _ _ _ _) rfl rfl rfl) rfl (HP.out _ _ A2 c2 rfl ?_ ?_)
      · exact (((((HR2.out.setCell (p := ⟨w.heap.size, 0, none⟩) (by simp) _).setCell (p := ⟨w.heap.size, 1, none⟩) (by simp) _).setCell (p := ⟨w.heap.size, 2, none⟩) (by simp) _).setCell (p := ⟨w.heap.size, 3, none⟩) (by simp) _).setCell (p := ⟨w.heap.size, 4, none⟩) (by simp) _).mono fun b hb _ => by omega
      · exact (kp_set5 (Kp.of_below HB3.out fun _ => False) (Nat.le_refl _) _ _ _ _ _).below
end Go.Proofs.Ytadpfhoenjodeaa
