/- tellaw37.sane. -/
import Derived.Test.YtadpfhoenjodeaaGenS
import Derived.Test.YtadpfhoenjodeaaUnr
import Derived.Test.YtadpfhoenjodeaaActive
set_option linter.unusedVariables false
set_option linter.unusedSimpArgs false
namespace Go.Proofs.Ytadpfhoenjodeaa
open Go.RowKit Go.Maps

theorem sorted_eq {Z L : List Int} {p : Int → Prop} (hW : ∀ x ∈ Z, (Lit.int .i64 x).wf = true) (hU : Up Z) (hZ : ∀ x, (Lit.int .i64 x).wf = true → (x ∈ Z ↔ p x)) (hL : Lists p L) (hLW : ∀ x ∈ L, (Lit.int .i64 x).wf = true) : Z = L :=
  hU.ext hL.1 fun x => ⟨fun h => (hL.2 x).2 ((hZ x (hW x h)).1 h), fun h => (hZ x (hLW x h)).2 ((hL.2 x).1 h)⟩
theorem blk_old {w : World} {o o' : Obj} {k : Nat} (h : w.heap[k]? = some o') : (w.alloc o).heap[k]? = some o' := (heap_alloc_old w o (lt_of_block h)).trans h
theorem rows_rd {w : World} {ok : Nat → Prop} {g t sz n : Nat} (cs : List Value) (hl : cs.length = n * sz) (hn : n ≤ maxLen) (hg : ok g) (hb : w.heap[g]? = some (.cells cs.toArray t (0, 0))) : Rd w ok (.slice (some ⟨g, 0, none⟩) n n) (.sl t sz (cs.map .sc)) := by
  refine .row g 0 n n _ sz _ _ cs _ hg hb (Nat.le_refl _) hn (by simp [hl]) (by simp [hl]) (fun j hj => by simp) (fun j u e hu he => ?_)
  rw [List.getElem?_map, hu] at he
  simp at he
  subst he
  exact .sc _
def mkZ (i m f t : Int) : Cc := ⟨i, m, 0, ⟨#[]⟩, 0, none, 0, 0, f, t, 0, 0, none, 0, 0, none, 0, 0, none, 0, 0, none, 0, 0⟩
def zs : List Cc := [mkZ 1 1 2 5, mkZ 2 1 2 0, mkZ 3 1 3 4]
def zf : Fr := mkF 3 0 4
theorem z_worlds : Lists (fun x => x = 6 ∨ ∃ f ∈ [[zf]].flatten, f.world = x) [4, 6] := ⟨by simp [Up], fun x => by simp [zf, mkF]; omega⟩
theorem z_active : Lists (fun x => ∃ f ∈ [[zf]].flatten, 0 < f.code ∧ f.code = x) [3] := ⟨by simp [Up], fun x => by simp [zf, mkF]; omega⟩
theorem z_free1 : Lists (FreeIds zs [3] [4, 6]) [] := ⟨by simp [Up], fun x => by simp [FreeIds, Free, zs, mkZ]⟩
theorem z_free2 : Lists (FreeIds zs [] [6]) [1, 3] := ⟨by simp [Up], fun x => by simp [FreeIds, Free, zs, mkZ]; omega⟩
theorem z_wf (l : List Int) (h : ∀ x ∈ l, 0 ≤ x ∧ x < 100) : ∀ x ∈ l, (Lit.int .i64 x).wf = true := by
  intro x hx
  have := h x hx
  simp [Lit.wf, IntKind.min, IntKind.max, IntKind.signed, IntKind.bits]
  omega
set_option maxRecDepth 100000 in
set_option maxHeartbeats 8000000 in
theorem sane37_any (w : World) : Calls Try.prog 18 #[] w fun e w' => e = .returned (.bool true) ∧ Below w.heap.size w w' := by
  go_enter Try.func18, Try.ntmps18
  go_upto_region 4 with fail
  obtain ⟨W, hW⟩ : ∃ W, W = (((w.alloc (.cells #[.int .i64 1, .int .i64 1, .int .i64 0, .string ⟨#[]⟩, .int .i64 0, .slice none 0 0, .int .i64 2, .int .i64 5, .int .i64 0, .int .i64 0, .slice none 0 0, .slice none 0 0, .slice none 0 0, .slice none 0 0] 65)).alloc
      (.cells (zs.flatMap Cc.vs).toArray 65)).alloc (.cells zf.vs.toArray 43)).alloc (.cells #[.slice (some ⟨w.heap.size + 2, 0, none⟩) 1 1] 25) := ⟨_, rfl⟩
  have hbel : Below w.heap.size w W := by rw [hW]; exact bel_alloc (bel_alloc (bel_alloc (bel_alloc (Below.refl _ _) _) _) _) _
  have hst : Rd W (fun _ => True) (.slice (some ⟨w.heap.size + 3, 0, none⟩) 1 1) (stTr [[zf]]) := by
    rw [hW]
    refine one_sl trivial (blk_at _ _ (by simp)) ?_
    exact row_rd zf.vs rfl trivial (blk_old (blk_at _ _ (by simp)))
  have hall : Rd W (fun _ => True) (.slice (some ⟨w.heap.size + 1, 0, none⟩) 3 3) (ccsTr zs) := by
    rw [hW]
    exact rows_rd (zs.flatMap Cc.vs) rfl (by simp [maxLen]) trivial (blk_old (blk_old (blk_at _ _ (by simp))))
  generalize hV : World.alloc (World.alloc (World.alloc (World.alloc w _) _) _) _ = V
  obtain rfl : W = V := by rw [hW, ← hV]; rfl
  have HB := Lib.hid hbel
  have HST := Lib.hid hst
  have HALL := Lib.hid hall
  clear hV hW hbel hst hall
  go_wp2_with (first
    | (go_at_call 14; with_reducible refine (liveWorlds_any 6 [[zf]] _ (fun _ => True) _ 1 1 (by decide) (by intro l hl f hf; simp at hl; subst hl; simp at hf; subst hf; decide) (by decide) HST.out).mono ?_; rintro e w1 ⟨A1, c1, Z1, rfl, h1, h2, h3, h4, h5⟩; obtain rfl := sorted_eq h1 h2 h3 z_worlds (by decide); have HB1 := Lib.hid (below_call HB.out h5); have HR1 := Lib.hid h4; have HS1 := Lib.hid (HST.out.bl h5); have HALL1 := Lib.hid (HALL.out.bl h5); clear h1 h2 h3 h4 h5)
    | (go_at_call 15; with_reducible refine (activeCodes_any [[zf]] _ (fun _ => True) _ 1 1 (by intro l hl f hf; simp at hl; subst hl; simp at hf; subst hf; decide) (by decide) HS1.out).mono ?_; rintro e w2 ⟨A2, c2, Z2, rfl, h1, h2, h3, h4, h5⟩; obtain rfl := sorted_eq h1 h2 h3 z_active (by decide); have HB2 := Lib.hid (below_call HB1.out h5); have HR2 := Lib.hid h4; have HR12 := Lib.hid (HR1.out.bl h5); have HALL2 := Lib.hid (HALL1.out.bl h5); clear h1 h2 h3 h4 h5)
    | (go_at_call 13; (with_reducible refine (equalInts_any [1, 3] [1, 3] _ (fun b => w5.heap.size + 1 ≤ b) (fun _ => True) A6 _ 2 2 c6 2 (HR6.out.alloc _) (rows_rd [.int .i64 1, .int .i64 3] rfl (by simp [maxLen]) trivial (blk_at _ _ rfl))).mono ?_); rintro e w7 ⟨rfl, h5⟩; have HB7 := Lib.hid (below_call (bel_alloc HB6.out _) h5); clear h5)
    | (go_at_call 13; (with_reducible refine (equalInts_any [3] [3] _ (fun b => w1.heap.size ≤ b) (fun _ => True) A2 _ 1 1 c2 1 (HR23.out.alloc _) (rows_rd [.int .i64 3] rfl (by simp [maxLen]) trivial (blk_at _ _ rfl))).mono ?_); rintro e w4 ⟨rfl, h5⟩; have HB4 := Lib.hid (below_call (bel_alloc HB3.out _) h5); have HR24 := Lib.hid (show Rd w4 (fun b => w1.heap.size ≤ b) (.slice A2 1 c2) (intsTr [3]) from (HR23.out.alloc _).bl h5); have HR14 := Lib.hid (show Rd w4 (fun b => W.heap.size ≤ b) (.slice A1 2 c1) (intsTr [4, 6]) from (HR13.out.alloc _).bl h5); have HALL4 := Lib.hid ((HALL3.out.alloc _).bl h5); clear h5)
    | (go_at_call 13; (with_reducible refine (equalInts_any [4, 6] [4, 6] _ (fun b => W.heap.size ≤ b) (fun _ => True) A1 _ 2 2 c1 2 (HR12.out.alloc _) (rows_rd [.int .i64 4, .int .i64 6] rfl (by simp [maxLen]) trivial (blk_at _ _ rfl))).mono ?_); rintro e w3 ⟨rfl, h5⟩; have HB3 := Lib.hid (below_call (bel_alloc HB2.out _) h5); have HR23 := Lib.hid ((HR2.out.alloc _).bl h5); have HR13 := Lib.hid ((HR12.out.alloc _).bl h5); have HALL3 := Lib.hid ((HALL2.out.alloc _).bl h5); clear h5)
    | (go_at_call 16; (with_reducible refine (unreach_any zs [] [6] _ (fun _ => True) (fun _ => True) (fun _ => True) _ none _ 3 3 0 0 1 1 (HALL5.out.alloc _) (.nil _ _) (rows_rd [.int .i64 6] rfl (by simp [maxLen]) trivial (blk_at _ _ rfl)) (by simp) (by decide) (by decide) (by decide)).mono ?_); rintro e w6 ⟨A6, c6, Z6, rfl, h1, h2, h3, h4, h5⟩; obtain rfl := sorted_eq h1 h2 h3 z_free2 (by decide); have HB6 := Lib.hid (below_call (bel_alloc HB5.out _) h5); have HR6 := Lib.hid (show Rd w6 (fun b => w5.heap.size + 1 ≤ b) (.slice A6 2 c6) (intsTr [1, 3]) from h4.mono (fun b hb _ => by simpa using hb)); clear h1 h2 h3 h4 h5)
    | (go_at_call 16; with_reducible refine (unreach_any zs [3] [4, 6] _ (fun _ => True) (fun b => w1.heap.size ≤ b) (fun b => W.heap.size ≤ b) _ A2 A1 3 3 1 c2 2 c1 HALL4.out HR24.out HR14.out (by decide) (by decide) (by decide) (by decide)).mono ?_; rintro e w5 ⟨A5, c5, Z5, rfl, h1, h2, h3, h4, h5⟩; obtain rfl := sorted_eq h1 h2 h3 z_free1 (by simp); have HB5 := Lib.hid (below_call HB4.out h5); have HALL5 := Lib.hid (HALL4.out.bl h5); clear h1 h2 h3 h4 h5))
  go_ret
  exact ⟨rfl, HB7.out⟩
end Go.Proofs.Ytadpfhoenjodeaa
