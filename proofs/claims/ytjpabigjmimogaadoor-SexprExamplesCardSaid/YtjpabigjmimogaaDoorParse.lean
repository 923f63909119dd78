/- sexpr.Parse: what it returns. -/
import Derived.Test.YtjpabigjmimogaaDoorAll
import Derived.Test.YtjpabigjmimogaaDoorCatch
set_option linter.unusedVariables false
set_option linter.unusedSimpArgs false
namespace Go.Proofs.YtjpabigjmimogaaDoor
open Go.RowKit

/-- What Parse returns: the nodes, read in new blocks, or the fault. -/
def ParsePost (w : World) (r : PR) (e : Ending) (w' : World) : Prop :=
  Below w.heap.size w w' ∧
  match r with
  | .fail a b => e = .returned (.tuple #[.slice none 0 0, .agg #[.int .i64 a, .int .i64 b]])
  | .ok l => ∃ A n c, e = .returned (.tuple #[.slice A n c, .agg #[.int .i64 0, .int .i64 0]]) ∧ Rd w' (fun b => w.heap.size ≤ b) (.slice A n c) (.sl 39 4 (ndsTr 39 l))

theorem below_of2 {w W w' : World} (h : Below w.heap.size w W) (k : Below (w.heap.size + 2) W w') : Below w.heap.size w w' := h.trans (k.mono (by omega))
/-- The parser as Parse makes it. -/
theorem ps_start (w W : World) (s : ByteArray) (g : Nat) (hg : g = w.heap.size + 3)
    (h0 : W.heap[g]? = some (.cells #[.string s, .int .i64 0, .slice (some ⟨w.heap.size + 2, 0, none⟩) 1 1] 67 (0, 0)))
    (h1 : W.heap[w.heap.size + 2]? = some (.cells #[.int .i64 0, .string ⟨#[]⟩, .slice none 0 0, .int .i64 0] 39 (0, 0))) :
    PS W (w.heap.size + 2) g s 0 [⟨0, 0, []⟩] := by
  refine ⟨w.heap.size + 2, 1, [.slice none 0 0], ?_⟩
  refine { hg := h0, row := ⟨_, h1, rfl, ?_⟩, len := rfl, cap1 := by simp, cap2 := by simp [maxLen], own := ?_, dis := ?_, noto := ?_, bo := Nat.le_refl _, bg := by omega, ne := by decide }
  · intro i f v hf hv
    cases i with
    | zero => simp at hf hv; subst hf hv; simp
    | succ i => simp at hf
  · intro i f v hf hv
    cases i with
    | zero => simp at hf hv; subst hf hv; exact Own.nil _ _ _ _ _
    | succ i => simp at hf
  · intro i j v u b hij hv hu
    cases i with
    | zero => simp at hv; subst hv; simp [Value.ownBlock]
    | succ i => simp at hv
  · intro v hv; simp at hv; subst hv; simp [Value.ownBlock]

/-- The world in which the parser starts. -/
structure Start (w W : World) (s : ByteArray) : Prop where
  ps : PS W (w.heap.size + 2) (w.heap.size + 1 + 1 + 1) s 0 [⟨0, 0, []⟩]
  bel : Below w.heap.size w W
  cn : W.heap[w.heap.size]? = some (.cells #[.slice none 0 0] 30 (0, 0))
  cf : W.heap[w.heap.size + 1]? = some (.cells #[.int .i64 0, .int .i64 0] 33 (0, 0))
theorem start_mk (w : World) (s : ByteArray) : Start w ((((w.alloc (.cells #[.slice none 0 0] 30)).alloc (.cells #[.int .i64 0, .int .i64 0] 33)).alloc (.cells #[.int .i64 0, .string ⟨#[]⟩, .slice none 0 0, .int .i64 0] 39)).alloc (.cells #[.string s, .int .i64 0, .slice (some ⟨w.heap.size + 1 + 1, 0, none⟩) 1 1] 67)) s := by
  have a1 := heap_alloc_new w (.cells #[.slice none 0 0] 30)
  have a2 := heap_alloc_new (w.alloc (.cells #[.slice none 0 0] 30)) (.cells #[.int .i64 0, .int .i64 0] 33)
  have a3 := heap_alloc_new ((w.alloc (.cells #[.slice none 0 0] 30)).alloc (.cells #[.int .i64 0, .int .i64 0] 33)) (.cells #[.int .i64 0, .string ⟨#[]⟩, .slice none 0 0, .int .i64 0] 39)
  have a4 := heap_alloc_new (((w.alloc (.cells #[.slice none 0 0] 30)).alloc (.cells #[.int .i64 0, .int .i64 0] 33)).alloc (.cells #[.int .i64 0, .string ⟨#[]⟩, .slice none 0 0, .int .i64 0] 39)) (.cells #[.string s, .int .i64 0, .slice (some ⟨w.heap.size + 1 + 1, 0, none⟩) 1 1] 67)
  simp only [World.size_alloc] at a2 a3 a4
  refine ⟨ps_start w _ s _ rfl a4 ?_, (((((Below.refl _ _).alloc (Nat.le_refl _) _).alloc (by simp) _).alloc (by simp; omega) _).alloc (by simp; omega) _), ?_, ?_⟩
  · rw [Below.heap_alloc _ _ _ (by simp)]
    exact a3
  · rw [Below.heap_alloc _ _ _ (by simp; omega), Below.heap_alloc _ _ _ (by simp; omega), Below.heap_alloc _ _ _ (by simp)]
    exact a1
  · rw [Below.heap_alloc _ _ _ (by simp), Below.heap_alloc _ _ _ (by simp)]
    exact a2

set_option maxRecDepth 100000 in
set_option maxHeartbeats 4000000 in
theorem parse_fail (s : ByteArray) (w : World) (a b : Int)
    (hall : ∀ (W : World) (g : Nat), PS W (w.heap.size + 2) g s 0 [⟨0, 0, []⟩] → Calls Tryd.prog 36 #[.pointer (some ⟨g, 0, none⟩)] W (FailPost W (w.heap.size + 2) a b)) :
    Calls Tryd.prog 13 #[.string s] w (ParsePost w (.fail a b)) := by
  have HA := Lib.hid hall
  have HS := Lib.hid (start_mk w s)
  clear hall
  have hmf : ∀ (fn : Fn) (first cap : Array Value) (w : World), (Instr.makeFunc fn first cap).run Tryd.prog w = .ok (.func fn first cap) w := fun _ _ _ _ => rfl
  go_enter_defers Tryd.func13, Tryd.ntmps13
  go_wp2_with fail
  refine (HA.out _ _ HS.out.ps).mono ?_
  rintro e w' ⟨rfl, hB⟩
  generalize ((((w.alloc (.cells #[.slice none 0 0] 30)).alloc (.cells #[.int .i64 0, .int .i64 0] 33)).alloc (.cells #[.int .i64 0, .string ⟨#[]⟩, .slice none 0 0, .int .i64 0] 39)).alloc (.cells #[.string s, .int .i64 0, .slice (some ⟨w.heap.size + 1 + 1, 0, none⟩) 1 1] 67)) = W at *
  have S := HS.out
  have hcn := (hB.block w.heap.size (by omega)).trans S.cn
  have hcf := (hB.block (w.heap.size + 1) (by omega)).trans S.cf
  refine leaves_cons (f := 35) (args := #[.pointer (some ⟨w.heap.size, 0, none⟩), .pointer (some ⟨w.heap.size + 1, 0, none⟩)]) (by simp) (by simp [go_sem]) ?_
  refine (catch_fault w.heap.size (w.heap.size + 1) a b w' (.slice none 0 0) 0 0 ⟨_, _, _, rfl⟩ ((cell_of_row _ _ 0 _ _ _ hcn).trans rfl) ((cell_of_row _ _ 0 _ _ _ hcf).trans rfl) ((cell_of_row _ _ 1 _ _ _ hcf).trans rfl) (blk_frozen hcn 0) (blk_frozen hcf 0) (blk_frozen hcf 1) (by omega)).mono ?_
  rintro e u' w'' ⟨rfl, rfl, hC⟩
  obtain ⟨d0, d1, d2, d3⟩ := hC
  refine ⟨.tuple #[.slice none 0 0, .agg #[.int .i64 a, .int .i64 b]], by simp [results, Tryd.results13, go_sem, d0, d1, d2], ?_, rfl⟩
  have hk : Kp w w'' fun k => w.heap.size ≤ k := (Kp.of_below (below_of2 S.bel hB) _).trans d3 (fun k hk hs => by omega)
  exact ⟨hk.os, hk.tape, hk.output, hk.size, fun k hk2 => hk.block k hk2 (by omega)⟩

set_option maxRecDepth 100000 in
set_option maxHeartbeats 4000000 in
theorem parse_ok (s : ByteArray) (w : World) (l : List Nd)
    (hall : ∀ (W : World) (g : Nat), PS W (w.heap.size + 2) g s 0 [⟨0, 0, []⟩] → Calls Tryd.prog 36 #[.pointer (some ⟨g, 0, none⟩)] W (AllPost W (w.heap.size + 2) g s (.ok l))) :
    Calls Tryd.prog 13 #[.string s] w (ParsePost w (.ok l)) := by
  have HA := Lib.hid hall
  have HS := Lib.hid (start_mk w s)
  clear hall
  have hmf : ∀ (fn : Fn) (first cap : Array Value) (w : World), (Instr.makeFunc fn first cap).run Tryd.prog w = .ok (.func fn first cap) w := fun _ _ _ _ => rfl
  go_enter_defers Tryd.func13, Tryd.ntmps13
  go_wp2_with fail
  refine (HA.out _ _ HS.out.ps).mono ?_
  rintro e w' ⟨rfl, ⟨top, htop, o, cap, vs, hP⟩, hB⟩
  generalize ((((w.alloc (.cells #[.slice none 0 0] 30)).alloc (.cells #[.int .i64 0, .int .i64 0] 33)).alloc (.cells #[.int .i64 0, .string ⟨#[]⟩, .slice none 0 0, .int .i64 0] 39)).alloc (.cells #[.string s, .int .i64 0, .slice (some ⟨w.heap.size + 1 + 1, 0, none⟩) 1 1] 67)) = W at *
  have S := HS.out
  have hcn := (hB.block w.heap.size (by omega)).trans S.cn
  have hcf := (hB.block (w.heap.size + 1) (by omega)).trans S.cf
  have en := (cell_of_row _ _ 0 _ _ _ hcn).trans (c := some (.slice none 0 0)) rfl
  have e0 := (cell_of_row _ _ 0 _ _ _ hcf).trans (c := some (.int .i64 0)) rfl
  have e1 := (cell_of_row _ _ 1 _ _ _ hcf).trans (c := some (.int .i64 0)) rfl
  have g0 := blk_frozen hcn 0
  have g1 := blk_frozen hcf 0
  have g2 := blk_frozen hcf 1
  obtain ⟨v, hv⟩ : ∃ v, vs = [v] := by
    have := hP.len
    match vs, this with
    | [v], _ => exact ⟨v, rfl⟩
  subst hv
  obtain ⟨n0, n1, n2, n3, nf⟩ := hP.node (i := 0) (f := top) (v := v) rfl rfl
  obtain ⟨c0, c1, c2, f0, f1, f2⟩ := hP.cells
  have hown := hP.own 0 top v rfl rfl
  obtain ⟨A, C, hvs, _⟩ := hown.slice
  subst hvs
  have hbo := hP.bo
  have hbg := hP.bg
  have HO := Lib.hid hown
  have HP := Lib.hid hP
  have HB := Lib.hid hB
  have HT := Lib.hid htop
  rw [show [top].length = 1 from rfl] at c2
  simp only [Nat.zero_mul, Nat.zero_add] at n0 n1 n2 n3
  clear hown hP hB S htop hcn hcf nf
  go_wp2_with fail
  refine leaves_cons (f := 35) (args := #[.pointer (some ⟨w.heap.size, 0, none⟩), .pointer (some ⟨w.heap.size + 1, 0, none⟩)]) (by simp) (by simp [go_sem]) ?_
  refine (catch_idle _ _ _).mono ?_
  rintro e u' w'' ⟨rfl, rfl, rfl⟩
  refine ⟨.tuple #[.slice A top.kids.length C, .agg #[.int .i64 0, .int .i64 0]], by simp [results, Tryd.results13, go_sem, en, e0, e1], ?_, A, _, C, rfl, ?_⟩
  · exact (((below_of2 HS.out.bel HB.out).setCell (p := ⟨w.heap.size, 0, none⟩) (Nat.le_refl _) _).setCell (p := ⟨w.heap.size + 1, 0, none⟩) (by simp) _).setCell (p := ⟨w.heap.size + 1, 1, none⟩) (by simp) _
  · have hr := HO.out.rd (ok' := fun b => w.heap.size + 2 ≤ b) (fun b hb _ => hb.1) (fun b hb => (HO.out.lt b hb).1)
    have ht := HT.out
    subst ht
    refine Rd.mono (ok := fun b => w.heap.size + 2 ≤ b) ?_ (fun b hb _ => by omega)
    exact (((hr.setCell (p := ⟨w.heap.size, 0, none⟩) (by simp) _).setCell (p := ⟨w.heap.size + 1, 0, none⟩) (by simp) _).setCell (p := ⟨w.heap.size + 1, 1, none⟩) (by simp) _)

theorem parse_any (s : ByteArray) (hs : s.size ≤ 9223372036854775807) (w : World) (n : Nat) (r : PR) (hr : parseF s n = some r) : Calls Tryd.prog 13 #[.string s] w (ParsePost w r) := by
  unfold parseF at hr
  by_cases hlong : 65536 < s.size
  · rw [if_pos hlong] at hr
    obtain rfl := (Option.some.inj hr).symm
    exact parse_fail s w 4 0 fun W g hps => all_long hps hlong hs
  · rw [if_neg hlong] at hr
    cases r with
    | fail a b => exact parse_fail s w a b fun W g hps => all_any hps (by omega) n _ hr
    | ok l => exact parse_ok s w l fun W g hps => all_any hps (by omega) n _ hr
end Go.Proofs.YtjpabigjmimogaaDoor
