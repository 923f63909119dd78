/- tellaw1.SexprPieces returns true for every slice of integers. The shell was written by the program of the kit; the walk is by hand. -/
import Derived.Test.YtoepnohmhpdeiaaRows
import Derived.WalkKit
import Derived.ProofKit
import Derived.OpenShut
import Derived.ShutString
import Derived.Test.YtoepnohmhpdeiaaMod
import Derived.SizedLaws
import Derived.ChangeOld
import Derived.Below
namespace Go.Proofs.Ytoepnohmhpdeiaa.sexprPieces
open Go.ChangeShapes Go.WideShapes Go.ChangeAt Go.RowKit
open Go.ChangeMaps (open_string shut_string)
set_option linter.unusedVariables false
set_option linter.unusedSimpArgs false

theorem bytes8 : Try.prog.bytesOf 3 = 8 := by kernel_rfl
theorem own : ownKnob Try.prog.godebug = none := by kernel_rfl
theorem laidOut : laidOutB Try.prog = true := by kernel_rfl

/-- WHAT THE WALK IS TOLD OF A SLICE OF INTEGERS THAT CAME IN: it is nil; or it leads to a row of 'cap' cells, the numbers 'zs' (the first 'len' are its elements, the rest its spare room), each fitting its kind. -/
def IsRow (k : IntKind) (w : World) (a : Option Addr) (len cap : Nat) (zs : List Int) : Prop :=
  (a = none ∧ len = 0 ∧ cap = 0 ∧ zs = []) ∨
  ∃ x, a = some x ∧ len ≤ cap ∧ cap ≤ maxLen ∧ zs.length = cap ∧ (∀ i, i < zs.length → w.cell? (x.add i) = some (.int k (zs.getD i 0))) ∧ ∀ n ∈ zs, (Lit.int k n).wf = true

def piecesText : ByteArray := ⟨#[40, 41, 40, 41, 34, 92, 97, 98, 45, 55, 95, 59, 32, 10, 126, 128, 40]⟩
theorem strOfNums_len (a : List Int) : (strOfNums a).size = a.length := by simp [strOfNums, ByteArray.size]
theorem row_cell {w : World} {a : Option Addr} {len cap i : Nat} {zs : List Int} (h : IsRow .i64 w a len cap zs) (hi : i < len) : ∃ x, a = some x ∧ w.cell? (x.add i) = some (.int .i64 (zs.getD i 0)) := by
  rcases h with ⟨_, rfl, _, _⟩ | ⟨x, rfl, h1, _, h2, h3, _⟩
  · omega
  · exact ⟨x, rfl, h3 i (by omega)⟩

set_option maxRecDepth 100000 in
set_option maxHeartbeats 4000000 in
theorem walk (a0 : Option Addr) (len0 cap0 : Nat) (z0 : List Int) (w : World) (w0 : IsRow .i64 w a0 len0 cap0 z0) (hlen : len0 * 8 ≤ 140737488351232) :
    Calls Try.prog 4 #[.slice a0 len0 cap0] w fun e w' => e = .returned (.bool true) ∧ Below w.heap.size w w' := by
  have HW := Lib.hid w0
  have HB := Lib.hid (Below.refl w.heap.size w)
  obtain ⟨i0, hi, hz0, hz1, hz2⟩ := info_parts byte_info
  clear w0
  go_enter Try.func4, Try.ntmps4
  go_wp2_with fail
  go_loopg [3, 4] len0 (fun q bv iv wr => ∃ A C ys i, bv = .slice A (List.length ys) C ∧ iv = .int .i64 ((i : Nat) : Int) ∧ Hid (i ≤ len0 ∧ q = len0 - i ∧ List.length ys = i ∧ Below w.heap.size w wr ∧ wr.ownsRow w.heap.size 5 1 (.slice A (List.length ys) C) (List.length ys) (bytesV ys)))
  case atStart => exact ⟨none, 0, [], 0, rfl, rfl, Nat.zero_le _, rfl, rfl, HB.out, World.ownsRow_nil _ _ _ _⟩
  case round =>
    obtain ⟨A, C, ys, i, rfl, rfl, HR⟩ := hrel
    obtain ⟨r1, r2, r3, r4, r5⟩ := HR.out
    have HQ := Lib.hid r2
    have HL := Lib.hid r3
    have HBW := Lib.hid r4
    have HOWN := Lib.hid r5
    clear HR r2 r3 r4 r5
    by_cases hlt : i < len0
    · obtain ⟨x, rfl, hc⟩ := row_cell HW.out hlt
      have hc' : wr.cell? (x.add i) = some (.int .i64 (z0.getD i 0)) := below_cell HBW.out hc
      obtain ⟨z, hz⟩ : ∃ z, z = z0.getD i 0 := ⟨_, rfl⟩
      rw [← hz] at hc'
      obtain ⟨k, hk⟩ : ∃ k : Nat, z % 17 = (k : Int) := ⟨(z % 17).toNat, by omega⟩
      have hk17 : k < 17 := by omega
      have hk17' : (k : Int) < 17 := by omega
      have hi' : (i : Int) < (len0 : Int) := by omega
      have hi0 : (0 : Int) ≤ (i : Int) := by omega
      have HK := Lib.hid hk
      have hat : ∀ h : k < (⟨#[40, 41, 40, 41, 34, 92, 97, 98, 45, 55, 95, 59, 32, 10, 126, 128, 40]⟩ : ByteArray).size, (((⟨#[40, 41, 40, 41, 34, 92, 97, 98, 45, 55, 95, 59, 32, 10, 126, 128, 40]⟩ : ByteArray)[k]'h).toNat : Int) = bat piecesText k := fun h => bat_at piecesText k h
      clear hc hz hk
      go_wp2_with (first | (go_at_call 13; refine (mod_any _ _ (by decide) (by decide) _).mono ?_; rintro e w' ⟨rfl, rfl⟩; rw [HK.out]) | (at_builtin; refine wpList_append_lies _ rfl (.tmp 15) (.tmp 22) 36 rfl w.heap.size 5 i0 (.int .u8 0) 1 1 Try.underlying36 hi hz0 hz1 hz2 rfl (by omega) (.slice A (List.length ys) C) (List.length ys) (bytesV ys) rfl (by exact HOWN.out.alloc _) ⟨_, 0, none⟩ 1 1 [.int .u8 (bat piecesText k)] rfl rfl (World.news_of_block (cs := #[.int .u8 (bat piecesText k)]) (t := 5) (fr := (0, 0)) (heap_alloc_at _ (by simp))) (by simp [Value.oneCell']) (by omega) (by have := HL.out; simp only [maxLen]; omega) (by have := HL.out; omega) (by have := HBW.out.size; simp; omega) _ rfl ?_; intro g1 cap1 w1 hown2 hgrow hat2 hlt2; have HB1 := Lib.hid ((HBW.out.alloc HBW.out.size (.cells #[.int .u8 (bat piecesText k)] 5)).grown hgrow (by have := HBW.out.size; simp; omega) (fun b hb => (HOWN.out.lt b hb).1))))
      go_roundg (len0 - (i + 1))
      case measure => have := HQ.out; omega
      case rel =>
        refine ⟨some ⟨g1, 0, none⟩, cap1, ys ++ [bat piecesText k], i + 1, by simp, by simp, by omega, rfl, by simp [HL.out], HB1.out, ?_⟩
        rw [List.length_append]
        simpa [bytesV] using hown2
    · have hd : decide ((i : Int) < (len0 : Int)) = false := by simp; omega
      have hcv1 := bytes_string HOWN.out
      obtain ⟨R, h1, h2⟩ := both_any (strOfNums ys) (by rw [strOfNums_len, HL.out]; simp only [maxLen]; omega)
      have H1 := Lib.hid h1
      have H2 := Lib.hid h2
      clear h1 h2
      cases R with
      | fail a b =>
        go_wp2_with (first
          | (go_at_call 8; refine (H1.out _).mono ?_; rintro e w1 ⟨hb1, rfl⟩; have HB1 := Lib.hid hb1; have hx := hb1.alloc hb1.size (.cells #[.int .i64 a, .int .i64 b] 25); have hcv2 := bytes_string (HOWN.out.kept ⟨hx.os, hx.tape, hx.output, hx.size, fun k hk _ => hx.block k hk⟩ (row := none) (by cases (Value.slice A (List.length ys) C).ownBlock <;> simp)); clear hb1 hx)
          | (go_at_call 9; refine (H2.out _).mono ?_; rintro e w2 ⟨hb2, rfl⟩; have HC1 := Lib.hid (show w2.heap[w1.heap.size]? = some (.cells #[.int .i64 a, .int .i64 b] 25 (0, 0)) from (hb2.block _ (by simp)).trans (heap_alloc_new w1 _)); have HB2 := Lib.hid hb2; clear hb2)
          | (go_at_call 10; refine (check_any _).mono ?_; rintro e w3 ⟨rfl, hb3⟩; have hc1 : w3.heap[w1.heap.size]? = some (.cells #[.int .i64 a, .int .i64 b] 25 (0, 0)) := (hb3.block _ (by have := lt_of_block HC1.out; simp; omega)).trans ((Below.heap_alloc _ _ _ (lt_of_block HC1.out)).trans HC1.out); have hc2 : w3.heap[w2.heap.size]? = some (.cells #[.int .i64 a, .int .i64 b] 25 (0, 0)) := (hb3.block _ (by simp)).trans (heap_alloc_new w2 _); have d0 := (cell_of_row _ _ 0 _ _ _ hc1).trans (c := some (.int .i64 a)) rfl; have d1 := (cell_of_row _ _ 1 _ _ _ hc1).trans (c := some (.int .i64 b)) rfl; have d2 := (cell_of_row _ _ 0 _ _ _ hc2).trans (c := some (.int .i64 a)) rfl; have d3 := (cell_of_row _ _ 1 _ _ _ hc2).trans (c := some (.int .i64 b)) rfl; have HB3 := Lib.hid hb3; clear hb3 hc1 hc2)
          | (go_at_call 11; refine (fault_same _ _ _).mono ?_; rintro e w4 ⟨rfl, hb4⟩; have HB4 := Lib.hid hb4; clear hb4 d0 d1 d2 d3)
          | (go_at_call 12; refine (same_any _ [] (Nat.le_refl _) _ (fun _ => True) (fun _ => True) _ _ _ _ _ _ (Rd.nil _ _) (Rd.nil _ _)).mono ?_; rintro e w5 ⟨rfl, nq, rfl⟩))
        go_ret
        have x1 := below_call HBW.out HB1.out
        have x2 := below_call (x1.alloc x1.size _) HB2.out
        have x3 := below_call (x2.alloc x2.size _) HB3.out
        have x4 := below_call x3 HB4.out
        exact ⟨rfl, below_drewN' x4 _⟩
      | ok l =>
        go_wp2_with (first
          | (go_at_call 8; refine (H1.out _).mono ?_; rintro e w1 ⟨hb1, A1, n1, c1, rfl, hr1⟩; have HB1 := Lib.hid hb1; have HR1 := Lib.hid hr1; clear hr1; have hx := hb1.alloc hb1.size (.cells #[.int .i64 0, .int .i64 0] 25); have hcv2 := bytes_string (HOWN.out.kept ⟨hx.os, hx.tape, hx.output, hx.size, fun k hk _ => hx.block k hk⟩ (row := none) (by cases (Value.slice A (List.length ys) C).ownBlock <;> simp)); clear hb1 hx)
          | (go_at_call 9; refine (H2.out _).mono ?_; rintro e w2 ⟨hb2, A2, n2, c2, rfl, hr2⟩; have HR2 := Lib.hid hr2; clear hr2; have HC1 := Lib.hid (show w2.heap[w1.heap.size]? = some (.cells #[.int .i64 0, .int .i64 0] 25 (0, 0)) from (hb2.block _ (by simp)).trans (heap_alloc_new w1 _)); have HB2 := Lib.hid hb2; clear hb2)
          | (go_at_call 10; refine (check_any _).mono ?_; rintro e w3 ⟨rfl, hb3⟩; have hc1 : w3.heap[w1.heap.size]? = some (.cells #[.int .i64 0, .int .i64 0] 25 (0, 0)) := (hb3.block _ (by have := lt_of_block HC1.out; simp; omega)).trans ((Below.heap_alloc _ _ _ (lt_of_block HC1.out)).trans HC1.out); have hc2 : w3.heap[w2.heap.size]? = some (.cells #[.int .i64 0, .int .i64 0] 25 (0, 0)) := (hb3.block _ (by simp)).trans (heap_alloc_new w2 _); have d0 := (cell_of_row _ _ 0 _ _ _ hc1).trans (c := some (.int .i64 0)) rfl; have d1 := (cell_of_row _ _ 1 _ _ _ hc1).trans (c := some (.int .i64 0)) rfl; have d2 := (cell_of_row _ _ 0 _ _ _ hc2).trans (c := some (.int .i64 0)) rfl; have d3 := (cell_of_row _ _ 1 _ _ _ hc2).trans (c := some (.int .i64 0)) rfl; have HB3 := Lib.hid hb3; clear hb3 hc1 hc2)
          | (go_at_call 11; refine (fault_same _ _ _).mono ?_; rintro e w4 ⟨rfl, hb4⟩; have HB4 := Lib.hid hb4; clear hb4 d0 d1 d2 d3)
          | (go_at_call 12; refine (same_any _ l (Nat.le_refl _) _ _ _ _ _ _ _ _ _ (((((HR1.out.alloc _).bl HB2.out).alloc _).bl HB3.out).bl HB4.out) (((HR2.out.alloc _).bl HB3.out).bl HB4.out)).mono ?_; rintro e w5 ⟨rfl, nq, rfl⟩))
        go_ret
        have x1 := below_call HBW.out HB1.out
        have x2 := below_call (x1.alloc x1.size _) HB2.out
        have x3 := below_call (x2.alloc x2.size _) HB3.out
        have x4 := below_call x3 HB4.out
        exact ⟨rfl, below_drewN' x4 _⟩

/-! ### THE ROW's STEP: WRITTEN OUT: LEAVE IT -/
set_option maxRecDepth 100000 in
theorem lifted (os : Os) (started : os.Started) (H : Type) (enc : TypeId × Value → H) :
    ReturnsInHanded {} Try.checked os 4 .any (Rows.sexprPiecesSpec.pre6 enc Try.prog Try.f4 Rows.sexprPiecesRow.domain false) (Rows.sexprPiecesSpec.post enc Try.prog Try.f4 false true false false) := by
  refine returnsInHanded_of_change_sized (C := Try.checked) own started (by kernel_rfl) Try.func4
    (ChangeSpec.witness6 (enc := enc) (C := Try.checked) false ⟨#[], #[.slice none 0 0], []⟩ 8 (by kernel_rfl) (by kernel_rfl) (by kernel_rfl) (by kernel_rfl)) ?_
  intro W base args ds gs before hval0 hW hcnd hsz0 _
  have hval : ∀ (j : Nat) t v, Try.f4.params[j]? = some t → args[j]? = some v → Value.okWide Try.prog W .any base t v := hval0
  have hW' := hW
  obtain ⟨p, q, hA0, hV, rfl, hfz, hnd⟩ := hW
  have hA : DataW.TrodAll enc Try.prog W 0 (fun _ => true) true Try.f4.params.toList args.toList ds p := hA0
  have hsz : (DataW.weightsEach Try.prog (Try.f4.params.toList ++ Rows.sexprPiecesSpec.plain.varTypes Try.prog) (ds ++ gs)).all (· ≤ reachBytes) = true := hsz0
  rw [Try.params4] at hA hval hsz
  obtain ⟨v0, vs0, d0, ds0, p0, q0, hargs, rfl, rfl, h0, r0⟩ := trodAll_cons hA
  obtain ⟨rfl, rfl, rfl⟩ := trodAll_nil r0
  obtain rfl : args = #[v0] := by cases args; simp_all
  obtain ⟨rfl, rfl⟩ := trodVars_none hV
  obtain ⟨a0, len0, cap0, rfl⟩ := okWide_slice Try.underlying35 (hval 0 35 v0 rfl rfl)
  have k0 := h0
  have lt0 : ∀ x ∈ p0, x.block < W.heap.size := by obtain ⟨m, hm⟩ := k0; exact DataW.trod_lt m _ _ _ hm
  obtain ⟨z0, w0, hlen⟩ : ∃ zs, IsRow .i64 W a0 len0 cap0 zs ∧ len0 * 8 ≤ 140737488351232 := by
    obtain ⟨fuel, hf⟩ := h0
    rcases open_ints Try.underlying35 Try.underlying3 (by kernel_rfl) hf with ⟨hcs, _⟩ | ⟨x, l, c, zs, hcs, _, hl, hm, hz, hx, hcell, hwz⟩
    · simp [Value.cells] at hcs
      obtain ⟨rfl, rfl, rfl⟩ := hcs
      exact ⟨[], .inl ⟨rfl, rfl, rfl, rfl⟩, by omega⟩
    · simp [Value.cells] at hcs
      obtain ⟨rfl, rfl, rfl⟩ := hcs
      refine ⟨zs, .inr ⟨_, rfl, hl, hm, by simpa using hz, hcell, hwz⟩, ?_⟩
      have hd := congrArg Prod.fst hx
      simp only at hd
      subst hd
      have h8 := sized_slice hsz (j := 0) (t := 35) (e := 3) rfl rfl Try.underlying35
      rw [bytes8] at h8
      simp only [lits, List.length_map, List.length_take, List.length_drop, reachBytes] at h8
      have hz' : zs.length = cap0 := by simpa using hz
      omega
  clear hA0 hval0
  refine (walk a0 len0 cap0 z0 W w0 hlen).mono fun e W' ⟨he, bel⟩ => ?_
  subst he
  exact ⟨_, rfl, _, _, _, [], _, [], hW', trodAll_mk1 (shut_bool Try.underlying4 _), (trodAll_cons_mk (Below.trod laidOut (by kernel_rfl) (of_decide_eq_true (by kernel_rfl)) k0 bel lt0) trodAll_mk0), rfl, bel.frame _, fun h => by cases h⟩

theorem over : Rows.sexprPiecesRow.holds Try.pinned (OpenSpec.ofChange Rows.sexprPiecesSpec) :=
  OpenClaim.holds_of_wide 4 Try.f4 rfl rfl rfl rfl rfl rfl rfl ⟨rfl, rfl, rfl, rfl, rfl⟩ rfl rfl rfl rfl rfl (by kernel_rfl) Try.func4 (by kernel_rfl)
    (of_decide_eq_true (by kernel_rfl)) (by unfold Func.isWrapper; first | (rw [if_pos (by decide +kernel)]; kernel_rfl) | (rw [if_neg (by decide +kernel)]; exact ⟨rfl, rfl⟩))
    (fun os started H enc _ => lifted os started H enc)

/-- ████ THE STATEMENT ████ -/
theorem proved : Rows.SexprPiecesSaid := over
end Go.Proofs.Ytoepnohmhpdeiaa.sexprPieces
