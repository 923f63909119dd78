/- The writing methods of strings.Builder at this translation (copyCheck refuses where the kit's body panics, so the kit's own contracts do not lie here; the proofs are the kit's, turned). -/
import Derived.Test.YtjpabigjmimogaaDoorShelf2
import Derived.Test.YtjpabigjmimogaaDoorFmt
import Derived.Shelf.Strings.BuilderK
set_option linter.unusedVariables false
set_option linter.unusedSimpArgs false
namespace Go.Proofs.YtjpabigjmimogaaDoor
open Go.RowKit
attribute [local go_sem ↓] Go.wp_at_zero Go.wp_at_succ

theorem builder_info : (Tryd.prog.info? 71).map (·.size) = some 2 := by kernel_rfl
theorem builder_lies : liesAt Tryd.prog Tryd.prog.depth 71 (2 / Tryd.prog.cellsOf 71) 0 71 1 = true := by kernel_rfl
set_option maxRecDepth 100000 in
theorem copyCheck_used (b : Nat) (w : World) (h0 : w.cell? ⟨b, 0, none⟩ = some (.pointer (some ⟨b, 0, none⟩))) :
    Calls Tryd.prog 65 #[.pointer (some ⟨b, 0, none⟩)] w fun e w' => e = .returned (.tuple #[]) ∧ w' = w := by
  obtain ⟨j, hj, hjs⟩ := Option.map_eq_some_iff.1 builder_info
  go_enter Tryd.func65, Tryd.ntmps65
  go_wp2
  rw [Lib.run_neq_ptr_same w _ Tryd.underlying68 hj]
  go_wp2
  go_end0
  exact ⟨rfl, rfl⟩
set_option maxRecDepth 100000 in
theorem copyCheck_fresh (b : Nat) (w : World) (h0 : w.cell? ⟨b, 0, none⟩ = some (.pointer none)) (hsh : w.shape? b = some (71, 2)) (hfz : w.frozen? ⟨b, 0, none⟩ = false) :
    Calls Tryd.prog 65 #[.pointer (some ⟨b, 0, none⟩)] w fun e w' => e = .returned (.tuple #[]) ∧ w' = w.setCell ⟨b, 0, none⟩ (.pointer (some ⟨b, 0, none⟩)) := by
  obtain ⟨j, hj, hjs⟩ := Option.map_eq_some_iff.1 builder_info
  go_enter Tryd.func65, Tryd.ntmps65
  go_wp2
  rw [Lib.run_to_unsafe w ⟨b, 0, none⟩ Tryd.underlying68 Tryd.underlying102 hj (by rw [hjs]; decide) hsh (Nat.zero_lt_succ 1)]
  simp only [Result.andThen]
  rw [Oper.upon_value]
  go_wp2
  rw [run_callFunc_extern Tryd.func73 (by kernel_rfl) (by kernel_rfl) (by kernel_rfl) (e := Extern.AbiNoEscape.same) (by kernel_rfl)]
  rw [Lib.run_noEscape]
  simp only [Result.andThen]
  rw [Oper.upon_value]
  go_wp2
  rw [Lib.run_from_unsafe w ⟨b, 0, none⟩ Tryd.underlying102 Tryd.underlying68 hj hsh builder_lies]
  simp only [Result.andThen]
  rw [Oper.upon_value]
  go_wp2
  go_end0
  exact ⟨rfl, rfl⟩
/-- A builder at b that holds the bytes L; its buffer lies from B on. -/
def Bl (w : World) (B b : Nat) (L : List Int) : Prop := Lib.IsBuilderF 71 5 B b (bytesV L) w
/-- What a writing method leaves. -/
def Wr (B b : Nat) (L : List Int) (w w' : World) : Prop := Bl w' B b L ∧ Below B w w' ∧ Lib.OthersKept 5 (some b) w w'
theorem copyCheck_any (B b : Nat) (bs : List Value) (w : World) (h : Lib.IsBuilderF 71 5 B b bs w) :
    Calls Tryd.prog 65 #[.pointer (some ⟨b, 0, none⟩)] w fun e w' => e = .returned (.tuple #[]) ∧ (Lib.BuilderAtF 71 5 B b (.pointer (some ⟨b, 0, none⟩)) bs w' ∧ Below B w w' ∧ Lib.OthersKept 5 (some b) w w') := by
  rcases h with h | h
  · refine (copyCheck_fresh b w h.cell0 h.shape h.frozen0).mono ?_
    rintro e w' ⟨rfl, rfl⟩
    exact ⟨rfl, h.used _, (Below.refl B w).setCell (p := ⟨b, 0, none⟩) h.1 _, (Lib.OthersKept.refl _ _ w).setCell ⟨b, 0, none⟩ rfl _⟩
  · refine (copyCheck_used b w h.cell0).mono ?_
    rintro e w' ⟨rfl, rfl⟩
    exact ⟨rfl, h, Below.refl B _, Lib.OthersKept.refl _ _ _⟩
theorem own_len {w : World} {B e : Nat} {v : Value} {n : Nat} {xs : List Value} (h : w.ownsRowF B e 1 v n xs) : xs.length = n := by simpa using h.1
theorem put_facts {w1 w2 : World} {b : Nat} {p v : Value} (hbk : w1.heap[b]? = some (.cells #[p, v] 71 (0, 0))) (hg : w1.grownBy w2 v.ownBlock) (hne : v.ownBlock ≠ some b) (hlt : b < w1.heap.size) :
    w2.heap[b]? = some (.cells #[p, v] 71 (0, 0)) ∧ w2.cell? ⟨b, 0, none⟩ = some p ∧ w2.cell? ⟨b, 1, none⟩ = some v ∧ w2.frozen? ⟨b, 1, none⟩ = false := by
  have hb2 : w2.heap[b]? = some (.cells #[p, v] 71 (0, 0)) := (hg.block b hlt (fun e => hne e.symm)).trans hbk
  exact ⟨hb2, by rw [Lib.cell_of_heap hb2]; rfl, by rw [Lib.cell_of_heap hb2]; rfl, Lib.frozen_of_heap hb2 1⟩
theorem slice_own {w : World} {B e : Nat} {v : Value} {n : Nat} {xs : List Value} (h : w.ownsRowF B e 1 v n xs) : ∃ ao n' cap, v = .slice ao n' cap := by
  rcases h.2 with ⟨hv, _⟩ | ⟨g, cap, cur, fz, hv, _⟩
  · exact ⟨_, _, _, hv⟩
  · exact ⟨_, _, _, hv⟩
set_option maxHeartbeats 2000000 in
set_option maxRecDepth 100000 in
theorem writeByte_any (B b : Nat) (L : List Int) (c : Int) (w : World) (h : Bl w B b L) (hlen : L.length + 1 ≤ 1000000) (hBw : B ≤ w.heap.size) :
    Calls Tryd.prog 58 #[.pointer (some ⟨b, 0, none⟩), .int .u8 c] w fun e w' => e = .returned .nilIface ∧ Wr B b (L ++ [c]) w w' := by
  obtain ⟨i0, hi, hz0, hz1, hz2⟩ := info_parts byte_info
  have h0 : Lib.IsBuilderF 71 5 B b (bytesV L) w := h
  clear h
  have hbl : (bytesV L).length = L.length := by simp [bytesV]
  obtain ⟨N, hN⟩ : ∃ N, N = L.length := ⟨_, rfl⟩
  have HN := Lib.hid hN
  rw [← hN] at hbl hlen
  clear hN
  go_enter Tryd.func58, Tryd.ntmps58
  go_wp2_with (first | (at_builtin; refine wpList_append_ownF _ rfl _ _ 69 rfl B 5 i0 (.int .u8 0) 1 1 Tryd.underlying69 hi hz0 hz1 hz2 rfl (by decide) _ _ _ rfl (hown.alloc _) ⟨w1.heap.size, 0, none⟩ 1 1 [.int .u8 c] rfl rfl (World.news_of_block (cs := #[.int .u8 c]) (t := 5) (fr := (0, 0)) (heap_alloc_new w1 _)) (by simp [Value.oneCell']) (by simp only [maxLen]; omega) (by omega) (by have := hb1.size; simp; omega) ?_; intro v' w2 hown' hgrow _; have hfx := put_facts (w1 := w1.alloc _) (blk_al hbk) hgrow hne (by simp; omega); obtain ⟨hb2, d0, d1, f1⟩ := hfx; obtain ⟨ao, n', cap, rfl⟩ := slice_own hown') | (go_at_call 65; (with_reducible refine (copyCheck_any B b (bytesV L) _ h0).mono ?_); rintro e w1 ⟨rfl, h1, hb1, hk1⟩; obtain ⟨hB, v, hbk, hown, hne⟩ := h1; have c0 : w1.cell? ⟨b, 0, none⟩ = some (.pointer (some ⟨b, 0, none⟩)) := (by rw [Lib.cell_of_heap hbk]; rfl); have c1 : w1.cell? ⟨b, 1, none⟩ = some v := (by rw [Lib.cell_of_heap hbk]; rfl); have hlt := lt_of_block hbk))
  go_ret
  refine ⟨rfl, ?_, ?_, ((hk1.alloc _).grown hgrow (Lib.ownsRowF_kind (hown.alloc _))).setCell ⟨b, 1, none⟩ rfl _⟩
  · refine .inr (Lib.BuilderAtF.put (T := 71) (e := 5) hB hb2 (bs' := bytesV (L ++ [c])) ?_ (by decide))
    have hbs : bytesV (L ++ [c]) = bytesV L ++ [.int .u8 c] := by simp [bytesV]
    rw [hbs]
    simpa using hown'
  · exact ((hb1.alloc (by have := hb1.size; omega) _).grown hgrow (by have := hb1.size; simp; omega) (fun k hk => (hown.lt k hk).1)).setCell (p := ⟨b, 1, none⟩) hB _
theorem nums_cells (s : ByteArray) : Lib.strCells s = bytesV (nums s) := by simp [Lib.strCells, bytesV, nums]
set_option maxHeartbeats 2000000 in
set_option maxRecDepth 100000 in
theorem writeString_any (B b : Nat) (L : List Int) (s : ByteArray) (w : World) (h : Bl w B b L) (hlen : L.length + s.size ≤ 1000000) (hBw : B ≤ w.heap.size) :
    Calls Tryd.prog 57 #[.pointer (some ⟨b, 0, none⟩), .string s] w fun e w' => e = .returned (.tuple #[.int .i64 s.size, .nilIface]) ∧ Wr B b (L ++ nums s) w w' := by
  obtain ⟨i0, hi, hz0, hz1, hz2⟩ := info_parts byte_info
  have h0 : Lib.IsBuilderF 71 5 B b (bytesV L) w := h
  clear h
  have hbl : (bytesV L).length = L.length := by simp [bytesV]
  obtain ⟨N, hN⟩ : ∃ N, N = L.length := ⟨_, rfl⟩
  have HN := Lib.hid hN
  rw [← hN] at hbl hlen
  clear hN
  go_enter Tryd.func57, Tryd.ntmps57
  go_wp2_with (first | (at_builtin; refine Lib.wpList_append_own_stringF _ rfl _ _ 69 9 rfl B 5 i0 Tryd.underlying69 Tryd.underlying9 hi hz0 hz1 hz2 _ _ _ rfl hown s rfl (by simp only [maxLen]; omega) (by omega) (by have := hb1.size; omega) ?_; intro v' w2 hown' hgrow _; have hfx := put_facts hbk hgrow hne hlt; obtain ⟨hb2, d0, d1, f1⟩ := hfx; obtain ⟨ao, n', cap, rfl⟩ := slice_own hown') | (go_at_call 65; (with_reducible refine (copyCheck_any B b (bytesV L) _ h0).mono ?_); rintro e w1 ⟨rfl, h1, hb1, hk1⟩; obtain ⟨hB, v, hbk, hown, hne⟩ := h1; have c0 : w1.cell? ⟨b, 0, none⟩ = some (.pointer (some ⟨b, 0, none⟩)) := (by rw [Lib.cell_of_heap hbk]; rfl); have c1 : w1.cell? ⟨b, 1, none⟩ = some v := (by rw [Lib.cell_of_heap hbk]; rfl); have hlt := lt_of_block hbk))
  go_ret2
  refine ⟨rfl, ?_, ?_, (hk1.grown hgrow (Lib.ownsRowF_kind hown)).setCell ⟨b, 1, none⟩ rfl _⟩
  · refine .inr (Lib.BuilderAtF.put (T := 71) (e := 5) hB hb2 (bs' := bytesV (L ++ nums s)) ?_ (by decide))
    have hbs : bytesV (L ++ nums s) = bytesV L ++ Lib.strCells s := by rw [nums_cells]; simp [bytesV]
    rw [hbs]
    simpa [Lib.strCells_length] using hown'
  · exact (hb1.grown hgrow (by have := hb1.size; omega) (fun k hk => (hown.lt k hk).1)).setCell (p := ⟨b, 1, none⟩) hB _
/-- What the builder holds, read. -/
theorem builder_string {B b : Nat} {L : List Int} {w : World} (h : Bl w B b L) (hr : ∀ c ∈ L, 0 ≤ c ∧ c ≤ 255) (hB : B ≤ w.heap.size) :
    Calls Tryd.prog 38 #[.pointer (some ⟨b, 0, none⟩)] w fun e w' => e = .returned (.string (strOfNums L)) ∧ Below B w w' := by
  have hbs : bytesV L = Lib.byteCells (L.map fun c => UInt8.ofNat c.toNat) := by
    simp only [bytesV, Lib.byteCells, List.map_map]
    refine List.map_congr_left fun c hc => ?_
    have := hr c hc
    have h2 : (UInt8.ofNat c.toNat).toNat = c.toNat := by
      simp only [UInt8.toNat_ofNat']
      omega
    simp only [Function.comp, h2]
    congr 1
    omega
  refine (Tryd.Builder_String_any_f B b _ w (by rw [Bl, hbs] at h; exact h) hB).mono ?_
  rintro e w' ⟨rfl, -, hb⟩
  exact ⟨rfl, hb⟩
end Go.Proofs.YtjpabigjmimogaaDoor
