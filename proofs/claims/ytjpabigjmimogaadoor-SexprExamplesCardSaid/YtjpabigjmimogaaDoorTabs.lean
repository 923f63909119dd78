/- The listed variables: what the walks are told of them; streams over slices that came in. -/
import Derived.Test.YtjpabigjmimogaaDoorRows
import Derived.Test.YtjpabigjmimogaaDoorAny
import Derived.LaidMore
import Derived.MakeChecks
import Derived.ProofKit
import Derived.OpenShut
set_option linter.unusedVariables false
set_option linter.unusedSimpArgs false
namespace Go.Proofs.YtjpabigjmimogaaDoor
open Go.RowKit Go.ChangeShapes Go.WideShapes Go.ChangeAt

theorem tab_of {P : Program} {W : World} {name : String} {g : Nat} {t e : TypeId} {fuel : Nat} {cs : Array Value} {p : List MemPlace} (hn : P.globalNamed name = some g) (ht : P.underlying t = some (.slice e)) (he : P.underlying e = some .string) (hc : P.cellsOf e = 1)
    (hv : W.var? P name = some cs) (l : List ByteArray) (hl : 0 < l.length) (hd : DataW.trod (fun _ => ()) P W 0 (fun _ => true) false fuel t cs.toList = some (.slice (l.map fun s => .lit (.string s.data.toList)) [], p)) : Tab W W.heap.size g l := by
  obtain ⟨a, cap, hcs, hle, hel⟩ := open_row ht hc hd
  rw [List.length_map] at hcs
  have hcell : W.cell? ⟨g, 0, none⟩ = some (.slice (some a) l.length cap) := by
    have := World.var?_cell hn hv 0
    rw [Array.eq_one_of_toList hcs] at this
    simpa using this
  have hat : ∀ j, j < l.length → W.cell? (a.add j) = some (.string (l.getD j ⟨#[]⟩)) := fun j hj => by
    obtain ⟨v, n, q, h1, h2⟩ := hel j (.lit (.string l[j].data.toList)) (by simp [hj])
    obtain ⟨s, h3, h4, _⟩ := DataW.trod_string he h2
    simp only [Prod.mk.injEq, DataW.lit.injEq, Lit.string.injEq] at h4
    have hs : s = l[j] := ByteArray.ext (Array.toList_inj.1 h4.1.symm)
    have hvs : v = .string s := by simpa using h3
    rw [h1, hvs, hs, List.getD_eq_getElem?_getD, List.getElem?_eq_getElem hj]
    rfl
  obtain ⟨b, off, spot⟩ := a
  have hspot : spot = none := by simpa [Addr.add] using World.cell?_spot (hat 0 hl)
  subst hspot
  have h0 := hat 0 hl
  refine ⟨b, off, cap, hcell, World.block_lt_of_cell? W _ hcell, ?_, fun j hj => ?_⟩
  · have := World.block_lt_of_cell? W _ h0
    rwa [add_block] at this
  · rw [← Go.WideShapes.add_plain]; exact hat j hj

theorem gWords : Tryd.prog.globalNamed "telpher/telmake.words" = some 2 := by kernel_rfl
theorem gStrings : Tryd.prog.globalNamed "telpher/telmake.strings" = some 1 := by kernel_rfl
theorem tWords : (Tryd.prog.globals[2]?).map (·.type) = some 41 := by kernel_rfl
theorem tStrings : (Tryd.prog.globals[1]?).map (·.type) = some 41 := by kernel_rfl
theorem cellsString : Tryd.prog.cellsOf 9 = 1 := by kernel_rfl
def laid2 : List (String × DataW Unit) := [("telpher/telmake.words", Rows.laid_telpher_telmake_words), ("telpher/telmake.strings", Rows.laid_telpher_telmake_strings)]
theorem tabs_of_laid {W : World} (h : laidMetH Tryd.prog laid2 W) : Tab W W.heap.size 2 wordsL ∧ Tab W W.heap.size 1 strsL := by
  rw [MakeChecks.laidMetH_plain _ _ _ (by kernel_rfl)] at h
  obtain ⟨ps, ⟨g0, t0, cs0, f0, p0, q0, hg0, ht0, hv0, hd0, ⟨g1, t1, cs1, f1, p1, q1, hg1, ht1, hv1, hd1, _, _⟩, _⟩, _, _⟩ := h
  obtain rfl := Option.some.inj (gWords.symm.trans hg0)
  obtain rfl := Option.some.inj (gStrings.symm.trans hg1)
  obtain rfl := Option.some.inj (tWords.symm.trans ht0)
  obtain rfl := Option.some.inj (tStrings.symm.trans ht1)
  exact ⟨tab_of hg0 Tryd.underlying41 Tryd.underlying9 cellsString hv0 wordsL (by decide) hd0, tab_of hg1 Tryd.underlying41 Tryd.underlying9 cellsString hv1 strsL (by decide) hd1⟩
theorem gSeps : Tryd.prog.globalNamed "telpher/tellaw1.separators" = some 0 := by kernel_rfl
theorem tSeps : (Tryd.prog.globals[0]?).map (·.type) = some 41 := by kernel_rfl

/-- The start of the door's own run meets the condition. -/
theorem door_met (os : Os) (args : Array Value) : laidMetH Tryd.prog laid2 ((World.doorLaid Tryd.prog 77 os).forCall (fun _ _ => 0) ⟨#[], args, []⟩).memory :=
  laidMetH_of_parts3 (fuel := 8) (laidMet_of_run' 8 (by kernel_rfl) (by kernel_rfl)) (by kernel_rfl) (by kernel_rfl)

/-- A stream made over a slice that came in. -/
theorem st_new {w w3 : World} {A : Option Addr} {n c : Nat} {zs : List Int} (h : IsRow .i64 w A n c zs) (hb : Below w.heap.size w w3) :
    Stm (w3.alloc (.cells #[.slice A n c, .int .i64 0] 64)) w.heap.size w3.heap.size := by
  have hm : n ≤ maxLen := by
    rcases h with ⟨_, rfl, _, _⟩ | ⟨x, rfl, h1, h2, _⟩
    · exact Nat.zero_le _
    · omega
  refine ⟨A, n, c, fun i => zs.getD i 0, 0, hb.size, heap_alloc_new w3 _, Nat.zero_le _, hm, fun i hi => ?_⟩
  obtain ⟨x, hx, hc⟩ := row_cell h hi
  have hlt : x.block < w.heap.size := by have := World.block_lt_of_cell? w _ hc; rwa [add_block] at this
  refine ⟨x, hx, hlt, ?_⟩
  rw [World.cell?_alloc_lt _ _ _ (by rw [add_block]; have := hb.size; omega)]
  exact (hb.cell (p := x.add i) (by rw [add_block]; exact hlt)).trans hc
theorem below_g {B g : Nat} {w w1 w2 : World} (h : Below B w w1) (k : Kp w1 w2 fun b => b = g) (hg : B ≤ g) (hB : B ≤ w.heap.size) : Below B w w2 :=
  ⟨k.os.trans h.os, k.tape.trans h.tape, k.output.trans h.output, Nat.le_trans h.size k.size, fun b hb => (k.block b (by have := h.size; omega) (by omega)).trans (h.block b hb)⟩
theorem Tab.bl {w w3 : World} {vi : Nat} {l : List ByteArray} (h : Tab w w.heap.size vi l) (hb : Below w.heap.size w w3) : Tab w3 w.heap.size vi l := h.kp (Kp.of_below hb fun _ => False) (fun _ _ h => h)
/-- A slice of one node, in a block of its own. -/
theorem rd_single {w : World} {T : Nat} {x : Nd} {kv : Value} {ok : Nat → Prop} (hx : Rd w ok kv (.sl T 4 (ndsTr T x.kids))) :
    Rd (w.alloc (.cells #[.int .i64 x.kind, .string x.text, kv, .int .i64 x.off] T (0, 0))) (fun b => ok b ∨ b = w.heap.size) (.slice (some ⟨w.heap.size, 0, none⟩) 1 1) (.sl T 4 (ndsTr T [x])) := by
  refine .row _ 0 1 1 T 4 #[.int .i64 x.kind, .string x.text, kv, .int .i64 x.off] (0, 0) [.int .i64 x.kind, .string x.text, kv, .int .i64 x.off] _ (.inr rfl) (heap_alloc_new w _) (by omega) (by decide) (by rw [ndsTr_length]; rfl) rfl (fun j hj => by simp) (fun j v e hv he => ?_)
  rw [ndsTr_one, Nd.tr_eq] at he
  match j with
  | 0 => simp at hv he; subst hv he; exact .sc _
  | 1 => simp at hv he; subst hv he; exact .sc _
  | 2 => simp at hv he; subst hv he; exact (hx.alloc _).mono (fun b hb _ => .inl hb)
  | 3 => simp at hv he; subst hv he; exact .sc _
  | j + 4 => simp at hv
end Go.Proofs.YtjpabigjmimogaaDoor
