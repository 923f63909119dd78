/- (*parser).add: a node is added to the innermost open list. -/
import Derived.Test.YtjpabigjmimogaaDoorChars
import Derived.Test.YtjpabigjmimogaaDoorPInv
import Derived.Deep.RegionLaw
import Derived.Deep.DrawnRows
set_option linter.unusedVariables false
set_option linter.unusedSimpArgs false
namespace Go.Proofs.YtjpabigjmimogaaDoor
open Go.RowKit
attribute [local go_sem ↓] Go.wp_at_zero Go.wp_at_succ

theorem node_info : (Tryd.prog.info? 39).map (fun i => (i.zero, i.size, i.bytes)) = some (some (.agg #[.int .i64 0, .string ⟨#[]⟩, .slice none 0 0, .int .i64 0]), 4, 56) := by kernel_rfl

theorem far_new {w w1 w2 : World} {g o b0 m : Nat} {v u : Value} (hat : v.ownBlock = some g ∨ g = w.heap.size + 1) (hne : v.ownBlock ≠ some o) (hne0 : v.ownBlock ≠ some b0) (ho : o < w.heap.size) (hb : b0 < w.heap.size) (x : Obj)
    (hw2 : w2.heap = w.heap.push x) (hg : w2.grownBy w1 v.ownBlock) (hc : w.cell? ⟨o, m, none⟩ = some u) (hf : w.frozen? ⟨o, m, none⟩ = false) : ¬ g = o ∧ ¬ g = b0 ∧ w1.cell? ⟨o, m, none⟩ = some u ∧ w1.frozen? ⟨o, m, none⟩ = false := by
  have hs : w2.heap.size = w.heap.size + 1 := by rw [hw2]; simp
  have hk : ∀ k, k < w.heap.size → w2.heap[k]? = w.heap[k]? := fun k hk => by rw [hw2, Array.getElem?_push, if_neg (by omega)]
  refine ⟨?_, ?_, ?_, ?_⟩
  · rintro rfl
    rcases hat with hat | hat
    · exact hne hat
    · omega
  · rintro rfl
    rcases hat with hat | hat
    · exact hne0 hat
    · omega
  · rw [hg.cell_far _ (by rw [hs]; show o < _; omega) (Ne.symm hne)]
    exact (World.cell?_of_block (hk o ho)).trans hc
  · rw [hg.frozen_far _ (by rw [hs]; show o < _; omega) (Ne.symm hne)]
    exact (World.frozen?_of_block (hk o ho)).trans hf

section
variable {w w1 : World} {base g o cap g1 cap1 m K : Nat} {src : ByteArray} {pos : Nat} {pre : List Fr} {top : Fr} {vpre : List Value} {v : Value} {xs : List Value} {x : Nd} {kv z0 z1 z2 z3 : Value}

def AddPost (w : World) (base g o cap : Nat) (src : ByteArray) (pos : Nat) (fs : List Fr) (vpre : List Value) (w' : World) : Prop :=
  (∃ v', PInv 39 67 w' base g o cap src pos fs (vpre ++ [v'])) ∧ Below base w w'

theorem stores_a {w1 : World} {base T g o K cap i : Nat} {xs : List Value} {z0 z1 z2 z3 a b c d u : Value} {cs : Array Value}
    (hown : w1.ownsRow base T 4 (.slice (some ⟨g, 0, none⟩) (K + 1) cap) (K + 1) (xs ++ [z0, z1, z2, z3])) (hl : xs.length = K * 4) (hgo : g ≠ o) (hc : w1.heap[o]? = some (.cells cs T (0, 0)))
    (w2 w' : World) (h2 : w2 = w1.setCell ⟨o, i, none⟩ u) (h' : w' = (((w2.setCell ⟨g, K * 4, none⟩ a).setCell ⟨g, K * 4 + 1, none⟩ b).setCell ⟨g, K * 4 + 2, none⟩ c).setCell ⟨g, K * 4 + 3, none⟩ d) :
    w'.ownsRow base T 4 (.slice (some ⟨g, 0, none⟩) (K + 1) cap) (K + 1) (xs ++ [a, b, c, d]) ∧ w'.heap[o]? = some (.cells (cs.setIfInBounds i u) T (0, 0)) ∧
      (∀ k, k ≠ g → k ≠ o → w'.heap[k]? = w1.heap[k]?) ∧ w'.os = w1.os ∧ w'.tape = w1.tape ∧ w'.output = w1.output ∧ w'.heap.size = w1.heap.size := by
  have e1 := after1 w1 ⟨o, i, none⟩ u
  have f1 : w2.heap[o]? = some (.cells (cs.setIfInBounds i u) T (0, 0)) := by rw [h2]; exact blk_set hc i u
  have f2 : ∀ k, k ≠ o → w2.heap[k]? = w1.heap[k]? := fun k hk => by rw [h2]; exact blk_far rfl hk _
  have o1 : w2.ownsRow base T 4 (.slice (some ⟨g, 0, none⟩) (K + 1) cap) (K + 1) (xs ++ [z0, z1, z2, z3]) := by
    rw [h2]
    exact ownsRow_setCell_other hown (by simpa [Value.ownBlock] using hgo) _
  rw [← h2] at e1
  clear h2 hown
  have e2 := after4 w2 g (K * 4) a b c d
  have o2 := node_stored o1 hl a b c d
  have f3 : ∀ k, k ≠ g → w'.heap[k]? = w2.heap[k]? := fun k hk => by rw [h']; exact far4 w2 g (K * 4) k hk a b c d
  rw [← h'] at o2
  simp only [← h'] at e2
  exact ⟨o2, (f3 o (Ne.symm hgo)).trans f1, fun k h1 h2 => (f3 k h1).trans (f2 k h2), e2.1.trans e1.1, e2.2.1.trans e1.2.1, e2.2.2.1.trans e1.2.2.1, e2.2.2.2.trans e1.2.2.2⟩
theorem stores_b {w1 : World} {base T g o K cap i : Nat} {xs : List Value} {z0 z1 z2 z3 a b c d u : Value} {cs : Array Value}
    (hown : w1.ownsRow base T 4 (.slice (some ⟨g, 0, none⟩) (K + 1) cap) (K + 1) (xs ++ [z0, z1, z2, z3])) (hl : xs.length = K * 4) (hgo : g ≠ o) (hc : w1.heap[o]? = some (.cells cs T (0, 0)))
    (w2 w' : World) (h2 : w2 = (((w1.setCell ⟨g, K * 4, none⟩ a).setCell ⟨g, K * 4 + 1, none⟩ b).setCell ⟨g, K * 4 + 2, none⟩ c).setCell ⟨g, K * 4 + 3, none⟩ d) (h' : w' = w2.setCell ⟨o, i, none⟩ u) :
    w'.ownsRow base T 4 (.slice (some ⟨g, 0, none⟩) (K + 1) cap) (K + 1) (xs ++ [a, b, c, d]) ∧ w'.heap[o]? = some (.cells (cs.setIfInBounds i u) T (0, 0)) ∧
      (∀ k, k ≠ g → k ≠ o → w'.heap[k]? = w1.heap[k]?) ∧ w'.os = w1.os ∧ w'.tape = w1.tape ∧ w'.output = w1.output ∧ w'.heap.size = w1.heap.size := by
  have e1 := after4 w1 g (K * 4) a b c d
  have o1 := node_stored hown hl a b c d
  have f1 : ∀ k, k ≠ g → w2.heap[k]? = w1.heap[k]? := fun k hk => by rw [h2]; exact far4 w1 g (K * 4) k hk a b c d
  rw [← h2] at o1
  simp only [← h2] at e1
  clear h2 hown
  have e2 := after1 w2 ⟨o, i, none⟩ u
  have o2 : (w2.setCell ⟨o, i, none⟩ u).ownsRow base T 4 (.slice (some ⟨g, 0, none⟩) (K + 1) cap) (K + 1) (xs ++ [a, b, c, d]) := ownsRow_setCell_other o1 (by simpa [Value.ownBlock] using hgo) _
  have f2 : (w2.setCell ⟨o, i, none⟩ u).heap[o]? = some (.cells (cs.setIfInBounds i u) T (0, 0)) := blk_set ((f1 o (Ne.symm hgo)).trans hc) i u
  have f3 : ∀ k, k ≠ o → (w2.setCell ⟨o, i, none⟩ u).heap[k]? = w2.heap[k]? := fun k hk => blk_far rfl hk _
  rw [← h'] at o2 f2 e2
  rw [← h'] at f3
  exact ⟨o2, f2, fun k h1 h2 => (f3 k h2).trans (f1 k h1), e2.1.trans e1.1, e2.2.1.trans e1.2.1, e2.2.2.1.trans e1.2.2.1, e2.2.2.2.trans e1.2.2.2⟩

/-- Behind the stores. -/
theorem add_done {w2 w' : World} (h : PInv 39 67 w base g o cap src pos (pre ++ [top]) (vpre ++ [v]))
    (hx : Rd w (okP base g o (vpre ++ [v])) kv (.sl 39 4 (ndsTr 39 x.kids)))
    (hv : w.ownsRow base 39 4 v top.kids.length xs) (hr : RdL w (okP base g o (vpre ++ [v])) xs (ndsTr 39 top.kids))
    (hB : Below w.heap.size w w2)
    (hgrow : w2.grownBy w1 v.ownBlock) (hat : v.ownBlock = some g1 ∨ w.heap.size ≤ g1) (hm : pre.length = m)
    (k1 : w'.ownsRow base 39 4 (.slice (some ⟨g1, 0, none⟩) (top.kids.length + 1) cap1) (top.kids.length + 1) (xs ++ [.int .i64 x.kind, .string x.text, kv, .int .i64 x.off]))
    (k2 : ∀ cs : Array Value, w.heap[o]? = some (.cells cs 39 (0, 0)) → w'.heap[o]? = some (.cells (cs.setIfInBounds (m * 4 + 2) (.slice (some ⟨g1, 0, none⟩) (top.kids.length + 1) cap1)) 39 (0, 0)))
    (k3 : ∀ b, b ≠ g1 → b ≠ o → w'.heap[b]? = w1.heap[b]?) (k4 : w'.os = w1.os) (k5 : w'.tape = w1.tape) (k6 : w'.output = w1.output) (k7 : w'.heap.size = w1.heap.size) :
    AddPost w base g o cap src pos (pre ++ [top.add x]) vpre w' := by
  have hlt := h.lt
  have hold : ∀ b, b < w.heap.size → some b ≠ v.ownBlock → w1.heap[b]? = w.heap[b]? := fun b hb hn => (hgrow.block b (Nat.lt_of_lt_of_le hb hB.size) hn).trans (hB.block b hb)
  have hbase : ∀ k, v.ownBlock = some k → base ≤ k := fun k hk => (hv.lt k hk).1
  refine ⟨⟨_, h.added hm hx hv hr k1 hat k2 fun b hb hbv hbg hbo => (k3 b hbg hbo).trans (hold b hb (Ne.symm hbv))⟩, ?_⟩
  refine ⟨k4.trans (hgrow.os.trans hB.os), k5.trans (hgrow.tape.trans hB.tape), k6.trans (hgrow.output.trans hB.output), ?_, fun b hb => ?_⟩
  · rw [k7]; exact Nat.le_trans hB.size hgrow.size
  · have hbo : b ≠ o := by have := h.bo; omega
    have hbv : some b ≠ v.ownBlock := fun e => by have := hbase b e.symm; omega
    have hbg : b ≠ g1 := by
      rcases hat with hat | hat
      · exact fun e => hbv (by rw [hat, e])
      · have := h.bg; omega
    rw [k3 b hbg hbo]
    exact hold b (by have := h.bg; omega) hbv
theorem add_close {W w2 : World} {A : Option Addr} {C : Nat} (h : PInv 39 67 w base g o cap src pos (pre ++ [top]) (vpre ++ [v])) (hvs : v = .slice A K C)
    (hx : Rd w (okP base g o (vpre ++ [v])) kv (.sl 39 4 (ndsTr 39 x.kids)))
    (hv : w.ownsRow base 39 4 v top.kids.length xs) (hr : RdL w (okP base g o (vpre ++ [v])) xs (ndsTr 39 top.kids))
    (hKq : K = top.kids.length) (hmq : m = pre.length) (hB : Below w.heap.size w W) (hs : W.heap.size = w.heap.size + 1) (hB2 : Below W.heap.size W w2)
    (hown : w1.ownsRow base 39 4 (.slice (some ⟨g1, 0, none⟩) (K + 1) cap1) (K + 1) (xs ++ [z0, z1, z2, z3]))
    (hgrow : w2.grownBy w1 (Value.slice A K C).ownBlock) (hat : (Value.slice A K C).ownBlock = some g1 ∨ g1 = W.heap.size + 1) :
    AddPost w base g o cap src pos (pre ++ [top.add x]) vpre (((((w1.setCell ⟨o, m * 4 + 2, none⟩ (.slice (some ⟨g1, 0, none⟩) (K + 1) cap1)).setCell ⟨g1, K * 4, none⟩ (.int .i64 x.kind)).setCell ⟨g1, K * 4 + 1, none⟩ (.string x.text)).setCell ⟨g1, K * 4 + 2, none⟩ kv).setCell ⟨g1, K * 4 + 3, none⟩ (.int .i64 x.off)) ∧
    AddPost w base g o cap src pos (pre ++ [top.add x]) vpre (((((w1.setCell ⟨g1, K * 4, none⟩ (.int .i64 x.kind)).setCell ⟨g1, K * 4 + 1, none⟩ (.string x.text)).setCell ⟨g1, K * 4 + 2, none⟩ kv).setCell ⟨g1, K * 4 + 3, none⟩ (.int .i64 x.off)).setCell ⟨o, m * 4 + 2, none⟩ (.slice (some ⟨g1, 0, none⟩) (K + 1) cap1)) := by
  subst hKq
  rw [← hvs] at hgrow hat
  have hlen : xs.length = top.kids.length * 4 := hv.1
  have hat' : v.ownBlock = some g1 ∨ w.heap.size ≤ g1 := hat.imp id (fun e => by omega)
  have hno := h.noto v (by simp)
  have hlt := h.lt
  have hg1o : g1 ≠ o := by
    rcases hat' with hat | hat
    · rintro rfl; exact hno hat
    · omega
  have hBB : Below w.heap.size w w2 := below_call hB hB2
  obtain ⟨cs, hc, _⟩ := h.row
  have hc1 : w1.heap[o]? = some (.cells cs 39 (0, 0)) := (hgrow.block o (Nat.lt_of_lt_of_le hlt.2 hBB.size) (Ne.symm hno)).trans ((hBB.block o hlt.2).trans hc)
  have hcs : ∀ cs' : Array Value, w.heap[o]? = some (.cells cs' 39 (0, 0)) → cs' = cs := fun cs' hc' => by
    have e := hc'.symm.trans hc
    simpa using e
  clear hc hB hB2
  constructor
  · obtain ⟨k1, k2, k3, k4, k5, k6, k7⟩ := stores_a hown hlen hg1o hc1 (i := m * 4 + 2) (a := .int .i64 x.kind) (b := .string x.text) (c := kv) (d := .int .i64 x.off) (u := .slice (some ⟨g1, 0, none⟩) (top.kids.length + 1) cap1) _ _ rfl rfl
    exact add_done h hx hv hr hBB hgrow hat' hmq.symm k1 (fun cs' hc' => by rw [hcs cs' hc']; exact k2) k3 k4 k5 k6 k7
  · obtain ⟨k1, k2, k3, k4, k5, k6, k7⟩ := stores_b hown hlen hg1o hc1 (i := m * 4 + 2) (a := .int .i64 x.kind) (b := .string x.text) (c := kv) (d := .int .i64 x.off) (u := .slice (some ⟨g1, 0, none⟩) (top.kids.length + 1) cap1) _ _ rfl rfl
    exact add_done h hx hv hr hBB hgrow hat' hmq.symm k1 (fun cs' hc' => by rw [hcs cs' hc']; exact k2) k3 k4 k5 k6 k7
end

set_option maxRecDepth 100000 in
set_option maxHeartbeats 8000000 in
theorem add_any {w : World} {base g o cap : Nat} {src : ByteArray} {pos : Nat} {pre : List Fr} {top : Fr} {vpre : List Value} {v : Value} {x : Nd} {KA : Option Addr} {KN KC : Nat}
    (h : PInv 39 67 w base g o cap src pos (pre ++ [top]) (vpre ++ [v])) (hm : pre.length ≤ 1000) (hK : top.kids.length ≤ 100000)
    (hx : Rd w (okP base g o (vpre ++ [v])) (.slice KA KN KC) (.sl 39 4 (ndsTr 39 x.kids))) :
    Calls Tryd.prog 64 #[.pointer (some ⟨g, 0, none⟩), .agg #[.int .i64 x.kind, .string x.text, .slice KA KN KC, .int .i64 x.off]] w fun e w' =>
      e = .returned (.tuple #[]) ∧ AddPost w base g o cap src pos (pre ++ [top.add x]) vpre w' := by
  have hvl : vpre.length = pre.length := by have := h.len; simp at this; exact this
  have hf0 : (pre ++ [top])[pre.length]? = some top := by simp
  have hv0 : (vpre ++ [v])[pre.length]? = some v := by simp [← hvl]
  have hOwn := h.own _ _ _ hf0 hv0
  obtain ⟨A, C, hvs, hC1, hC2⟩ := hOwn.slice
  obtain ⟨xs, hown, hrl⟩ := hOwn
  obtain ⟨n0, n1, n2, n3, nf⟩ := h.node hf0 hv0
  obtain ⟨c0, c1, c2, -, -, -⟩ := h.cells
  have hlt := h.lt
  have hgo := h.go
  have hnoto := h.noto v (by simp)
  have hbase : base ≤ w.heap.size := by have := h.bg; omega
  have hpl : (pre ++ [top]).length = pre.length + 1 := by simp
  rw [hpl] at c2
  obtain ⟨m, hmq⟩ : ∃ m, m = pre.length := ⟨_, rfl⟩
  obtain ⟨K, hKq⟩ : ∃ K, K = top.kids.length := ⟨_, rfl⟩
  rw [← hmq] at c2 n2 hm
  rw [← hKq] at hK
  have c2' : ∀ y, (w.alloc y).cell? ⟨g, 2, none⟩ = some (.slice (some ⟨o, 0, none⟩) (m + 1) cap) := fun y => (World.cell?_alloc_lt w y _ hlt.1).trans c2
  obtain ⟨i0, hi, hz0, hz1, hz2⟩ := info_parts node_info
  have hB1 : Below w.heap.size w (w.alloc (.cells #[.int .i64 x.kind, .string x.text, .slice KA KN KC, .int .i64 x.off] 39)) := (Below.refl _ _).alloc (Nat.le_refl _) _
  have hbk : (w.alloc (.cells #[.int .i64 x.kind, .string x.text, .slice KA KN KC, .int .i64 x.off] 39)).heap[w.heap.size]? = some (.cells #[.int .i64 x.kind, .string x.text, .slice KA KN KC, .int .i64 x.off] 39 (0, 0)) := heap_alloc_new w _
  -- the post and all that is known, aside
  have HX := Lib.hid hx
  have HR := Lib.hid hrl
  have HM := Lib.hid hmq
  have HKq := Lib.hid hKq
  have HVS := Lib.hid hvs
  have HI := Lib.hid h
  have HO := Lib.hid hown
  have HB1 := Lib.hid hB1
  have HBK := Lib.hid hbk
  have hn2 := n2
  have Hnf := Lib.hid nf
  have Hc1 := Lib.hid hlt
  clear hx hrl hmq hKq hvs h hown n0 n1 n3 c0 c1 hf0 hv0 hpl hvl hC1 hC2 hB1 hbk n2 nf hlt
  go_enter Tryd.func64, Tryd.ntmps64
  go_wp2
  go_quiet (fail)
  go_wp2
  obtain ⟨W, hW⟩ : ∃ W, W = (w.alloc (.cells #[.int .i64 x.kind, .string x.text, .slice KA KN KC, .int .i64 x.off] 39)).drewN nq := ⟨_, rfl⟩
  rw [← hW]
  have HB2 : Below w.heap.size w W := by rw [hW]; exact below_drewN' HB1.out nq
  have HBK2 : W.heap[w.heap.size]? = some (.cells #[.int .i64 x.kind, .string x.text, .slice KA KN KC, .int .i64 x.off] 39 (0, 0)) := by rw [hW]; exact HBK.out
  have hsz : W.heap.size = w.heap.size + 1 := by rw [hW]; simp
  clear HB1 HBK c2' hW c2
  have hd0 := (cell_of_row W w.heap.size 0 _ _ _ HBK2).trans (c := some (.int .i64 x.kind)) rfl
  have hd1 := (cell_of_row W w.heap.size 1 _ _ _ HBK2).trans (c := some (.string x.text)) rfl
  have hd2 := (cell_of_row W w.heap.size 2 _ _ _ HBK2).trans (c := some (.slice KA KN KC)) rfl
  have hd3 := (cell_of_row W w.heap.size 3 _ _ _ HBK2).trans (c := some (.int .i64 x.off)) rfl
  have hown1 : W.ownsRow base 39 4 v K xs := by
    have := HO.out
    rw [← HKq.out] at this
    exact this.kept ⟨HB2.os, HB2.tape, HB2.output, HB2.size, fun k hk _ => HB2.block k hk⟩ (row := none) (by cases v.ownBlock <;> simp)
  have hk1 : W.cell? ⟨o, m * 4 + 2, none⟩ = some v := below_cell HB2 hn2
  have hf1 : W.frozen? ⟨o, m * 4 + 2, none⟩ = false := (HB2.frozen (p := ⟨o, m * 4 + 2, none⟩) Hc1.out.2).trans (Hnf.out _)
  have hne0 : v.ownBlock ≠ some w.heap.size := fun e => by have := (HO.out.lt _ e).2; omega
  have hob := Hc1.out.2
  have hbb : ¬ w.heap.size = o := by omega
  have hbb' : ¬ o = w.heap.size := by omega
  have HS := Lib.hid hsz
  have HB3 := Lib.hid HB2
  have hbW : base ≤ W.heap.size := by omega
  clear hn2 HBK2 hsz HB2 hbase
  obtain ⟨b0, hb0⟩ : ∃ b0, b0 = w.heap.size := ⟨_, rfl⟩
  rw [← hb0] at hd0 hd1 hd2 hd3 hne0 hob hbb hbb' ⊢
  have Hb0 := Lib.hid hb0
  clear hb0
  have hob2 : o < W.heap.size := World.block_lt_of_cell? W _ hk1
  have hob3 : b0 < W.heap.size := World.block_lt_of_cell? W _ hd0
  have hcA : ∀ y, (W.alloc y).cell? ⟨o, m * 4 + 2, none⟩ = some v := fun y => (World.cell?_alloc_lt W y _ hob2).trans hk1
  have hi1 : (0:Int) ≤ (K:Int) := by omega
  have hi2 : (K:Int) < ((K+1 : Nat):Int) := by omega
  have hi3 : (K:Int) < (K:Int)+1 := by omega
  have hvv := HVS.out
  rw [← HKq.out] at hvv
  subst hvv
  have hd0' : ∀ y, (W.alloc y).cell? ⟨b0, 0, none⟩ = some (.int .i64 x.kind) := fun y => (World.cell?_alloc_lt W y _ hob3).trans hd0
  have hd1' : ∀ y, (W.alloc y).cell? ⟨b0, 1, none⟩ = some (.string x.text) := fun y => (World.cell?_alloc_lt W y _ hob3).trans hd1
  have hd2' : ∀ y, (W.alloc y).cell? ⟨b0, 2, none⟩ = some (.slice KA KN KC) := fun y => (World.cell?_alloc_lt W y _ hob3).trans hd2
  have hd3' : ∀ y, (W.alloc y).cell? ⟨b0, 3, none⟩ = some (.int .i64 x.off) := fun y => (World.cell?_alloc_lt W y _ hob3).trans hd3
  go_region_law ((refine step_append_lies _ (by rfl) (.tmp 19) (.tmp 22) 30 (by rfl) base 39 i0 _ 4 56 Tryd.underlying30 hi hz0 hz1 hz2 rfl (by omega) (.slice A K C) K xs (by rfl) (hown1.alloc _) ⟨W.heap.size, 0, none⟩ 1 1 [.int .i64 0, .string ⟨#[]⟩, .slice none 0 0, .int .i64 0] (by rfl) rfl (World.news_of_block (cs := #[.int .i64 0, .string ⟨#[]⟩, .slice none 0 0, .int .i64 0]) (t := 39) (fr := (0, 0)) (heap_alloc_new W _)) (by simp [Value.oneCell']) (by omega) (by simp only [maxLen]; omega) (by omega) (by simp; omega) (W.heap.size + 1) (by simp) ?_; intro g1 cap1 w1 hown2 hgrow hat hlt; obtain ⟨k0, k1, k2, k3, z0, z1, z2, z3⟩ := node_cells hown2 hown1.1; obtain ⟨hgn0, hgn1, ho1, ho2⟩ := far_new hat hnoto hne0 hob2 hob3 (.cells #[.int .i64 0, .string ⟨#[]⟩, .slice none 0 0, .int .i64 0] 39) rfl hgrow hk1 hf1))
  all_goals
    go_end0
    refine ⟨rfl, ?_⟩
    have hcl := add_close HI.out rfl HX.out HO.out HR.out HKq.out HM.out HB3.out HS.out (((Below.refl _ _).alloc (Nat.le_refl _) _).drew) hown2 hgrow hat
    first | with_reducible exact hcl.1 | with_reducible exact hcl.2
end Go.Proofs.YtjpabigjmimogaaDoor
