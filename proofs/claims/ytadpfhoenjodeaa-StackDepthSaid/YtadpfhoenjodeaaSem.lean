/- A new block behind drawn orders, for the walk. No program is named here. -/
import Derived.Test.YtadpfhoenjodeaaCore
namespace Go.Proofs.Ytadpfhoenjodeaa
open Go.RowKit
theorem cell_drewN_alloc (w : World) (n : Nat) (c : Array Value) (t : TypeId) (k i : Nat) (hn : k = w.heap.size) : ((w.drewN n).alloc (.cells c t)).cell? ⟨k, i, none⟩ = c[i]? := World.cell?_alloc_at (w := w.drewN n) c t k i hn
theorem frozen_drewN_alloc (w : World) (n : Nat) (c : Array Value) (t : TypeId) (k i : Nat) (hn : k = w.heap.size) : ((w.drewN n).alloc (.cells c t)).frozen? ⟨k, i, none⟩ = false := World.frozen?_alloc_at (w := w.drewN n) c t k i hn
theorem setCell_drewN_alloc (w : World) (n : Nat) (c : Array Value) (t : TypeId) (k i : Nat) (v : Value) (hn : k = w.heap.size) : ((w.drewN n).alloc (.cells c t)).setCell ⟨k, i, none⟩ v = (w.drewN n).alloc (.cells (c.setIfInBounds i v) t) := World.setCell_alloc_at (w := w.drewN n) c t k i v hn
theorem cell_drewN_past (w : World) (n : Nat) (x : Obj) (k i : Nat) (hn : k < w.heap.size) : ((w.drewN n).alloc x).cell? ⟨k, i, none⟩ = w.cell? ⟨k, i, none⟩ := World.cell?_alloc_past (w := w.drewN n) x k i hn
theorem frozen_drewN_past (w : World) (n : Nat) (x : Obj) (k i : Nat) (hn : k < w.heap.size) : ((w.drewN n).alloc x).frozen? ⟨k, i, none⟩ = w.frozen? ⟨k, i, none⟩ := World.frozen?_alloc_past (w := w.drewN n) x k i hn
theorem setCell_drewN_past (w : World) (n : Nat) (x : Obj) (k i : Nat) (v : Value) (hn : k < w.heap.size) : ((w.drewN n).alloc x).setCell ⟨k, i, none⟩ v = ((w.drewN n).setCell ⟨k, i, none⟩ v).alloc x := World.setCell_alloc_past (w := w.drewN n) x k i v hn
attribute [go_sem] cell_drewN_alloc frozen_drewN_alloc setCell_drewN_alloc cell_drewN_past frozen_drewN_past setCell_drewN_past
end Go.Proofs.Ytadpfhoenjodeaa
