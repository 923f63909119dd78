/- A node under construction: a struct of four cells at block h, whose third cell is a row of the call's own. No program is named here. -/
import Derived.Test.YtjpabigjmimogaaDoorParseSpec
import Derived.Test.YtjpabigjmimogaaDoorPInv
set_option linter.unusedVariables false
set_option linter.unusedSimpArgs false
namespace Go.Proofs.YtjpabigjmimogaaDoor
open Go.RowKit

def okK (B : Nat) (v : Value) (b : Nat) : Prop := B ≤ b ∧ v.ownBlock ≠ some b
structure KI (T h : Nat) (a b c : Value) (wr : World) (v : Value) (l : List Nd) : Prop where
  hb : wr.heap[h]? = some (.cells #[a, b, v, c] T (0, 0))
  own : Own wr (okK (h + 1) v) (h + 1) T 4 v l.length (ndsTr T l)
section
variable {T h g1 cap1 : Nat} {a b c : Value} {wr w' W w1 : World} {v kv : Value} {l : List Nd} {S : Nat → Prop}
theorem KI.lt (k : KI T h a b c wr v l) : h < wr.heap.size := lt_of_block k.hb
theorem KI.start (hh : wr.heap[h]? = some (.cells #[a, b, .slice none 0 0, c] T (0, 0))) : KI T h a b c wr (.slice none 0 0) [] := ⟨hh, by simpa [ndsTr] using Own.nil _ _ _ _ _⟩
theorem KI.kp (k : KI T h a b c wr v l) (hk : Kp wr w' S) (hS : ∀ b, S b → b < h) : KI T h a b c w' v l :=
  ⟨hk.blk k.hb (fun e => by have := hS _ e; omega), k.own.kp hk (fun b hb e => by have := hS _ e; have := hb.1; omega) (fun b hb e => by have := hS _ e; have := (k.own.lt b hb).1; omega)⟩
theorem KI.drew (k : KI T h a b c wr v l) : KI T h a b c wr.drew v l := ⟨k.hb, k.own.drew⟩
theorem KI.drewN (k : KI T h a b c wr v l) (n : Nat) : KI T h a b c (wr.drewN n) v l := ⟨k.hb, k.own.drewN n⟩
theorem KI.far (k : KI T h a b c wr v l) : v.ownBlock ≠ some h := fun e => by have := (k.own.lt h e).1; omega
/-- A datum in new blocks is none of the row. -/
theorem KI.fresh (k : KI T h a b c wr v l) {kl : List Nd} (hx : Rd w' (fun b => wr.heap.size ≤ b) kv (.sl T 4 (ndsTr T kl))) : Rd w' (okK (h + 1) v) kv (.sl T 4 (ndsTr T kl)) :=
  hx.mono fun b hb _ => ⟨by have := k.lt; omega, fun e => by have := (k.own.lt b e).2; omega⟩
theorem KI.push {x : Nd} {xs : List Value} (k : KI T h a b c wr v l) (hW : Below wr.heap.size wr W) (hr : RdL wr (okK (h + 1) v) xs (ndsTr T l)) (hx : Rd wr (okK (h + 1) v) kv (.sl T 4 (ndsTr T x.kids)))
    (h1 : w1.ownsRow (h + 1) T 4 (.slice (some ⟨g1, 0, none⟩) (l.length + 1) cap1) (l.length + 1) (xs ++ [.int .i64 x.kind, .string x.text, kv, .int .i64 x.off])) (hgrow : W.grownBy w1 v.ownBlock)
    (hat : v.ownBlock = some g1 ∨ wr.heap.size ≤ g1) : KI T h a b c (w1.setCell ⟨h, 2, none⟩ (.slice (some ⟨g1, 0, none⟩) (l.length + 1) cap1)) (.slice (some ⟨g1, 0, none⟩) (l.length + 1) cap1) (l ++ [x]) := by
  have hv := k.own.lt
  have hlt := k.lt
  have hgh : g1 ≠ h := by
    rcases hat with hat | hat
    · have := (hv g1 hat).1; omega
    · omega
  refine ⟨?_, ?_⟩
  · have hb := (hgrow.block h (Nat.lt_of_lt_of_le hlt hW.size) (Ne.symm k.far)).trans ((hW.block h hlt).trans k.hb)
    simp [World.setCell, Array.getElem?_modify, hb]
  · rw [ndsTr_append, ndsTr_one, List.length_append]
    have hx' : RdL wr (okK (h + 1) v) [.int .i64 x.kind, .string x.text, kv, .int .i64 x.off] (x.tr T) := by
      rw [Nd.tr_eq]
      exact .cons (.sc _) (.cons (.sc _) (.cons hx (.cons (.sc _) .nil)))
    have h2 : Own w1 (okK (h + 1) (.slice (some ⟨g1, 0, none⟩) (l.length + 1) cap1)) (h + 1) T 4 (.slice (some ⟨g1, 0, none⟩) (l.length + 1) cap1) (l.length + 1) (ndsTr T l ++ x.tr T) := by
      refine ⟨_, h1, ?_⟩
      refine (hr.append hx').step fun b hb hlt => ⟨⟨hb.1, fun e => ?_⟩, ?_⟩
      · simp [Value.ownBlock] at e
        rcases hat with hat | hat
        · exact hb.2 (by rw [hat, e])
        · omega
      · exact (hgrow.block b (Nat.lt_of_lt_of_le hlt hW.size) (Ne.symm hb.2)).trans (hW.block b hlt)
    exact h2.setCell (p := ⟨h, 2, none⟩) (fun hb => by have := hb.1; dsimp only at this; omega) (by simp [Value.ownBlock]; omega) _
theorem KI.rd {ok' : Nat → Prop} (k : KI T h a b c wr v l) (hok : ∀ b, h + 1 ≤ b → ok' b) : Rd wr ok' v (.sl T 4 (ndsTr T l)) := k.own.rd (fun b hb _ => hok b hb.1) (fun b hb => hok b (k.own.lt b hb).1)
theorem KI.kp_push {w : World} (hk : Kp w wr S) (k : KI T h a b c wr v l) (hW : Below wr.heap.size wr W) (hgrow : W.grownBy w1 v.ownBlock) (hh : w.heap.size ≤ h) (u : Value) : Kp w (w1.setCell ⟨h, 2, none⟩ u) S :=
  ((hk.call hW).grown hgrow (fun b hb => .inr (by have := (k.own.lt b hb).1; omega))).setCell (p := ⟨h, 2, none⟩) (.inr hh) u
end
end Go.Proofs.YtjpabigjmimogaaDoor
