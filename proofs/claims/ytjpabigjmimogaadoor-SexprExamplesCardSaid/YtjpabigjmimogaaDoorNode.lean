/- telmake.Node: the same node, of the other type. -/
import Derived.Test.YtjpabigjmimogaaDoorMeas
import Derived.Test.YtjpabigjmimogaaDoorAny
import Derived.Test.YtjpabigjmimogaaDoorAdd
set_option linter.unusedVariables false
set_option linter.unusedSimpArgs false
namespace Go.Proofs.YtjpabigjmimogaaDoor
open Go.RowKit
attribute [local go_sem ↓] Go.wp_at_zero Go.wp_at_succ

structure CI (w wr : World) (x : Nd) (A : Option Addr) (n c : Nat) (v : Value) (l : List Nd) : Prop where
  bel : Below w.heap.size w wr
  bx : wr.heap[w.heap.size]? = some (.cells #[.int .i64 x.kind, .string x.text, .slice A n c, .int .i64 x.off] 26 (0, 0))
  rb : wr.heap[w.heap.size + 1]? = some (.cells #[.int .i64 0, .string ⟨#[]⟩, .slice none 0 0, .int .i64 0] 39 (0, 0))
  ki : KI 39 (w.heap.size + 1 + 1) (.int .i64 x.kind) (.string x.text) (.int .i64 x.off) wr v l
section
variable {w wr w1 w2 W : World} {x y : Nd} {A : Option Addr} {n c g1 cap1 : Nat} {v kv : Value} {l : List Nd}
theorem CI.drew (k : CI w wr x A n c v l) : CI w wr.drew x A n c v l := ⟨k.bel.drew, k.bx, k.rb, k.ki.drew⟩
theorem CI.call (k : CI w wr x A n c v l) (hb : Below wr.heap.size wr w2) : CI w w2 x A n c v l :=
  ⟨k.bel.trans (hb.mono k.bel.size), below_blk hb k.bx, below_blk hb k.rb, k.ki.kp (Kp.of_below hb fun _ => False) (fun _ h => h.elim)⟩
theorem CI.push {xs : List Value} (k : CI w wr x A n c v l) (hW : Below wr.heap.size wr W) (hr : RdL wr (okK (w.heap.size + 1 + 1 + 1) v) xs (ndsTr 39 l)) (hx : Rd wr (okK (w.heap.size + 1 + 1 + 1) v) kv (.sl 39 4 (ndsTr 39 y.kids)))
    (h1 : w1.ownsRow (w.heap.size + 1 + 1 + 1) 39 4 (.slice (some ⟨g1, 0, none⟩) (l.length + 1) cap1) (l.length + 1) (xs ++ [.int .i64 y.kind, .string y.text, kv, .int .i64 y.off])) (hgrow : W.grownBy w1 v.ownBlock)
    (hat : v.ownBlock = some g1 ∨ wr.heap.size ≤ g1) : CI w (w1.setCell ⟨w.heap.size + 1 + 1, 2, none⟩ (.slice (some ⟨g1, 0, none⟩) (l.length + 1) cap1)) x A n c (.slice (some ⟨g1, 0, none⟩) (l.length + 1) cap1) (l ++ [y]) := by
  have e3 := k.ki.lt
  have e4 : ∀ b, v.ownBlock = some b → w.heap.size + 1 + 1 + 1 ≤ b := fun b hb => (k.ki.own.lt b hb).1
  have hold : ∀ b, b < w.heap.size + 1 + 1 → (w1.setCell ⟨w.heap.size + 1 + 1, 2, none⟩ (.slice (some ⟨g1, 0, none⟩) (l.length + 1) cap1)).heap[b]? = wr.heap[b]? := fun b hb =>
    (Below.heap_setCell _ _ _ b (by simp only; omega)).trans ((hgrow.block b (by have := hW.size; omega) (fun e => by have := e4 b e.symm; omega)).trans (hW.block b (by omega)))
  exact ⟨((k.bel.trans (hW.mono k.bel.size)).grown hgrow (by have := hW.size; have := k.bel.size; omega) (fun b hb => by have := e4 b hb; omega)).setCell (p := ⟨w.heap.size + 1 + 1, 2, none⟩) (by simp only; omega) _,
    (hold _ (by omega)).trans k.bx, (hold _ (by omega)).trans k.rb, k.ki.push hW hr hx h1 hgrow hat⟩
end
def NodePost (w : World) (x : Nd) (e : Ending) (w' : World) : Prop :=
  ∃ A n c, e = .returned (.agg #[.int .i64 x.kind, .string x.text, .slice A n c, .int .i64 x.off]) ∧ Rd w' (fun b => w.heap.size ≤ b) (.slice A n c) (.sl 39 4 (ndsTr 39 x.kids)) ∧ Below w.heap.size w w'
theorem CI.post {w wr : World} {x : Nd} {A A' : Option Addr} {n c i C : Nat} {l : List Nd} (k : CI w wr x A n c (.slice A' i C) l) (hl : l = x.kids) :
    NodePost w x (.returned (.agg #[.int .i64 x.kind, .string x.text, .slice A' i C, .int .i64 x.off])) (set4 wr (w.heap.size + 1) (.int .i64 x.kind) (.string x.text) (.slice A' i C) (.int .i64 x.off)) := by
  subst hl
  refine ⟨A', i, C, rfl, ?_, ?_⟩
  · exact ((k.ki.rd (ok' := fun b => w.heap.size + 1 + 1 + 1 ≤ b) (fun b hb => hb)).kp (kp_set4 _ _ _ _ _ _) (fun b hb => by omega)).mono (fun b hb _ => by omega)
  · have := kp_set4 wr (w.heap.size + 1) (.int .i64 x.kind) (.string x.text) (.slice A' i C) (.int .i64 x.off)
    exact ⟨this.os.trans k.bel.os, this.tape.trans k.bel.tape, this.output.trans k.bel.output, Nat.le_trans k.bel.size this.size, fun b hb => (this.block b (by have := k.bel.size; omega) (by omega)).trans (k.bel.block b hb)⟩

set_option maxRecDepth 100000 in
set_option maxHeartbeats 4000000 in
theorem node_any : ∀ (m : Nat) (x : Nd), SizeOf.sizeOf x ≤ m → ∀ (w : World) (ok : Nat → Prop) (A : Option Addr) (n c : Nat), cntN x ≤ 1000000 →
    Rd w ok (.slice A n c) (.sl 26 4 (ndsTr 26 x.kids)) →
    Calls Tryd.prog 18 #[.agg #[.int .i64 x.kind, .string x.text, .slice A n c, .int .i64 x.off]] w (NodePost w x) := by
  intro m
  induction m with
  | zero => intro x hx; exfalso; cases x; simp at hx
  | succ m ih =>
    intro x hx w ok A n c hcnt hr
    have hl := hr.len
    rw [ndsTr_length] at hl
    obtain ⟨rfl, hl2, hl3⟩ : n = x.kids.length ∧ n ≤ c ∧ c ≤ maxLen := ⟨by omega, hl.2⟩
    simp only [maxLen] at hl3
    rw [cnt_kids] at hcnt
    obtain ⟨l, hkl⟩ : ∃ l, l = x.kids := ⟨_, rfl⟩
    have hsz : SizeOf.sizeOf l ≤ m := by have := kids_sz x; rw [hkl]; omega
    rw [← hkl] at hr hl hl2 hcnt ⊢
    have hll := cnts_len l
    obtain ⟨i0, hi, hz0, hz1, hz2⟩ := info_parts node_info
    have HR := Lib.hid hr
    have HKL := Lib.hid hkl
    have HC := Lib.hid hcnt
    have IH := Lib.hid ih
    have HSZ := Lib.hid hsz
    have hl6 : l.length ≤ 1000000 := by omega
    have HB := Lib.hid (Below.refl w.heap.size w)
    clear ih hr hl hsz hkl hx hcnt hll
    go_enter Tryd.func18, Tryd.ntmps18
    go_wp2_with fail
    go_loopg [4] l.length (fun q iv wr => ∃ (i : Nat) (v : Value), iv = .int .i64 (i : Int) ∧ Hid (i ≤ l.length ∧ q = l.length - i ∧ CI w wr x A l.length c v (l.take i)))
    case atStart =>
      refine ⟨0, .slice none 0 0, rfl, Nat.zero_le _, rfl, ?_⟩
      have a1 := heap_alloc_new w (.cells #[.int .i64 x.kind, .string x.text, .slice A l.length c, .int .i64 x.off] 26)
      have a2 := heap_alloc_new (w.alloc (.cells #[.int .i64 x.kind, .string x.text, .slice A l.length c, .int .i64 x.off] 26)) (.cells #[.int .i64 0, .string ⟨#[]⟩, .slice none 0 0, .int .i64 0] 39)
      have a3 := heap_alloc_new ((w.alloc (.cells #[.int .i64 x.kind, .string x.text, .slice A l.length c, .int .i64 x.off] 26)).alloc (.cells #[.int .i64 0, .string ⟨#[]⟩, .slice none 0 0, .int .i64 0] 39)) (.cells #[.int .i64 x.kind, .string x.text, .slice none 0 0, .int .i64 x.off] 39)
      simp only [World.size_alloc] at a2 a3
      exact ⟨((HB.out.alloc (Nat.le_refl _) _).alloc (by simp) _).alloc (by simp; omega) _, blk_al (blk_al a1), blk_al a2, KI.start a3⟩
    case round =>
      obtain ⟨i, v, rfl, HH⟩ := hrel
      obtain ⟨q1, q2, hC⟩ := HH.out
      obtain ⟨A2, C2, rfl, hC1, hC2⟩ := hC.ki.own.slice
      have htl : (l.take i).length = i := by rw [List.length_take]; omega
      rw [htl] at hC1 hC
      obtain ⟨d0, d1, d2, d3, f0, f1, f2, f3⟩ := four hC.ki.hb
      obtain ⟨c0, c1, c2, c3, -, -, -, -⟩ := four hC.bx
      have HCI := Lib.hid hC
      have HQ := Lib.hid q2
      have HTL := Lib.hid htl
      have hbw := hC.bel.size
      clear HH q2 hC hC1 hC2 htl
      by_cases hlt : i < l.length
      · have hx : l[i]? = some l[i] := List.getElem?_eq_getElem hlt
        obtain ⟨y, hye⟩ : ∃ y, y = l[i] := ⟨_, rfl⟩
        rw [← hye] at hx
        obtain ⟨b, o, KA, KN, KC, rfl, -, -, p0, p1, p2, p3, p4⟩ := nd_at (HR.out.bl HCI.out.bel) hx
        have hys : SizeOf.sizeOf y ≤ m := by have := kids_at hx; have := HSZ.out; omega
        have hyc : cntN y ≤ 1000000 := by have := cnt_at hx; have := HC.out; omega
        have HYS := Lib.hid hys
        have HYC := Lib.hid hyc
        have P3 := Lib.hid p3
        have HX := Lib.hid hx
        clear p3 hx hye hys hyc
        have hlt' : (i : Int) < (l.length : Int) := by omega
        have hi0 : (0 : Int) ≤ (i : Int) := by omega
        go_wp2_with fail
        go_region_law ((first
          | (refine step_append_lies _ (by rfl) (.tmp 20) (.tmp 27) 30 (by rfl) (w.heap.size + 1 + 1 + 1) 39 i0 _ 4 56 Tryd.underlying30 hi hz0 hz1 hz2 rfl (by omega) (.slice A2 i C2) i xs (by rfl) (HOWN.out.alloc _) ⟨w3.heap.size, 0, none⟩ 1 1 [.int .i64 y.kind, .string y.text, .slice A3 n3 c3, .int .i64 y.off] (by rfl) rfl (World.news_of_block (cs := #[.int .i64 y.kind, .string y.text, .slice A3 n3 c3, .int .i64 y.off]) (t := 39) (fr := (0, 0)) (heap_alloc_new w3 _)) (by simp [Value.oneCell']) (by omega) (by simp only [maxLen]; omega) (by omega) (by have := HC3.out.ki.lt; simp; omega) (w3.heap.size + 1) (by simp) ?_; intro g1 cap1 w4 hown2 hgrow hat hlt4; obtain ⟨u0, u1, u2, u3, s0, s1, s2, s3⟩ := four ((hgrow.block (w.heap.size + 1 + 1) (by have := HC3.out.ki.lt; simp; omega) (Ne.symm HC3.out.ki.far)).trans (blk_al HC3.out.ki.hb)))
          | (go_simp; go_at_call 18; (with_reducible refine (IH.out y HYS.out _ _ _ _ _ HYC.out (by exact P3.out.drew)).mono ?_); rintro e w3 ⟨A3, n3, c3, rfl, hx3, hb3⟩; have hC3 := HCI.out.drew.call hb3; obtain ⟨d0', d1', d2', d3', f0', f1', f2', f3'⟩ := four hC3.ki.hb; obtain ⟨xs, hown, hrl⟩ := hC3.ki.own; rw [HTL.out] at hown; have e2 : ∀ y, (w3.alloc y).cell? ⟨w.heap.size + 1 + 1, 2, none⟩ = some (.slice A2 i C2) := (fun y => (World.cell?_alloc_lt w3 y _ hC3.ki.lt).trans d2'); have HC3 := Lib.hid hC3; have HOWN := Lib.hid hown; have HRL := Lib.hid hrl; have HX3 := Lib.hid hx3; clear hC3 hown hrl hx3 hb3)))
        all_goals
          go_wp2_with fail
          go_roundg (l.length - (i + 1))
          case measure => have := HQ.out; omega
          case rel =>
            have hp := HC3.out.push (y := y) ((Below.refl _ _).alloc (Nat.le_refl _) _) HRL.out (HCI.out.drew.ki.fresh HX3.out) (by rw [HTL.out]; exact hown2) hgrow (hat.imp id (fun e => by omega))
            rw [HTL.out, ← take_snoc_at l i y HX.out] at hp
            exact ⟨i + 1, _, by simp, by omega, rfl, hp⟩
      · obtain rfl : i = l.length := by omega
        obtain ⟨b0, b1, b2, b3, z0, z1, z2, z3⟩ := four HCI.out.rb
        have hd : decide ((l.length : Int) < (l.length : Int)) = false := by simp
        go_wp2_with fail
        refine bodyPost_ret (results_cell_row rfl _ _ (w.heap.size + 1) _ _ (0, 0) _ rfl (blk_set4 HCI.out.rb _ _ _ _) rfl rfl rfl) rfl ?_
        exact HCI.out.post (by rw [List.take_length, HKL.out])
end Go.Proofs.YtjpabigjmimogaaDoor
