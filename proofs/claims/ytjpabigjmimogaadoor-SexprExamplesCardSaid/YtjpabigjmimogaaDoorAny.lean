/- telmake.AnyNode: some node whose texts are of two known lists. -/
import Derived.Test.YtjpabigjmimogaaDoorStream
import Derived.Deep.RegionHeld3
import Derived.Deep.RegionLaw
import Derived.Deep.DrawnRows
import Derived.Deep.LoopGhost
import Derived.Deep.AppendLies
import Derived.Test.YtjpabigjmimogaaDoorKids
set_option linter.unusedVariables false
set_option linter.unusedSimpArgs false
namespace Go.Proofs.YtjpabigjmimogaaDoor
open Go.RowKit
attribute [local go_sem ↓] Go.wp_at_zero Go.wp_at_succ

def bs (l : List UInt8) : ByteArray := ⟨l.toArray⟩
def wordsL : List ByteArray := [bs [97], bs [120, 49], bs [45, 55], bs [48], bs [66, 111, 120], bs [97, 100, 100], bs [108, 101, 116], bs [116, 114, 117, 101], bs [110, 105, 108], bs [65], bs [65, 110, 121], bs [116, 117, 112, 108, 101], bs [97, 45, 98], bs [101, 120, 105, 115, 116, 115], bs [116, 97, 115, 107], bs [50, 49, 52, 55, 52, 56, 51, 54, 52, 56]]
def strsL : List ByteArray := [bs [], bs [97, 32, 98], bs [113, 117, 111, 116, 101, 32, 34, 32, 97, 110, 100, 32, 92], bs [126], bs [40, 110, 111, 116, 32, 97, 32, 108, 105, 115, 116, 41], bs [59, 32, 110, 111, 32, 99, 111, 109, 109, 101, 110, 116]]

/-- Variable vi holds the strings l, in blocks below base. -/
structure TabAt (w : World) (base vi : Nat) (l : List ByteArray) (b o c : Nat) : Prop where
  hd : w.cell? ⟨vi, 0, none⟩ = some (.slice (some ⟨b, o, none⟩) l.length c)
  vb : vi < base
  bb : b < base
  at_ : ∀ j, j < l.length → w.cell? ⟨b, o + j, none⟩ = some (.string (l.getD j ⟨#[]⟩))
def Tab (w : World) (base vi : Nat) (l : List ByteArray) : Prop := ∃ b o c, TabAt w base vi l b o c
theorem TabAt.kp {w w' : World} {base vi : Nat} {l : List ByteArray} {b o c : Nat} {S : Nat → Prop} (h : TabAt w base vi l b o c) (hk : Kp w w' S) (hb : ∀ b, b < base → ¬ S b) : TabAt w' base vi l b o c :=
  ⟨hk.cell h.hd (hb _ h.vb), h.vb, h.bb, fun j hj => hk.cell (h.at_ j hj) (hb _ h.bb)⟩
theorem Tab.kp {w w' : World} {base vi : Nat} {l : List ByteArray} {S : Nat → Prop} (h : Tab w base vi l) (hk : Kp w w' S) (hb : ∀ b, b < base → ¬ S b) : Tab w' base vi l := by
  obtain ⟨b, o, c, h⟩ := h
  exact ⟨b, o, c, h.kp hk hb⟩

def leafN (bad : Bool) (x : Nd) : Prop :=
  (x.off = 0 ∧ x.kids = [] ∧ (x.kind = 1 ∧ x.text ∈ wordsL ∨ x.kind = 2 ∧ x.text ∈ strsL)) ∨
  (bad = true ∧ x.text ∈ strsL ∧ (x.kids = [] ∧ x.kind = 1 ∨ (∃ u, u ∈ wordsL ∧ x.kids = [.mk 1 u [] 0]) ∧ 0 ≤ x.kind ∧ x.kind < 5 ∧ x.off = 0))
def Gn (bad : Bool) : Nat → Nd → Prop
  | 0, x => leafN bad x
  | d + 1, x => leafN bad x ∨ (x.kind = 3 ∧ x.text = ⟨#[]⟩ ∧ x.off = 0 ∧ x.kids.length ≤ 4 ∧ ∀ y ∈ x.kids, Gn bad d y)

def AnyPost (w : World) (base g : Nat) (bad : Bool) (d : Nat) (e : Ending) (w' : World) : Prop :=
  ∃ x A n c, e = .returned (.agg #[.int .i64 (Nd.kind x), .string x.text, .slice A n c, .int .i64 x.off]) ∧ Rd w' (fun b => w.heap.size ≤ b) (.slice A n c) (.sl 26 4 (ndsTr 26 x.kids)) ∧
    Gn bad d x ∧ Stm w' base g ∧ Kp w w' fun b => b = g

theorem str_at {w : World} {base vi : Nat} {l : List ByteArray} {b o c r : Nat} (h : TabAt w base vi l b o c) (hr : r < l.length) : ∃ t, t ∈ l ∧ w.cell? ⟨b, o + r, none⟩ = some (.string t) := by
  refine ⟨_, ?_, h.at_ r hr⟩
  rw [List.getD_eq_getElem?_getD, List.getElem?_eq_getElem hr]
  exact List.getElem_mem hr
/-- A struct of four cells at block R, none frozen. -/
theorem four {w : World} {R T : Nat} {a b c d : Value} (h : w.heap[R]? = some (.cells #[a, b, c, d] T (0, 0))) :
    w.cell? ⟨R, 0, none⟩ = some a ∧ w.cell? ⟨R, 1, none⟩ = some b ∧ w.cell? ⟨R, 2, none⟩ = some c ∧ w.cell? ⟨R, 3, none⟩ = some d ∧
    w.frozen? ⟨R, 0, none⟩ = false ∧ w.frozen? ⟨R, 1, none⟩ = false ∧ w.frozen? ⟨R, 2, none⟩ = false ∧ w.frozen? ⟨R, 3, none⟩ = false :=
  ⟨(cell_of_row _ _ 0 _ _ _ h).trans rfl, (cell_of_row _ _ 1 _ _ _ h).trans rfl, (cell_of_row _ _ 2 _ _ _ h).trans rfl, (cell_of_row _ _ 3 _ _ _ h).trans rfl, blk_frozen h 0, blk_frozen h 1, blk_frozen h 2, blk_frozen h 3⟩
@[reducible] def set4 (w : World) (R : Nat) (a b c d : Value) : World := (((w.setCell ⟨R, 0, none⟩ a).setCell ⟨R, 1, none⟩ b).setCell ⟨R, 2, none⟩ c).setCell ⟨R, 3, none⟩ d
theorem kp_set4 (w : World) (R : Nat) (a b c d : Value) : Kp w (set4 w R a b c d) fun b => b = R :=
  ((((Kp.refl w fun b => b = R).setCell (p := ⟨R, 0, none⟩) (.inl rfl) a).setCell (p := ⟨R, 1, none⟩) (.inl rfl) b).setCell (p := ⟨R, 2, none⟩) (.inl rfl) c).setCell (p := ⟨R, 3, none⟩) (.inl rfl) d
theorem blk_set4 {w : World} {R T : Nat} {a' b' c' d' : Value} (h : w.heap[R]? = some (.cells #[a', b', c', d'] T (0, 0))) (a b c d : Value) : (set4 w R a b c d).heap[R]? = some (.cells #[a, b, c, d] T (0, 0)) := by
  simp [set4, World.setCell, Array.getElem?_modify, h]
/-- Old blocks are as they were, but for g. -/
def KA (w w' : World) (g : Nat) : Prop := Kp w w' fun b => b = g ∨ w.heap.size ≤ b
section
variable {w w1 w2 : World} {g : Nat}
theorem KA.rfl' (w : World) (g : Nat) : KA w w g := Kp.refl _ _
theorem KA.al (h : KA w w1 g) (o : Obj) : KA w (w1.alloc o) g := Kp.alloc h o
theorem KA.drew (h : KA w w1 g) : KA w w1.drew g := Kp.drew h
theorem KA.drewN (h : KA w w1 g) (n : Nat) : KA w (w1.drewN n) g := Kp.drewN h n
theorem KA.call (h : KA w w1 g) (k : Kp w1 w2 fun b => b = g) : KA w w2 g := Kp.trans h k fun b _ e => .inl e
theorem KA.st4 (h : KA w w1 g) {R : Nat} (hR : w.heap.size ≤ R) (a b c d : Value) : KA w (set4 w1 R a b c d) g := Kp.trans h (kp_set4 _ _ _ _ _ _) fun b _ e => .inr (by omega)
theorem KA.kp (h : KA w w1 g) : Kp w w1 fun b => b = g := ⟨h.os, h.tape, h.output, h.size, fun b hb hn => h.block b hb fun e => by rcases e with e | e; exact hn e; omega⟩
theorem KA.cell (h : KA w w1 g) {a : Addr} {v : Value} (hc : w.cell? a = some v) (hg : a.block < g) : w1.cell? a = some v := Kp.cell h.kp hc (by omega)
end
theorem gl_next {w w1 : World} {g R : Nat} (hk : Kp w w1 fun b => b = g) {o : Obj} (h : w.heap[R]? = some o) (hR : g < R) : w1.heap[R]? = some o := hk.blk h (by omega)
theorem any_close {w W : World} {base g : Nat} {bad : Bool} {d : Nat} {A : Option Addr} {n c k : Nat} {zf : Nat → Int} {K O : Int} {t : ByteArray} (hg : Gn bad d (.mk K t [] O)) (hs : St W base g A n c zf k) (hk : KA w W g) :
    AnyPost w base g bad d (.returned (.agg #[.int .i64 K, .string t, .slice none 0 0, .int .i64 O])) W :=
  ⟨.mk K t [] O, none, 0, 0, rfl, .nil _ _, hg, hs.stm, hk.kp⟩
theorem Gn.leaf {bad : Bool} {d : Nat} {x : Nd} (h : leafN bad x) : Gn bad d x := by
  cases d with
  | zero => exact h
  | succ d => exact .inl h

set_option maxRecDepth 100000 in
set_option maxHeartbeats 1000000 in
theorem any_words4 (d : Nat) (bad : Bool) {w : World} {base g : Nat} {A : Option Addr} {n c k : Nat} {zf : Nat → Int} {bw ow cw bt ot ct : Nat} (hs : St w base g A n c zf k) (hw : TabAt w base 2 wordsL bw ow cw) (ht : TabAt w base 1 strsL bt ot ct)
    (hd1 : d ≤ 1000) (hr : nv zf n k 12 < 4) :
    Calls Tryd.prog 11 #[.pointer (some ⟨g, 0, none⟩), .int .i64 (d : Int), .bool bad] w (AnyPost w base g bad d) := by
  have hbg := hs.bg
  have hgl := hs.lt
  have hw1 := hw.vb
  have hw2 := hw.bb
  have ht1 := ht.vb
  have ht2 := ht.bb
  obtain ⟨r1, er1⟩ : ∃ r1 : Nat, r1 = nv zf n k 12 := ⟨_, rfl⟩
  have hr1 : (r1 : Int) < 12 := by rw [er1]; exact nv_lt _ _ _ _ (by omega)
  have hr1' : (0 : Int) ≤ (r1 : Int) := by omega
  obtain ⟨k1, ek1⟩ : ∃ k1 : Nat, k1 = nk n k := ⟨_, rfl⟩
  obtain ⟨r2, er2⟩ : ∃ r2 : Nat, r2 = nv zf n k1 16 := ⟨_, rfl⟩
  have hr2 : (r2 : Int) < 16 := by rw [er2]; exact nv_lt _ _ _ _ (by omega)
  have hr2' : (0 : Int) ≤ (r2 : Int) := by omega
  obtain ⟨k2, ek2⟩ : ∃ k2 : Nat, k2 = nk n k1 := ⟨_, rfl⟩
  rw [← er1] at hr
  have hr4 : (r1 : Int) < 4 := by omega
  have hn11 : ((r1 : Int) == 11) = false := by simp; omega
  have hn10 : ((r1 : Int) == 10) = false := by simp; omega
  obtain ⟨Tr2, hTr2, hcr2⟩ := str_at hw (r := r2) (by simp [wordsL]; omega)
  have tw : w.cell? ⟨2, 0, none⟩ = some (.slice (some ⟨bw, ow, none⟩) 16 cw) := hw.hd
  have Er1 := Lib.hid er1
  have Ek1 := Lib.hid ek1
  have Er2 := Lib.hid er2
  have Ek2 := Lib.hid ek2
  clear er1 ek1 er2 ek2
  have HS0 := Lib.hid hs
  have HK0 := Lib.hid (KA.rfl' w g)
  have Htw := Lib.hid tw
  have HCr2 := Lib.hid hcr2
  have HTr2 := Lib.hid hTr2
  clear hr
  clear hs hw ht tw hcr2 hTr2
  cases bad
  all_goals
    go_enter Tryd.func11, Tryd.ntmps11
    go_wp2_with (go_at_call 33; ((with_reducible refine (next_any 12 (by omega) (by omega) (by exact (HS0.out.al _))).mono ?_); rintro e w1 ⟨he, hs1, hk1⟩; rw [← Er1.out] at he; rw [← Ek1.out] at hs1; subst he; have HS1 := Lib.hid hs1; have HK1 := Lib.hid ((HK0.out.al _).call hk1); have B1 := Lib.hid (gl_next hk1 (heap_alloc_new w _) (by omega)); clear hs1 hk1))
    go_region_held3 (fun w' => w'.cell? ⟨2, 0, none⟩ = some (.slice (some ⟨bw, ow, none⟩) 16 cw) ∧ w'.cell? ⟨bw, ow + r2, none⟩ = some (.string Tr2))
      (first | with_reducible exact ⟨(HK1.out.drew).cell Htw.out (by simp only; omega), (HK1.out.drew).cell HCr2.out (by simp only; omega)⟩ | with_reducible exact ⟨(HK2.out).cell Htw.out (by simp only; omega), (HK2.out).cell HCr2.out (by simp only; omega)⟩ | with_reducible exact ⟨(HK2.out.st4 (Nat.le_refl _) _ _ _ _).cell Htw.out (by simp only; omega), (HK2.out.st4 (Nat.le_refl _) _ _ _ _).cell HCr2.out (by simp only; omega)⟩)
      ((first | (go_at_call 33; first | ((with_reducible refine (next_any 16 (by omega) (by omega) (by exact HS1.out.drew)).mono ?_); rintro e w2 ⟨he, hs2, hk2⟩; rw [← Er2.out] at he; rw [← Ek2.out] at hs2; subst he; have HS2 := Lib.hid hs2; have HK2 := Lib.hid ((HK1.out.drew).call hk2); have B2 := Lib.hid (gl_next hk2 B1.out (by omega)); clear hs2 hk2; obtain ⟨d0, d1, d2, d3, f0, f1, f2, f3⟩ := four B2.out))))
    go_wp2_with fail
    refine bodyPost_ret (results_cell_row rfl _ _ w.heap.size _ _ (0, 0) _ rfl (blk_set4 B2.out _ _ _ _) rfl rfl rfl) rfl ?_
    exact any_close (K := 1) (O := 0) (Gn.leaf (.inl ⟨rfl, rfl, .inl ⟨rfl, HTr2.out⟩⟩)) (HS2.out.kp (kp_set4 _ _ _ _ _ _) (by omega) (fun b hb => by omega)) (HK2.out.st4 (Nat.le_refl _) _ _ _ _)
set_option maxRecDepth 100000 in
set_option maxHeartbeats 1000000 in
theorem any_words0 (d : Nat) (bad : Bool) {w : World} {base g : Nat} {A : Option Addr} {n c k : Nat} {zf : Nat → Int} {bw ow cw bt ot ct : Nat} (hs : St w base g A n c zf k) (hw : TabAt w base 2 wordsL bw ow cw) (ht : TabAt w base 1 strsL bt ot ct)
    (hd1 : d ≤ 1000) (hr : ¬ nv zf n k 12 < 4) (h0 : d = 0) (hb : bad = false ∨ nv zf n k 12 < 10) :
    Calls Tryd.prog 11 #[.pointer (some ⟨g, 0, none⟩), .int .i64 (d : Int), .bool bad] w (AnyPost w base g bad d) := by
  have hbg := hs.bg
  have hgl := hs.lt
  have hw1 := hw.vb
  have hw2 := hw.bb
  have ht1 := ht.vb
  have ht2 := ht.bb
  obtain ⟨r1, er1⟩ : ∃ r1 : Nat, r1 = nv zf n k 12 := ⟨_, rfl⟩
  have hr1 : (r1 : Int) < 12 := by rw [er1]; exact nv_lt _ _ _ _ (by omega)
  have hr1' : (0 : Int) ≤ (r1 : Int) := by omega
  obtain ⟨k1, ek1⟩ : ∃ k1 : Nat, k1 = nk n k := ⟨_, rfl⟩
  obtain ⟨r2, er2⟩ : ∃ r2 : Nat, r2 = nv zf n k1 16 := ⟨_, rfl⟩
  have hr2 : (r2 : Int) < 16 := by rw [er2]; exact nv_lt _ _ _ _ (by omega)
  have hr2' : (0 : Int) ≤ (r2 : Int) := by omega
  obtain ⟨k2, ek2⟩ : ∃ k2 : Nat, k2 = nk n k1 := ⟨_, rfl⟩
  rw [← er1] at hr hb
  have hr4 : ¬ (r1 : Int) < 4 := by omega
  have hd0 : (d : Int) ≤ 0 := by omega
  have hn11 : bad = true → ((r1 : Int) == 11) = false := fun h => by rcases hb with hb | hb; (rw [h] at hb; cases hb); simp; omega
  have hn10 : bad = true → ((r1 : Int) == 10) = false := fun h => by rcases hb with hb | hb; (rw [h] at hb; cases hb); simp; omega
  obtain ⟨Tr2, hTr2, hcr2⟩ := str_at hw (r := r2) (by simp [wordsL]; omega)
  have tw : w.cell? ⟨2, 0, none⟩ = some (.slice (some ⟨bw, ow, none⟩) 16 cw) := hw.hd
  have Er1 := Lib.hid er1
  have Ek1 := Lib.hid ek1
  have Er2 := Lib.hid er2
  have Ek2 := Lib.hid ek2
  clear er1 ek1 er2 ek2
  have HS0 := Lib.hid hs
  have HK0 := Lib.hid (KA.rfl' w g)
  have Htw := Lib.hid tw
  have HCr2 := Lib.hid hcr2
  have HTr2 := Lib.hid hTr2
  clear hr
  clear hs hw ht tw hcr2 hTr2
  cases bad
  all_goals
    go_enter Tryd.func11, Tryd.ntmps11
    go_wp2_with (go_at_call 33; ((with_reducible refine (next_any 12 (by omega) (by omega) (by exact (HS0.out.al _))).mono ?_); rintro e w1 ⟨he, hs1, hk1⟩; rw [← Er1.out] at he; rw [← Ek1.out] at hs1; subst he; have HS1 := Lib.hid hs1; have HK1 := Lib.hid ((HK0.out.al _).call hk1); have B1 := Lib.hid (gl_next hk1 (heap_alloc_new w _) (by omega)); clear hs1 hk1))
    go_region_held3 (fun w' => w'.cell? ⟨2, 0, none⟩ = some (.slice (some ⟨bw, ow, none⟩) 16 cw) ∧ w'.cell? ⟨bw, ow + r2, none⟩ = some (.string Tr2))
      (first | with_reducible exact ⟨(HK1.out.drew).cell Htw.out (by simp only; omega), (HK1.out.drew).cell HCr2.out (by simp only; omega)⟩ | with_reducible exact ⟨(HK2.out).cell Htw.out (by simp only; omega), (HK2.out).cell HCr2.out (by simp only; omega)⟩ | with_reducible exact ⟨(HK2.out.st4 (Nat.le_refl _) _ _ _ _).cell Htw.out (by simp only; omega), (HK2.out.st4 (Nat.le_refl _) _ _ _ _).cell HCr2.out (by simp only; omega)⟩)
      ((first | (go_at_call 33; first | ((with_reducible refine (next_any 16 (by omega) (by omega) (by exact HS1.out.drew)).mono ?_); rintro e w2 ⟨he, hs2, hk2⟩; rw [← Er2.out] at he; rw [← Ek2.out] at hs2; subst he; have HS2 := Lib.hid hs2; have HK2 := Lib.hid ((HK1.out.drew).call hk2); have B2 := Lib.hid (gl_next hk2 B1.out (by omega)); clear hs2 hk2; obtain ⟨d0, d1, d2, d3, f0, f1, f2, f3⟩ := four B2.out))))
    go_wp2_with fail
    refine bodyPost_ret (results_cell_row rfl _ _ w.heap.size _ _ (0, 0) _ rfl (blk_set4 B2.out _ _ _ _) rfl rfl rfl) rfl ?_
    exact any_close (K := 1) (O := 0) (Gn.leaf (.inl ⟨rfl, rfl, .inl ⟨rfl, HTr2.out⟩⟩)) (HS2.out.kp (kp_set4 _ _ _ _ _ _) (by omega) (fun b hb => by omega)) (HK2.out.st4 (Nat.le_refl _) _ _ _ _)
set_option maxRecDepth 100000 in
set_option maxHeartbeats 1000000 in
theorem any_strs (d : Nat) (bad : Bool) {w : World} {base g : Nat} {A : Option Addr} {n c k : Nat} {zf : Nat → Int} {bw ow cw bt ot ct : Nat} (hs : St w base g A n c zf k) (hw : TabAt w base 2 wordsL bw ow cw) (ht : TabAt w base 1 strsL bt ot ct)
    (hd1 : d ≤ 1000) (hr : ¬ nv zf n k 12 < 4) (hr6 : nv zf n k 12 < 6) (h0 : 0 < d) :
    Calls Tryd.prog 11 #[.pointer (some ⟨g, 0, none⟩), .int .i64 (d : Int), .bool bad] w (AnyPost w base g bad d) := by
  have hbg := hs.bg
  have hgl := hs.lt
  have hw1 := hw.vb
  have hw2 := hw.bb
  have ht1 := ht.vb
  have ht2 := ht.bb
  obtain ⟨r1, er1⟩ : ∃ r1 : Nat, r1 = nv zf n k 12 := ⟨_, rfl⟩
  have hr1 : (r1 : Int) < 12 := by rw [er1]; exact nv_lt _ _ _ _ (by omega)
  have hr1' : (0 : Int) ≤ (r1 : Int) := by omega
  obtain ⟨k1, ek1⟩ : ∃ k1 : Nat, k1 = nk n k := ⟨_, rfl⟩
  obtain ⟨r2, er2⟩ : ∃ r2 : Nat, r2 = nv zf n k1 6 := ⟨_, rfl⟩
  have hr2 : (r2 : Int) < 6 := by rw [er2]; exact nv_lt _ _ _ _ (by omega)
  have hr2' : (0 : Int) ≤ (r2 : Int) := by omega
  obtain ⟨k2, ek2⟩ : ∃ k2 : Nat, k2 = nk n k1 := ⟨_, rfl⟩
  rw [← er1] at hr hr6
  have hr4 : ¬ (r1 : Int) < 4 := by omega
  have hi6 : (r1 : Int) < 6 := by omega
  have hd0 : ¬ (d : Int) ≤ 0 := by omega
  have hn11 : ((r1 : Int) == 11) = false := by simp; omega
  have hn10 : ((r1 : Int) == 10) = false := by simp; omega
  obtain ⟨Tr2, hTr2, hcr2⟩ := str_at ht (r := r2) (by simp [strsL]; omega)
  have ts : w.cell? ⟨1, 0, none⟩ = some (.slice (some ⟨bt, ot, none⟩) 6 ct) := ht.hd
  have Er1 := Lib.hid er1
  have Ek1 := Lib.hid ek1
  have Er2 := Lib.hid er2
  have Ek2 := Lib.hid ek2
  clear er1 ek1 er2 ek2
  have HS0 := Lib.hid hs
  have HK0 := Lib.hid (KA.rfl' w g)
  have Hts := Lib.hid ts
  have HCr2 := Lib.hid hcr2
  have HTr2 := Lib.hid hTr2
  clear hr
  clear hs hw ht ts hcr2 hTr2
  cases bad
  all_goals
    go_enter Tryd.func11, Tryd.ntmps11
    go_wp2_with (go_at_call 33; ((with_reducible refine (next_any 12 (by omega) (by omega) (by exact (HS0.out.al _))).mono ?_); rintro e w1 ⟨he, hs1, hk1⟩; rw [← Er1.out] at he; rw [← Ek1.out] at hs1; subst he; have HS1 := Lib.hid hs1; have HK1 := Lib.hid ((HK0.out.al _).call hk1); have B1 := Lib.hid (gl_next hk1 (heap_alloc_new w _) (by omega)); clear hs1 hk1))
    go_region_held3 (fun w' => w'.cell? ⟨1, 0, none⟩ = some (.slice (some ⟨bt, ot, none⟩) 6 ct) ∧ w'.cell? ⟨bt, ot + r2, none⟩ = some (.string Tr2))
      (first | with_reducible exact ⟨(HK1.out.drew).cell Hts.out (by simp only; omega), (HK1.out.drew).cell HCr2.out (by simp only; omega)⟩ | with_reducible exact ⟨(HK2.out).cell Hts.out (by simp only; omega), (HK2.out).cell HCr2.out (by simp only; omega)⟩ | with_reducible exact ⟨(HK2.out.st4 (Nat.le_refl _) _ _ _ _).cell Hts.out (by simp only; omega), (HK2.out.st4 (Nat.le_refl _) _ _ _ _).cell HCr2.out (by simp only; omega)⟩)
      ((first | (go_at_call 33; first | ((with_reducible refine (next_any 6 (by omega) (by omega) (by exact HS1.out.drew)).mono ?_); rintro e w2 ⟨he, hs2, hk2⟩; rw [← Er2.out] at he; rw [← Ek2.out] at hs2; subst he; have HS2 := Lib.hid hs2; have HK2 := Lib.hid ((HK1.out.drew).call hk2); have B2 := Lib.hid (gl_next hk2 B1.out (by omega)); clear hs2 hk2; obtain ⟨d0, d1, d2, d3, f0, f1, f2, f3⟩ := four B2.out))))
    go_wp2_with fail
    refine bodyPost_ret (results_cell_row rfl _ _ w.heap.size _ _ (0, 0) _ rfl (blk_set4 B2.out _ _ _ _) rfl rfl rfl) rfl ?_
    exact any_close (K := 2) (O := 0) (Gn.leaf (.inl ⟨rfl, rfl, .inr ⟨rfl, HTr2.out⟩⟩)) (HS2.out.kp (kp_set4 _ _ _ _ _ _) (by omega) (fun b hb => by omega)) (HK2.out.st4 (Nat.le_refl _) _ _ _ _)
set_option maxRecDepth 100000 in
set_option maxHeartbeats 1000000 in
theorem any_bad10 (d : Nat) (bad : Bool) {w : World} {base g : Nat} {A : Option Addr} {n c k : Nat} {zf : Nat → Int} {bw ow cw bt ot ct : Nat} (hs : St w base g A n c zf k) (hw : TabAt w base 2 wordsL bw ow cw) (ht : TabAt w base 1 strsL bt ot ct)
    (hd1 : d ≤ 1000) (hr : nv zf n k 12 = 10) (hbad : bad = true) :
    Calls Tryd.prog 11 #[.pointer (some ⟨g, 0, none⟩), .int .i64 (d : Int), .bool bad] w (AnyPost w base g bad d) := by
  have hbg := hs.bg
  have hgl := hs.lt
  have hw1 := hw.vb
  have hw2 := hw.bb
  have ht1 := ht.vb
  have ht2 := ht.bb
  obtain ⟨r1, er1⟩ : ∃ r1 : Nat, r1 = nv zf n k 12 := ⟨_, rfl⟩
  have hr1 : (r1 : Int) < 12 := by rw [er1]; exact nv_lt _ _ _ _ (by omega)
  have hr1' : (0 : Int) ≤ (r1 : Int) := by omega
  obtain ⟨k1, ek1⟩ : ∃ k1 : Nat, k1 = nk n k := ⟨_, rfl⟩
  obtain ⟨r2, er2⟩ : ∃ r2 : Nat, r2 = nv zf n k1 6 := ⟨_, rfl⟩
  have hr2 : (r2 : Int) < 6 := by rw [er2]; exact nv_lt _ _ _ _ (by omega)
  have hr2' : (0 : Int) ≤ (r2 : Int) := by omega
  obtain ⟨k2, ek2⟩ : ∃ k2 : Nat, k2 = nk n k1 := ⟨_, rfl⟩
  obtain ⟨r3, er3⟩ : ∃ r3 : Int, r3 = rv zf n k2 := ⟨_, rfl⟩
  obtain ⟨k3, ek3⟩ : ∃ k3 : Nat, k3 = nk n k2 := ⟨_, rfl⟩
  rw [← er1] at hr
  have hn11 : ((r1 : Int) == 11) = false := by simp; omega
  have hn10 : ((r1 : Int) == 10) = true := by simp; omega
  obtain ⟨Tr2, hTr2, hcr2⟩ := str_at ht (r := r2) (by simp [strsL]; omega)
  have ts : w.cell? ⟨1, 0, none⟩ = some (.slice (some ⟨bt, ot, none⟩) 6 ct) := ht.hd
  have Er1 := Lib.hid er1
  have Ek1 := Lib.hid ek1
  have Er2 := Lib.hid er2
  have Ek2 := Lib.hid ek2
  have Er3 := Lib.hid er3
  have Ek3 := Lib.hid ek3
  clear er1 ek1 er2 ek2 er3 ek3
  have HS0 := Lib.hid hs
  have HK0 := Lib.hid (KA.rfl' w g)
  have Hts := Lib.hid ts
  have HCr2 := Lib.hid hcr2
  have HTr2 := Lib.hid hTr2
  clear hr
  clear hs hw ht ts hcr2 hTr2
  subst hbad
  go_enter Tryd.func11, Tryd.ntmps11
  go_wp2_with (go_at_call 33; ((with_reducible refine (next_any 12 (by omega) (by omega) (by exact (HS0.out.al _))).mono ?_); rintro e w1 ⟨he, hs1, hk1⟩; rw [← Er1.out] at he; rw [← Ek1.out] at hs1; subst he; have HS1 := Lib.hid hs1; have HK1 := Lib.hid ((HK0.out.al _).call hk1); have B1 := Lib.hid (gl_next hk1 (heap_alloc_new w _) (by omega)); clear hs1 hk1))
  go_region_held3 (fun w' => w'.cell? ⟨1, 0, none⟩ = some (.slice (some ⟨bt, ot, none⟩) 6 ct) ∧ w'.cell? ⟨bt, ot + r2, none⟩ = some (.string Tr2))
    (first | with_reducible exact ⟨(HK1.out.drew).cell Hts.out (by simp only; omega), (HK1.out.drew).cell HCr2.out (by simp only; omega)⟩ | with_reducible exact ⟨(HK2.out).cell Hts.out (by simp only; omega), (HK2.out).cell HCr2.out (by simp only; omega)⟩ | with_reducible exact ⟨(HK3.out).cell Hts.out (by simp only; omega), (HK3.out).cell HCr2.out (by simp only; omega)⟩ | with_reducible exact ⟨(HK3.out.st4 (Nat.le_refl _) _ _ _ _).cell Hts.out (by simp only; omega), (HK3.out.st4 (Nat.le_refl _) _ _ _ _).cell HCr2.out (by simp only; omega)⟩)
    ((first | (go_at_call 33; first | ((with_reducible refine (next_any 6 (by omega) (by omega) (by exact HS1.out.drew)).mono ?_); rintro e w2 ⟨he, hs2, hk2⟩; rw [← Er2.out] at he; rw [← Ek2.out] at hs2; subst he; have HS2 := Lib.hid hs2; have HK2 := Lib.hid ((HK1.out.drew).call hk2); have B2 := Lib.hid (gl_next hk2 B1.out (by omega)); clear hs2 hk2)) | (go_at_call 34; ((with_reducible refine (raw_any (by exact HS2.out)).mono ?_); rintro e w3 ⟨he, hs3, hk3⟩; rw [← Er3.out] at he; rw [← Ek3.out] at hs3; subst he; have HS3 := Lib.hid hs3; have HK3 := Lib.hid ((HK2.out).call hk3); have B3 := Lib.hid (gl_next hk3 B2.out (by omega)); clear hs3 hk3; obtain ⟨d0, d1, d2, d3, f0, f1, f2, f3⟩ := four B3.out))))
  go_wp2_with fail
  refine bodyPost_ret (results_cell_row rfl _ _ w.heap.size _ _ (0, 0) _ rfl (blk_set4 B3.out _ _ _ _) rfl rfl rfl) rfl ?_
  exact any_close (K := 1) (O := r3) (Gn.leaf (.inr ⟨rfl, HTr2.out, .inl ⟨rfl, rfl⟩⟩)) (HS3.out.kp (kp_set4 _ _ _ _ _ _) (by omega) (fun b hb => by omega)) (HK3.out.st4 (Nat.le_refl _) _ _ _ _)
theorem rd_one {w : World} {R T B : Nat} {u : ByteArray} {a b c d : Value} {ok : Nat → Prop} (hB : B = w.heap.size) (hR : R < B) (hok : ok B) :
    Rd (set4 (w.alloc (.cells #[.int .i64 1, .string u, .slice none 0 0, .int .i64 0] T (0, 0))) R a b c d) ok (.slice (some ⟨B, 0, none⟩) 1 1) (.sl T 4 (ndsTr T [.mk 1 u [] 0])) := by
  subst hB
  refine .row _ 0 1 1 T 4 #[.int .i64 1, .string u, .slice none 0 0, .int .i64 0] (0, 0) [.int .i64 1, .string u, .slice none 0 0, .int .i64 0] _ hok ?_ (by omega) (by decide) rfl rfl (fun j hj => by simp) (fun j v e hv he => ?_)
  · exact (kp_set4 _ _ _ _ _ _).blk (heap_alloc_new w _) (by omega)
  · match j with
    | 0 => simp [ndsTr, Nd.tr] at hv he; subst hv he; exact .sc _
    | 1 => simp [ndsTr, Nd.tr] at hv he; subst hv he; exact .sc _
    | 2 => simp [ndsTr, Nd.tr] at hv he; subst hv he; exact .nil _ _
    | 3 => simp [ndsTr, Nd.tr] at hv he; subst hv he; exact .sc _
    | j + 4 => simp at hv
theorem any_close1 {w W : World} {base g : Nat} {bad : Bool} {d : Nat} {A : Option Addr} {n c k : Nat} {zf : Nat → Int} {K : Int} {t u : ByteArray} {v : Option Addr} (hg : Gn bad d (.mk K t [.mk 1 u [] 0] 0)) (hs : St W base g A n c zf k) (hk : KA w W g)
    (hr : Rd W (fun b => w.heap.size ≤ b) (.slice v 1 1) (.sl 26 4 (ndsTr 26 [.mk 1 u [] 0]))) : AnyPost w base g bad d (.returned (.agg #[.int .i64 K, .string t, .slice v 1 1, .int .i64 0])) W :=
  ⟨.mk K t [.mk 1 u [] 0] 0, v, 1, 1, rfl, hr, hg, hs.stm, hk.kp⟩
theorem blk_al {w : World} {b : Nat} {o o' : Obj} (h : w.heap[b]? = some o) : (w.alloc o').heap[b]? = some o := (Below.heap_alloc _ _ _ (lt_of_block h)).trans h
set_option maxRecDepth 100000 in
set_option maxHeartbeats 1000000 in
theorem any_bad11 (d : Nat) (bad : Bool) {w : World} {base g : Nat} {A : Option Addr} {n c k : Nat} {zf : Nat → Int} {bw ow cw bt ot ct : Nat} (hs : St w base g A n c zf k) (hw : TabAt w base 2 wordsL bw ow cw) (ht : TabAt w base 1 strsL bt ot ct)
    (hd1 : d ≤ 1000) (hr : nv zf n k 12 = 11) (hbad : bad = true) :
    Calls Tryd.prog 11 #[.pointer (some ⟨g, 0, none⟩), .int .i64 (d : Int), .bool bad] w (AnyPost w base g bad d) := by
  have hbg := hs.bg
  have hgl := hs.lt
  have hw1 := hw.vb
  have hw2 := hw.bb
  have ht1 := ht.vb
  have ht2 := ht.bb
  obtain ⟨r1, er1⟩ : ∃ r1 : Nat, r1 = nv zf n k 12 := ⟨_, rfl⟩
  have hr1 : (r1 : Int) < 12 := by rw [er1]; exact nv_lt _ _ _ _ (by omega)
  have hr1' : (0 : Int) ≤ (r1 : Int) := by omega
  obtain ⟨k1, ek1⟩ : ∃ k1 : Nat, k1 = nk n k := ⟨_, rfl⟩
  obtain ⟨r2, er2⟩ : ∃ r2 : Nat, r2 = nv zf n k1 5 := ⟨_, rfl⟩
  have hr2 : (r2 : Int) < 5 := by rw [er2]; exact nv_lt _ _ _ _ (by omega)
  have hr2' : (0 : Int) ≤ (r2 : Int) := by omega
  obtain ⟨k2, ek2⟩ : ∃ k2 : Nat, k2 = nk n k1 := ⟨_, rfl⟩
  obtain ⟨r3, er3⟩ : ∃ r3 : Nat, r3 = nv zf n k2 6 := ⟨_, rfl⟩
  have hr3 : (r3 : Int) < 6 := by rw [er3]; exact nv_lt _ _ _ _ (by omega)
  have hr3' : (0 : Int) ≤ (r3 : Int) := by omega
  obtain ⟨k3, ek3⟩ : ∃ k3 : Nat, k3 = nk n k2 := ⟨_, rfl⟩
  obtain ⟨r4, er4⟩ : ∃ r4 : Nat, r4 = nv zf n k3 16 := ⟨_, rfl⟩
  have hr4 : (r4 : Int) < 16 := by rw [er4]; exact nv_lt _ _ _ _ (by omega)
  have hr4' : (0 : Int) ≤ (r4 : Int) := by omega
  obtain ⟨k4, ek4⟩ : ∃ k4 : Nat, k4 = nk n k3 := ⟨_, rfl⟩
  rw [← er1] at hr
  have hn11 : ((r1 : Int) == 11) = true := by simp; omega
  obtain ⟨Tr3, hTr3, hcr3⟩ := str_at ht (r := r3) (by simp [strsL]; omega)
  have ts : w.cell? ⟨1, 0, none⟩ = some (.slice (some ⟨bt, ot, none⟩) 6 ct) := ht.hd
  obtain ⟨Tr4, hTr4, hcr4⟩ := str_at hw (r := r4) (by simp [wordsL]; omega)
  have tw : w.cell? ⟨2, 0, none⟩ = some (.slice (some ⟨bw, ow, none⟩) 16 cw) := hw.hd
  have Er1 := Lib.hid er1
  have Ek1 := Lib.hid ek1
  have Er2 := Lib.hid er2
  have Ek2 := Lib.hid ek2
  have Er3 := Lib.hid er3
  have Ek3 := Lib.hid ek3
  have Er4 := Lib.hid er4
  have Ek4 := Lib.hid ek4
  clear er1 ek1 er2 ek2 er3 ek3 er4 ek4
  have HS0 := Lib.hid hs
  have HK0 := Lib.hid (KA.rfl' w g)
  have Hts := Lib.hid ts
  have HCr3 := Lib.hid hcr3
  have HTr3 := Lib.hid hTr3
  have Htw := Lib.hid tw
  have HCr4 := Lib.hid hcr4
  have HTr4 := Lib.hid hTr4
  clear hr
  clear hs hw ht ts hcr3 hTr3 tw hcr4 hTr4
  subst hbad
  go_enter Tryd.func11, Tryd.ntmps11
  go_wp2_with (go_at_call 33; ((with_reducible refine (next_any 12 (by omega) (by omega) (by exact (HS0.out.al _))).mono ?_); rintro e w1 ⟨he, hs1, hk1⟩; rw [← Er1.out] at he; rw [← Ek1.out] at hs1; subst he; have HS1 := Lib.hid hs1; have HK1 := Lib.hid ((HK0.out.al _).call hk1); have B1 := Lib.hid (gl_next hk1 (heap_alloc_new w _) (by omega)); clear hs1 hk1))
  go_region_held3 (fun w' => w'.cell? ⟨1, 0, none⟩ = some (.slice (some ⟨bt, ot, none⟩) 6 ct) ∧ w'.cell? ⟨bt, ot + r3, none⟩ = some (.string Tr3) ∧ w'.cell? ⟨2, 0, none⟩ = some (.slice (some ⟨bw, ow, none⟩) 16 cw) ∧ w'.cell? ⟨bw, ow + r4, none⟩ = some (.string Tr4))
    (first | with_reducible exact ⟨(HK1.out.drew).cell Hts.out (by simp only; omega), (HK1.out.drew).cell HCr3.out (by simp only; omega), (HK1.out.drew).cell Htw.out (by simp only; omega), (HK1.out.drew).cell HCr4.out (by simp only; omega)⟩ | with_reducible exact ⟨(HK2.out).cell Hts.out (by simp only; omega), (HK2.out).cell HCr3.out (by simp only; omega), (HK2.out).cell Htw.out (by simp only; omega), (HK2.out).cell HCr4.out (by simp only; omega)⟩ | with_reducible exact ⟨(HK3.out).cell Hts.out (by simp only; omega), (HK3.out).cell HCr3.out (by simp only; omega), (HK3.out).cell Htw.out (by simp only; omega), (HK3.out).cell HCr4.out (by simp only; omega)⟩ | with_reducible exact ⟨(HK4.out).cell Hts.out (by simp only; omega), (HK4.out).cell HCr3.out (by simp only; omega), (HK4.out).cell Htw.out (by simp only; omega), (HK4.out).cell HCr4.out (by simp only; omega)⟩ | with_reducible exact ⟨(HK4.out.al _).cell Hts.out (by simp only; omega), (HK4.out.al _).cell HCr3.out (by simp only; omega), (HK4.out.al _).cell Htw.out (by simp only; omega), (HK4.out.al _).cell HCr4.out (by simp only; omega)⟩ | with_reducible exact ⟨((HK4.out.al _).st4 (Nat.le_refl _) _ _ _ _).cell Hts.out (by simp only; omega), ((HK4.out.al _).st4 (Nat.le_refl _) _ _ _ _).cell HCr3.out (by simp only; omega), ((HK4.out.al _).st4 (Nat.le_refl _) _ _ _ _).cell Htw.out (by simp only; omega), ((HK4.out.al _).st4 (Nat.le_refl _) _ _ _ _).cell HCr4.out (by simp only; omega)⟩)
    ((first | (go_at_call 33; first | ((with_reducible refine (next_any 5 (by omega) (by omega) (by exact HS1.out.drew)).mono ?_); rintro e w2 ⟨he, hs2, hk2⟩; rw [← Er2.out] at he; rw [← Ek2.out] at hs2; subst he; have HS2 := Lib.hid hs2; have HK2 := Lib.hid ((HK1.out.drew).call hk2); have B2 := Lib.hid (gl_next hk2 B1.out (by omega)); clear hs2 hk2) | ((with_reducible refine (next_any 6 (by omega) (by omega) (by exact HS2.out)).mono ?_); rintro e w3 ⟨he, hs3, hk3⟩; rw [← Er3.out] at he; rw [← Ek3.out] at hs3; subst he; have HS3 := Lib.hid hs3; have HK3 := Lib.hid ((HK2.out).call hk3); have B3 := Lib.hid (gl_next hk3 B2.out (by omega)); clear hs3 hk3) | ((with_reducible refine (next_any 16 (by omega) (by omega) (by exact HS3.out)).mono ?_); rintro e w4 ⟨he, hs4, hk4⟩; rw [← Er4.out] at he; rw [← Ek4.out] at hs4; subst he; have HS4 := Lib.hid hs4; have HK4 := Lib.hid ((HK3.out).call hk4); have B4 := Lib.hid (gl_next hk4 B3.out (by omega)); clear hs4 hk4; obtain ⟨d0, d1, d2, d3, f0, f1, f2, f3⟩ := four (blk_al (o' := .cells #[.int .i64 1, .string Tr4, .slice none 0 0, .int .i64 0] 26) B4.out)))))
  go_wp2_with fail
  have hz := lt_of_block B4.out
  refine bodyPost_ret (results_cell_row rfl _ _ w.heap.size _ _ (0, 0) _ rfl (blk_set4 (blk_al B4.out) _ _ _ _) rfl rfl rfl) rfl ?_
  refine any_close1 (u := Tr4) (Gn.leaf (.inr ⟨rfl, HTr3.out, .inr ⟨⟨_, HTr4.out, rfl⟩, hr2', hr2, rfl⟩⟩)) ((HS4.out.al _).kp (kp_set4 _ _ _ _ _ _) (by omega) (fun b hb => by omega)) ((HK4.out.al _).st4 (Nat.le_refl _) _ _ _ _) ?_
  exact rd_one rfl hz (by omega)

theorem anode_info : (Tryd.prog.info? 26).map (fun i => (i.zero, i.size, i.bytes)) = some (some (.agg #[.int .i64 0, .string ⟨#[]⟩, .slice none 0 0, .int .i64 0]), 4, 56) := by kernel_rfl
theorem blk_al_at {w : World} {n : Nat} (o : Obj) (h : n = w.heap.size) : (w.alloc o).heap[n]? = some o := by subst h; exact heap_alloc_new w o

/-- The loop of AnyNode: the stream, the node at h, the children l in v. -/
structure LI (w wr : World) (base g h : Nat) (bad : Bool) (d : Nat) (v : Value) (l : List Nd) : Prop where
  st : Stm wr base g
  ka : KA w wr g
  ki : KI 26 h (.int .i64 3) (.string ⟨#[]⟩) (.int .i64 0) wr v l
  rb : wr.heap[w.heap.size]? = some (.cells #[.int .i64 0, .string ⟨#[]⟩, .slice none 0 0, .int .i64 0] 26 (0, 0))
  gn : ∀ y ∈ l, Gn bad d y
  lt1 : w.heap.size < h
  lt2 : g < w.heap.size
theorem LI.drew {w wr : World} {base g h : Nat} {bad : Bool} {d : Nat} {v : Value} {l : List Nd} (k : LI w wr base g h bad d v l) : LI w wr.drew base g h bad d v l := ⟨k.st.drew, k.ka.drew, k.ki.drew, k.rb, k.gn, k.lt1, k.lt2⟩
theorem LI.call {w wr w2 : World} {base g h : Nat} {bad : Bool} {d : Nat} {v : Value} {l : List Nd} (k : LI w wr base g h bad d v l) (hs : Stm w2 base g) (hk : Kp wr w2 fun b => b = g) : LI w w2 base g h bad d v l :=
  ⟨hs, k.ka.call hk, k.ki.kp hk (fun b hb => by have := k.lt1; have := k.lt2; omega), hk.blk k.rb (by have := k.lt2; omega), k.gn, k.lt1, k.lt2⟩
theorem LI.push {w wr W w1 : World} {base g g1 cap1 h : Nat} {bad : Bool} {d : Nat} {v kv : Value} {l : List Nd} {x : Nd} {xs : List Value} (k : LI w wr base g h bad d v l) (hW : Below wr.heap.size wr W) (hr : RdL wr (okK (h + 1) v) xs (ndsTr 26 l)) (hx : Rd wr (okK (h + 1) v) kv (.sl 26 4 (ndsTr 26 x.kids)))
    (hgx : Gn bad d x) (h1 : w1.ownsRow (h + 1) 26 4 (.slice (some ⟨g1, 0, none⟩) (l.length + 1) cap1) (l.length + 1) (xs ++ [.int .i64 x.kind, .string x.text, kv, .int .i64 x.off])) (hgrow : W.grownBy w1 v.ownBlock)
    (hat : v.ownBlock = some g1 ∨ wr.heap.size ≤ g1) : LI w (w1.setCell ⟨h, 2, none⟩ (.slice (some ⟨g1, 0, none⟩) (l.length + 1) cap1)) base g h bad d (.slice (some ⟨g1, 0, none⟩) (l.length + 1) cap1) (l ++ [x]) := by
  have e1 := k.lt1
  have e2 := k.lt2
  have e3 := k.ki.lt
  have e4 : ∀ b, v.ownBlock = some b → h + 1 ≤ b := fun b hb => (k.ki.own.lt b hb).1
  have hold : ∀ b, b < h → (w1.setCell ⟨h, 2, none⟩ (.slice (some ⟨g1, 0, none⟩) (l.length + 1) cap1)).heap[b]? = wr.heap[b]? := fun b hb =>
    (Below.heap_setCell _ _ _ b (by simp only; omega)).trans ((hgrow.block b (by have := hW.size; omega) (fun e => by have := e4 b e.symm; omega)).trans (hW.block b (by omega)))
  have hkk : Kp wr (w1.setCell ⟨h, 2, none⟩ (.slice (some ⟨g1, 0, none⟩) (l.length + 1) cap1)) fun b => h ≤ b :=
    (((Kp.of_below hW fun b => h ≤ b).grown hgrow (fun b hb => .inl (by have := e4 b hb; omega)))).setCell (p := ⟨h, 2, none⟩) (.inl (Nat.le_refl _)) _
  refine ⟨k.st.kp hkk (by omega) (fun b hb e => by have := k.st.bg; omega), Kp.trans k.ka hkk (fun b hb e => .inr (by omega)), k.ki.push hW hr hx h1 hgrow hat, (hold _ e1).trans k.rb, fun y hy => ?_, e1, e2⟩
  rcases List.mem_append.1 hy with hy | hy
  · exact k.gn y hy
  · rw [List.mem_singleton.1 hy]; exact hgx

theorem LI.post {w wr : World} {base g h i C : Nat} {bad : Bool} {d : Nat} {A : Option Addr} {l : List Nd} (k : LI w wr base g h bad d (.slice A i C) l) (hl : l.length ≤ 4) :
    AnyPost w base g bad (d + 1) (.returned (.agg #[.int .i64 3, .string ⟨#[]⟩, .slice A i C, .int .i64 0])) (set4 wr w.heap.size (.int .i64 3) (.string ⟨#[]⟩) (.slice A i C) (.int .i64 0)) := by
  have e1 := k.lt1
  have e2 := k.lt2
  have e3 := k.st.bg
  refine ⟨.mk 3 ⟨#[]⟩ l 0, A, i, C, rfl, ?_, .inr ⟨rfl, rfl, rfl, hl, k.gn⟩, k.st.kp (kp_set4 _ _ _ _ _ _) (by omega) (fun b hb => by omega), (k.ka.st4 (Nat.le_refl _) _ _ _ _).kp⟩
  exact ((k.ki.rd (ok' := fun b => h + 1 ≤ b) (fun b hb => hb)).kp (kp_set4 _ _ _ _ _ _) (fun b hb => by omega)).mono (fun b hb _ => by omega)
set_option maxRecDepth 100000 in
set_option maxHeartbeats 2000000 in
theorem any_list (d : Nat) (bad : Bool) {w : World} {base g : Nat} {A : Option Addr} {n c k : Nat} {zf : Nat → Int} (hs : St w base g A n c zf k) (hw : Tab w base 2 wordsL) (ht : Tab w base 1 strsL)
    (hd1 : d + 1 ≤ 1000) (hr : ¬ nv zf n k 12 < 6) (hb : bad = false ∨ nv zf n k 12 < 10)
    (ih : ∀ W : World, Stm W base g → Tab W base 2 wordsL → Tab W base 1 strsL → Calls Tryd.prog 11 #[.pointer (some ⟨g, 0, none⟩), .int .i64 (d : Int), .bool bad] W (AnyPost W base g bad d)) :
    Calls Tryd.prog 11 #[.pointer (some ⟨g, 0, none⟩), .int .i64 ((d : Int) + 1), .bool bad] w (AnyPost w base g bad (d + 1)) := by
  have hbg := hs.bg
  have hgl := hs.lt
  obtain ⟨r1, er1⟩ : ∃ r1 : Nat, r1 = nv zf n k 12 := ⟨_, rfl⟩
  have hr1 : (r1 : Int) < 12 := by rw [er1]; exact nv_lt _ _ _ _ (by omega)
  have hr1' : (0 : Int) ≤ (r1 : Int) := by omega
  obtain ⟨k1, ek1⟩ : ∃ k1 : Nat, k1 = nk n k := ⟨_, rfl⟩
  obtain ⟨r2, er2⟩ : ∃ r2 : Nat, r2 = nv zf n k1 5 := ⟨_, rfl⟩
  have hr2 : (r2 : Int) < 5 := by rw [er2]; exact nv_lt _ _ _ _ (by omega)
  have hr2' : (0 : Int) ≤ (r2 : Int) := by omega
  obtain ⟨k2, ek2⟩ : ∃ k2 : Nat, k2 = nk n k1 := ⟨_, rfl⟩
  rw [← er1] at hr hb
  have hr6 : ¬ (r1 : Int) < 6 := by omega
  have hr4 : ¬ (r1 : Int) < 4 := by omega
  have hd0 : ¬ (d : Int) + 1 ≤ 0 := by omega
  have hwr : IntKind.i64.wrap (d : Int) = (d : Int) := IntWalk.i64_in _ (by omega)
  have hn11 : bad = true → ((r1 : Int) == 11) = false := fun h => by rcases hb with hb | hb; (rw [h] at hb; cases hb); simp; omega
  have hn10 : bad = true → ((r1 : Int) == 10) = false := fun h => by rcases hb with hb | hb; (rw [h] at hb; cases hb); simp; omega
  have Er1 := Lib.hid er1
  have Ek1 := Lib.hid ek1
  have Er2 := Lib.hid er2
  have Ek2 := Lib.hid ek2
  clear er1 ek1 er2 ek2
  obtain ⟨i0, hi, hz0, hz1, hz2⟩ := info_parts anode_info
  have HS0 := Lib.hid hs
  have HK0 := Lib.hid (KA.rfl' w g)
  have IH := Lib.hid ih
  have HW := Lib.hid hw
  have HT := Lib.hid ht
  clear hs ih hw ht hr
  cases bad
  · go_enter Tryd.func11, Tryd.ntmps11
    go_wp2_with (go_at_call 33; ((with_reducible refine (next_any 12 (by omega) (by omega) (by exact (HS0.out.al _))).mono ?_); rintro e w1 ⟨he, hs1, hk1⟩; rw [← Er1.out] at he; rw [← Ek1.out] at hs1; subst he; have HS1 := Lib.hid hs1; have HK1 := Lib.hid ((HK0.out.al _).call hk1); have B1 := Lib.hid (gl_next hk1 (heap_alloc_new w _) (by omega)); clear hs1 hk1))
    refine (next_any 5 (by omega) (by omega) (HS1.out.al _)).mono ?_
    rintro e w2 ⟨he, hs2, hk2⟩
    rw [← Er2.out] at he
    subst he
    have HL := Lib.hid (show LI w w2 base g w1.heap.size false d (.slice none 0 0) [] from ⟨hs2.stm, (HK1.out.al _).call hk2, KI.start (gl_next hk2 (heap_alloc_new w1 _) (by have := lt_of_block B1.out; omega)), gl_next hk2 (blk_al B1.out) (by omega), (fun _ h => by cases h), lt_of_block B1.out, hgl⟩)
    clear hs2 hk2
    go_wp2_with fail
    go_loopg [10] r2 (fun q iv wr => ∃ (i : Nat) (v : Value) (l : List Nd), iv = .int .i64 (i : Int) ∧ Hid (i ≤ r2 ∧ q = r2 - i ∧ l.length = i ∧ LI w wr base g w1.heap.size false d v l))
    case atStart => exact ⟨0, _, [], rfl, Nat.zero_le _, rfl, rfl, HL.out⟩
    case round =>
      obtain ⟨i, v, l, rfl, HR⟩ := hrel
      obtain ⟨q1, q2, q3, hL⟩ := HR.out
      obtain ⟨A2, C2, rfl, hC1, hC2⟩ := hL.ki.own.slice
      rw [q3] at hC1 hL
      obtain ⟨d0, d1, d2, d3, f0, f1, f2, f3⟩ := four hL.ki.hb
      have HLR := Lib.hid hL
      have HQ := Lib.hid q2
      have HLN := Lib.hid q3
      clear hL q2 q3 HR hC1 hC2
      by_cases hlt : i < r2
      · have hlt' : (i : Int) < (r2 : Int) := by omega
        go_wp2_with fail
        go_region_law ((first
          | (refine step_append_lies _ (by rfl) (.tmp 89) (.tmp 95) 24 (by rfl) (w1.heap.size + 1) 26 i0 _ 4 56 Tryd.underlying24 hi hz0 hz1 hz2 rfl (by omega) (.slice A2 i C2) i xs (by rfl) (HOWN.out.alloc _) ⟨w3.heap.size, 0, none⟩ 1 1 [.int .i64 x.kind, .string x.text, .slice A3 n3 c3, .int .i64 x.off] (by rfl) rfl (World.news_of_block (cs := #[.int .i64 x.kind, .string x.text, .slice A3 n3 c3, .int .i64 x.off]) (t := 26) (fr := (0, 0)) (heap_alloc_new w3 _)) (by simp [Value.oneCell']) (by omega) (by simp only [maxLen]; omega) (by omega) (by have := HL3.out.ki.lt; simp; omega) (w3.heap.size + 1) (by simp) ?_; intro g1 cap1 w4 hown2 hgrow hat hlt4; obtain ⟨p0, p1, p2, p3, s0, s1, s2, s3⟩ := four ((hgrow.block w1.heap.size (by have := HL3.out.ki.lt; simp; omega) (Ne.symm HL3.out.ki.far)).trans (blk_al HL3.out.ki.hb)))
          | (go_simp; go_at_call 11; (with_reducible refine (IH.out _ (by exact HLR.out.st.drew) (by exact HW.out.kp HLR.out.ka.drew.kp (fun b hb => by omega)) (by exact HT.out.kp HLR.out.ka.drew.kp (fun b hb => by omega))).mono ?_); rintro e w3 ⟨x, A3, n3, c3, rfl, hx3, hg3, hs3, hk3⟩; have hL3 := HLR.out.drew.call hs3 hk3; obtain ⟨d0', d1', d2', d3', f0', f1', f2', f3'⟩ := four hL3.ki.hb; obtain ⟨xs, hown, hrl⟩ := hL3.ki.own; rw [HLN.out] at hown; have e2 : ∀ y, (w3.alloc y).cell? ⟨w1.heap.size, 2, none⟩ = some (.slice A2 i C2) := (fun y => (World.cell?_alloc_lt w3 y _ hL3.ki.lt).trans d2'); have HL3 := Lib.hid hL3; have HOWN := Lib.hid hown; have HRL := Lib.hid hrl; have HX3 := Lib.hid hx3; have HG3 := Lib.hid hg3; clear hL3 hown hrl hx3 hg3 hs3 hk3)))
        all_goals
          go_wp2_with fail
          go_roundg (r2 - (i + 1))
          case measure => have := HQ.out; omega
          case rel =>
            have hp := HL3.out.push (x := x) ((Below.refl _ _).alloc (Nat.le_refl _) _) HRL.out (HLR.out.ki.fresh HX3.out) HG3.out (by rw [HLN.out]; exact hown2) hgrow (hat.imp id (fun e => by omega))
            rw [HLN.out] at hp
            exact ⟨i + 1, _, l ++ [x], by simp, by omega, rfl, by simp [HLN.out], hp⟩
      · have hge : r2 ≤ i := by omega
        obtain ⟨b0, b1, b2, b3, z0, z1, z2, z3⟩ := four HLR.out.rb
        go_wp2_with fail
        refine bodyPost_ret (results_cell_row rfl _ _ w.heap.size _ _ (0, 0) _ rfl (blk_set4 HLR.out.rb _ _ _ _) rfl rfl rfl) rfl ?_
        exact HLR.out.post (by rw [HLN.out]; omega)
  · go_enter Tryd.func11, Tryd.ntmps11
    go_wp2_with (go_at_call 33; ((with_reducible refine (next_any 12 (by omega) (by omega) (by exact (HS0.out.al _))).mono ?_); rintro e w1 ⟨he, hs1, hk1⟩; rw [← Er1.out] at he; rw [← Ek1.out] at hs1; subst he; have HS1 := Lib.hid hs1; have HK1 := Lib.hid ((HK0.out.al _).call hk1); have B1 := Lib.hid (gl_next hk1 (heap_alloc_new w _) (by omega)); clear hs1 hk1))
    refine (next_any 5 (by omega) (by omega) (HS1.out.al _)).mono ?_
    rintro e w2 ⟨he, hs2, hk2⟩
    rw [← Er2.out] at he
    subst he
    have HL := Lib.hid (show LI w w2 base g w1.heap.size true d (.slice none 0 0) [] from ⟨hs2.stm, (HK1.out.al _).call hk2, KI.start (gl_next hk2 (heap_alloc_new w1 _) (by have := lt_of_block B1.out; omega)), gl_next hk2 (blk_al B1.out) (by omega), (fun _ h => by cases h), lt_of_block B1.out, hgl⟩)
    clear hs2 hk2
    go_wp2_with fail
    go_loopg [10] r2 (fun q iv wr => ∃ (i : Nat) (v : Value) (l : List Nd), iv = .int .i64 (i : Int) ∧ Hid (i ≤ r2 ∧ q = r2 - i ∧ l.length = i ∧ LI w wr base g w1.heap.size true d v l))
    case atStart => exact ⟨0, _, [], rfl, Nat.zero_le _, rfl, rfl, HL.out⟩
    case round =>
      obtain ⟨i, v, l, rfl, HR⟩ := hrel
      obtain ⟨q1, q2, q3, hL⟩ := HR.out
      obtain ⟨A2, C2, rfl, hC1, hC2⟩ := hL.ki.own.slice
      rw [q3] at hC1 hL
      obtain ⟨d0, d1, d2, d3, f0, f1, f2, f3⟩ := four hL.ki.hb
      have HLR := Lib.hid hL
      have HQ := Lib.hid q2
      have HLN := Lib.hid q3
      clear hL q2 q3 HR hC1 hC2
      by_cases hlt : i < r2
      · have hlt' : (i : Int) < (r2 : Int) := by omega
        go_wp2_with fail
        go_region_law ((first
          | (refine step_append_lies _ (by rfl) (.tmp 89) (.tmp 95) 24 (by rfl) (w1.heap.size + 1) 26 i0 _ 4 56 Tryd.underlying24 hi hz0 hz1 hz2 rfl (by omega) (.slice A2 i C2) i xs (by rfl) (HOWN.out.alloc _) ⟨w3.heap.size, 0, none⟩ 1 1 [.int .i64 x.kind, .string x.text, .slice A3 n3 c3, .int .i64 x.off] (by rfl) rfl (World.news_of_block (cs := #[.int .i64 x.kind, .string x.text, .slice A3 n3 c3, .int .i64 x.off]) (t := 26) (fr := (0, 0)) (heap_alloc_new w3 _)) (by simp [Value.oneCell']) (by omega) (by simp only [maxLen]; omega) (by omega) (by have := HL3.out.ki.lt; simp; omega) (w3.heap.size + 1) (by simp) ?_; intro g1 cap1 w4 hown2 hgrow hat hlt4; obtain ⟨p0, p1, p2, p3, s0, s1, s2, s3⟩ := four ((hgrow.block w1.heap.size (by have := HL3.out.ki.lt; simp; omega) (Ne.symm HL3.out.ki.far)).trans (blk_al HL3.out.ki.hb)))
          | (go_simp; go_at_call 11; (with_reducible refine (IH.out _ (by exact HLR.out.st.drew) (by exact HW.out.kp HLR.out.ka.drew.kp (fun b hb => by omega)) (by exact HT.out.kp HLR.out.ka.drew.kp (fun b hb => by omega))).mono ?_); rintro e w3 ⟨x, A3, n3, c3, rfl, hx3, hg3, hs3, hk3⟩; have hL3 := HLR.out.drew.call hs3 hk3; obtain ⟨d0', d1', d2', d3', f0', f1', f2', f3'⟩ := four hL3.ki.hb; obtain ⟨xs, hown, hrl⟩ := hL3.ki.own; rw [HLN.out] at hown; have e2 : ∀ y, (w3.alloc y).cell? ⟨w1.heap.size, 2, none⟩ = some (.slice A2 i C2) := (fun y => (World.cell?_alloc_lt w3 y _ hL3.ki.lt).trans d2'); have HL3 := Lib.hid hL3; have HOWN := Lib.hid hown; have HRL := Lib.hid hrl; have HX3 := Lib.hid hx3; have HG3 := Lib.hid hg3; clear hL3 hown hrl hx3 hg3 hs3 hk3)))
        all_goals
          go_wp2_with fail
          go_roundg (r2 - (i + 1))
          case measure => have := HQ.out; omega
          case rel =>
            have hp := HL3.out.push (x := x) ((Below.refl _ _).alloc (Nat.le_refl _) _) HRL.out (HLR.out.ki.fresh HX3.out) HG3.out (by rw [HLN.out]; exact hown2) hgrow (hat.imp id (fun e => by omega))
            rw [HLN.out] at hp
            exact ⟨i + 1, _, l ++ [x], by simp, by omega, rfl, by simp [HLN.out], hp⟩
      · have hge : r2 ≤ i := by omega
        obtain ⟨b0, b1, b2, b3, z0, z1, z2, z3⟩ := four HLR.out.rb
        go_wp2_with fail
        refine bodyPost_ret (results_cell_row rfl _ _ w.heap.size _ _ (0, 0) _ rfl (blk_set4 HLR.out.rb _ _ _ _) rfl rfl rfl) rfl ?_
        exact HLR.out.post (by rw [HLN.out]; omega)

/-- AnyNode, at whatever stream: some node of the known kind. -/
theorem anynode_any : ∀ (d : Nat) (bad : Bool) (w : World) (base g : Nat), d ≤ 1000 → Stm w base g → Tab w base 2 wordsL → Tab w base 1 strsL →
    Calls Tryd.prog 11 #[.pointer (some ⟨g, 0, none⟩), .int .i64 (d : Int), .bool bad] w (AnyPost w base g bad d) := by
  intro d
  induction d with
  | zero =>
    intro bad w base g hd ⟨A, n, c, zf, k, hs⟩ ⟨bw, ow, cw, hw⟩ ⟨bt, ot, ct, ht⟩
    have h12 := nv_lt zf n k 12 (by omega)
    by_cases h4 : nv zf n k 12 < 4
    · exact any_words4 0 bad hs hw ht hd h4
    · by_cases hb : bad = false ∨ nv zf n k 12 < 10
      · exact any_words0 0 bad hs hw ht hd h4 rfl hb
      · have hb1 : bad = true := by cases bad <;> simp_all
        by_cases h10 : nv zf n k 12 = 10
        · exact any_bad10 0 bad hs hw ht hd h10 hb1
        · exact any_bad11 0 bad hs hw ht hd (by omega) hb1
  | succ d ih =>
    intro bad w base g hd ⟨A, n, c, zf, k, hs⟩ hw' ht'
    obtain ⟨bw, ow, cw, hw⟩ := hw'
    obtain ⟨bt, ot, ct, ht⟩ := ht'
    have h12 := nv_lt zf n k 12 (by omega)
    by_cases h4 : nv zf n k 12 < 4
    · exact any_words4 _ bad hs hw ht hd h4
    · by_cases h6 : nv zf n k 12 < 6
      · exact any_strs _ bad hs hw ht hd h4 h6 (by omega)
      · by_cases hb : bad = false ∨ nv zf n k 12 < 10
        · exact any_list d bad hs ⟨bw, ow, cw, hw⟩ ⟨bt, ot, ct, ht⟩ hd h6 hb (fun W h1 h2 h3 => ih bad W base g (by omega) h1 h2 h3)
        · have hb1 : bad = true := by cases bad <;> simp_all
          by_cases h10 : nv zf n k 12 = 10
          · exact any_bad10 _ bad hs hw ht hd h10 hb1
          · exact any_bad11 _ bad hs hw ht hd (by omega) hb1
end Go.Proofs.YtjpabigjmimogaaDoor
