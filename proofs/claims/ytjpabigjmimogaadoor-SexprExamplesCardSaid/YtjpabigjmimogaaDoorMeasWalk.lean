/- tellaw1.SexprMeasures: the walk. -/
import Derived.Test.YtjpabigjmimogaaDoorTabs
import Derived.Test.YtjpabigjmimogaaDoorCount
import Derived.Test.YtjpabigjmimogaaDoorEqual
import Derived.Test.YtjpabigjmimogaaDoorNode
import Derived.Test.YtjpabigjmimogaaDoorCheckSexpr
import Derived.Deep.DeepCutAuto
set_option linter.unusedVariables false
set_option linter.unusedSimpArgs false
namespace Go.Proofs.YtjpabigjmimogaaDoor
open Go.RowKit
attribute [local go_sem ↓] Go.wp_at_zero Go.wp_at_succ

theorem anynode_at' (d : Nat) (di : Int) (hdi : di = (d : Int)) (bad : Bool) {w : World} {base g : Nat} (hd : d ≤ 1000) (hs : Stm w base g) (hw : Tab w base 2 wordsL) (ht : Tab w base 1 strsL) :
    Calls Tryd.prog 11 #[.pointer (some ⟨g, 0, none⟩), .int .i64 di, .bool bad] w (AnyPost w base g bad d) := by subst hdi; exact anynode_any d bad w base g hd hs hw ht
def cB : Nat → Nat
  | 0 => 2
  | d + 1 => 1 + 4 * cB d
theorem leaf_cnt {bad : Bool} {x : Nd} (h : leafN bad x) : cntN x ≤ 2 := by
  rw [cnt_kids]
  rcases h with ⟨_, h, _⟩ | ⟨_, _, ⟨h, _⟩ | ⟨⟨u, _, h⟩, _⟩⟩
  · rw [h]; simp [cnts]
  · rw [h]; simp [cnts]
  · rw [h]; simp [cnts, cntN]
theorem cnts_le {l : List Nd} {B : Nat} (h : ∀ y ∈ l, cntN y ≤ B) : cnts l ≤ l.length * B := by
  induction l with
  | nil => simp [cnts]
  | cons x l ih =>
    have h1 := h x (by simp)
    have h2 := ih (fun y hy => h y (by simp [hy]))
    simp only [cnts, List.length_cons, Nat.succ_mul]
    omega
theorem gn_cnt : ∀ (d : Nat) (bad : Bool) (x : Nd), Gn bad d x → cntN x ≤ cB d := by
  intro d
  induction d with
  | zero => intro bad x h; exact leaf_cnt h
  | succ d ih =>
    intro bad x h
    rcases h with h | ⟨hk, ht, ho, hl, h⟩
    · have := leaf_cnt h
      have h2 : 1 ≤ cB d := by cases d <;> simp [cB]
      simp only [cB]; omega
    · rw [cnt_kids]
      have h1 := cnts_le (fun y hy => ih bad y (h y hy))
      have h2 : x.kids.length * cB d ≤ 4 * cB d := Nat.mul_le_mul_right _ hl
      simp only [cB]; omega
theorem node_at {w : World} {A : Option Addr} {n c : Nat} {x : Nd} (hl : cntN x ≤ 1000000) (hr : Rd w (fun _ => True) (.slice A n c) (.sl 26 4 (ndsTr 26 x.kids))) :
    Calls Tryd.prog 18 #[.agg #[.int .i64 x.kind, .string x.text, .slice A n c, .int .i64 x.off]] w fun e w' =>
      ∃ A n c lo, e = .returned (.agg #[.int .i64 x.kind, .string x.text, .slice A n c, .int .i64 x.off]) ∧ Rd w' (fun b => lo ≤ b ∧ b < w'.heap.size) (.slice A n c) (.sl 39 4 (ndsTr 39 x.kids)) ∧ Below w.heap.size w w' ∧ w.heap.size = lo :=
  (node_any _ x (Nat.le_refl _) w _ A n c hl hr).mono fun e w' ⟨A, n, c, h1, h2, h3⟩ => ⟨A, n, c, _, h1, h2.mono fun b hb hlt => ⟨hb, hlt⟩, h3, rfl⟩
theorem fourA {w : World} {R T : Nat} {a b c d : Value} (h : w.heap[R]? = some (.cells #[a, b, c, d] T (0, 0))) :
    (∀ Z, (w.alloc Z).cell? ⟨R, 0, none⟩ = some a) ∧ (∀ Z, (w.alloc Z).cell? ⟨R, 1, none⟩ = some b) ∧ (∀ Z, (w.alloc Z).cell? ⟨R, 2, none⟩ = some c) ∧ (∀ Z, (w.alloc Z).cell? ⟨R, 3, none⟩ = some d) ∧
    (∀ Z, (w.alloc Z).frozen? ⟨R, 0, none⟩ = false) ∧ (∀ Z, (w.alloc Z).frozen? ⟨R, 1, none⟩ = false) ∧ (∀ Z, (w.alloc Z).frozen? ⟨R, 2, none⟩ = false) ∧ (∀ Z, (w.alloc Z).frozen? ⟨R, 3, none⟩ = false) :=
  ⟨fun Z => (four (blk_al (o' := Z) h)).1, fun Z => (four (blk_al (o' := Z) h)).2.1, fun Z => (four (blk_al (o' := Z) h)).2.2.1, fun Z => (four (blk_al (o' := Z) h)).2.2.2.1, fun Z => (four (blk_al (o' := Z) h)).2.2.2.2.1, fun Z => (four (blk_al (o' := Z) h)).2.2.2.2.2.1, fun Z => (four (blk_al (o' := Z) h)).2.2.2.2.2.2.1, fun Z => (four (blk_al (o' := Z) h)).2.2.2.2.2.2.2⟩
theorem blk_sz (w : World) (o o' : Obj) : ((w.alloc o).alloc o').heap[w.heap.size + 1]? = some o' := by have := heap_alloc_new (w.alloc o) o'; rwa [World.size_alloc] at this
theorem heap_drew (w : World) : w.drew.heap = w.heap := rfl
theorem q1_ {U v : World} {Z : Obj} (hb : Below (U.alloc Z).drew.heap.size (U.alloc Z).drew v) : v.heap[U.heap.size]? = some Z := below_blk hb (show (U.alloc Z).drew.heap[U.heap.size]? = some Z from heap_alloc_new U Z)
theorem q2_ {U v : World} {Z Z' : Obj} (hb : Below ((U.alloc Z).alloc Z').drew.heap.size ((U.alloc Z).alloc Z').drew v) : v.heap[U.heap.size]? = some Z ∧ v.heap[U.heap.size + 1]? = some Z' :=
  ⟨below_blk hb (show ((U.alloc Z).alloc Z').drew.heap[U.heap.size]? = some Z from blk_al (heap_alloc_new U Z)), below_blk hb (show ((U.alloc Z).alloc Z').drew.heap[U.heap.size + 1]? = some Z' from by have := heap_alloc_new (U.alloc Z) Z'; rwa [World.size_alloc] at this)⟩
theorem p1_ {U v : World} {Z : Obj} (hb : Below (U.alloc Z).heap.size (U.alloc Z) v) : v.heap[U.heap.size]? = some Z := below_blk hb (heap_alloc_new U Z)
theorem p2_ {U v : World} {Z Z' : Obj} (hb : Below ((U.alloc Z).alloc Z').heap.size ((U.alloc Z).alloc Z') v) : v.heap[U.heap.size]? = some Z ∧ v.heap[U.heap.size + 1]? = some Z' :=
  ⟨below_blk hb (blk_al (heap_alloc_new U Z)), below_blk hb (by have := heap_alloc_new (U.alloc Z) Z'; rwa [World.size_alloc] at this)⟩
theorem r0_ {U v : World} {Z : Obj} {b : Nat} (hb : Below U.heap.size U v) (h : U.heap[b]? = some Z) : v.heap[b]? = some Z := below_blk hb h
theorem r1_ {U v : World} {Z Z' : Obj} {b : Nat} (hb : Below (U.alloc Z').heap.size (U.alloc Z') v) (h : U.heap[b]? = some Z) : v.heap[b]? = some Z := below_blk hb (blk_al h)
theorem blk_far4 {w : World} {R b : Nat} {o : Option Obj} (h : w.heap[b]? = o) (hn : ¬ b = R) (x y z u : Value) : (set4 w R x y z u).heap[b]? = o := by
  subst h
  simp only [set4]
  rw [Below.heap_setCell _ _ _ _ (by simp only; omega), Below.heap_setCell _ _ _ _ (by simp only; omega), Below.heap_setCell _ _ _ _ (by simp only; omega), Below.heap_setCell _ _ _ _ (by simp only; omega)]
theorem rd_far4 {w : World} {R : Nat} {ok : Nat → Prop} {v : Value} {e : Tr} (h : Rd w ok v e) (hn : ¬ ok R) (x y z u : Value) : Rd (set4 w R x y z u) ok v e := h.kp (kp_set4 _ _ _ _ _ _) (fun b hb e => hn (e ▸ hb))
def Is4 (w : World) (R T : Nat) : Prop := ∃ a b c d, w.heap[R]? = some (.cells #[a, b, c, d] T (0, 0))
theorem Is4.of {w : World} {R T : Nat} {a b c d : Value} (h : w.heap[R]? = some (.cells #[a, b, c, d] T (0, 0))) : Is4 w R T := ⟨_, _, _, _, h⟩
theorem Is4.al {w : World} {R T : Nat} (h : Is4 w R T) (o : Obj) : Is4 (w.alloc o) R T := by
  obtain ⟨a, b, c, d, h⟩ := h
  exact ⟨a, b, c, d, blk_al h⟩
theorem Is4.new (w : World) (T : Nat) (a b c d : Value) : Is4 (w.alloc (.cells #[a, b, c, d] T)) w.heap.size T := ⟨a, b, c, d, heap_alloc_new w _⟩
theorem Is4.new2 (w : World) (o : Obj) (T : Nat) (a b c d : Value) : Is4 ((w.alloc o).alloc (.cells #[a, b, c, d] T)) (w.heap.size + 1) T := ⟨a, b, c, d, blk_sz w o _⟩
theorem no_ok2 {lo hi R : Nat} (h : R < lo ∨ hi ≤ R) : ¬ (fun b => lo ≤ b ∧ b < hi) R := fun e => by have := e.1; have := e.2; omega
theorem Is4.far {w : World} {R R' T : Nat} (h : Is4 w R T) (hn : ¬ R = R') (x y z u : Value) : Is4 (set4 w R' x y z u) R T := by
  obtain ⟨a, b, c, d, h⟩ := h
  exact ⟨a, b, c, d, blk_far4 h hn x y z u⟩
theorem Is4.set {w : World} {R T : Nat} (h : Is4 w R T) (a b c d : Value) : (set4 w R a b c d).heap[R]? = some (.cells #[a, b, c, d] T (0, 0)) := by
  obtain ⟨a', b', c', d', h⟩ := h
  exact blk_set4 h a b c d
/-- A slice of two nodes, in a block of its own. -/
theorem rd_two {w : World} {T B : Nat} {x y : Nd} {kx ky : Value} (hB : w.heap[B]? = some (.cells #[.int .i64 x.kind, .string x.text, kx, .int .i64 x.off, .int .i64 y.kind, .string y.text, ky, .int .i64 y.off] T (0, 0)))
    (hx : Rd w (fun _ => True) kx (.sl T 4 (ndsTr T x.kids))) (hy : Rd w (fun _ => True) ky (.sl T 4 (ndsTr T y.kids))) : Rd w (fun _ => True) (.slice (some ⟨B, 0, none⟩) 2 2) (.sl T 4 (ndsTr T [x, y])) := by
  refine .row _ 0 2 2 T 4 _ (0, 0) [.int .i64 x.kind, .string x.text, kx, .int .i64 x.off, .int .i64 y.kind, .string y.text, ky, .int .i64 y.off] _ trivial hB (by omega) (by decide) (by rw [ndsTr_length]; rfl) rfl (fun j hj => by simp) (fun j v e hv he => ?_)
  rw [ndsTr, ndsTr_one, Nd.tr_eq, Nd.tr_eq] at he
  match j with
  | 0 => simp at hv he; subst hv he; exact .sc _
  | 1 => simp at hv he; subst hv he; exact .sc _
  | 2 => simp at hv he; subst hv he; exact hx
  | 3 => simp at hv he; subst hv he; exact .sc _
  | 4 => simp at hv he; subst hv he; exact .sc _
  | 5 => simp at hv he; subst hv he; exact .sc _
  | 6 => simp at hv he; subst hv he; exact hy
  | 7 => simp at hv he; subst hv he; exact .sc _
  | j + 8 => simp at hv
theorem count_at {w : World} {A : Option Addr} {n c : Nat} {l : List Nd} (hl : cnts l ≤ 1000000) (hr : Rd w (fun _ => True) (.slice A n c) (.sl 39 4 (ndsTr 39 l))) : Calls Tryd.prog 19 #[.slice A n c] w fun e w' => e = .returned (.int .i64 (cnts l : Int)) ∧ Below w.heap.size w w' := count_any _ l (Nat.le_refl _) w _ A n c hl hr
theorem nodeCount_at {w : World} {A : Option Addr} {n c : Nat} {l : List Nd} (hl : cnts l ≤ 1000000) (hr : Rd w (fun _ => True) (.slice A n c) (.sl 26 4 (ndsTr 26 l))) : Calls Tryd.prog 20 #[.slice A n c] w fun e w' => e = .returned (.int .i64 (cnts l : Int)) ∧ Below w.heap.size w w' := nodeCount_any _ l (Nat.le_refl _) w _ A n c hl hr
theorem equal_at {w : World} {A A' : Option Addr} {n n' c c' : Nat} {x y : Nd} (h1 : Rd w (fun _ => True) (.slice A n c) (.sl 39 4 (ndsTr 39 x.kids))) (h2 : Rd w (fun _ => True) (.slice A' n' c') (.sl 39 4 (ndsTr 39 y.kids))) :
    Calls Tryd.prog 17 #[.agg #[.int .i64 x.kind, .string x.text, .slice A n c, .int .i64 x.off], .agg #[.int .i64 y.kind, .string y.text, .slice A' n' c', .int .i64 y.off]] w fun e w' => e = .returned (.bool (eqN x y)) ∧ Below w.heap.size w w' := equal_any _ x y (Nat.le_refl _) w _ _ A A' n n' c c' h1 h2
theorem nodeEqual_at {w : World} {A A' : Option Addr} {n n' c c' : Nat} {x y : Nd} (h1 : Rd w (fun _ => True) (.slice A n c) (.sl 26 4 (ndsTr 26 x.kids))) (h2 : Rd w (fun _ => True) (.slice A' n' c') (.sl 26 4 (ndsTr 26 y.kids))) :
    Calls Tryd.prog 23 #[.agg #[.int .i64 x.kind, .string x.text, .slice A n c, .int .i64 x.off], .agg #[.int .i64 y.kind, .string y.text, .slice A' n' c', .int .i64 y.off]] w fun e w' => e = .returned (.bool (eqN x y)) ∧ Below w.heap.size w w' := nodeEqual_any _ x y (Nat.le_refl _) w _ _ A A' n n' c c' h1 h2
theorem depth_at {w : World} {A : Option Addr} {n c : Nat} {l : List Nd} (hl : cnts l ≤ 1000000) (hr : Rd w (fun _ => True) (.slice A n c) (.sl 39 4 (ndsTr 39 l))) : Calls Tryd.prog 21 #[.slice A n c] w fun e w' => e = .returned (.int .i64 (nests l : Int)) ∧ Below w.heap.size w w' := depth_any _ l (Nat.le_refl _) w _ A n c hl hr
theorem nodeDepth_at {w : World} {A : Option Addr} {n c : Nat} {l : List Nd} (hl : cnts l ≤ 1000000) (hr : Rd w (fun _ => True) (.slice A n c) (.sl 26 4 (ndsTr 26 l))) : Calls Tryd.prog 22 #[.slice A n c] w fun e w' => e = .returned (.int .i64 (nests l : Int)) ∧ Below w.heap.size w w' := nodeDepth_any _ l (Nat.le_refl _) w _ A n c hl hr
theorem bel_al {U W : World} (h : Below U.heap.size U W) (o : Obj) : Below U.heap.size U (W.alloc o) := h.alloc h.size o
theorem bel_st {U W : World} (h : Below U.heap.size U W) {p : Addr} (hp : U.heap.size ≤ p.block) (v : Value) : Below U.heap.size U (W.setCell p v) := h.setCell hp v
/-- Two structs of four cells, as they were. -/
theorem keep_two {U W : World} {g g' T : Nat} {a b c d a' b' c' d' : Value} (h : Below U.heap.size U W) (u : U.heap[g]? = some (.cells #[a, b, c, d] T (0, 0))) (u' : U.heap[g']? = some (.cells #[a', b', c', d'] T (0, 0))) :
    W.cell? ⟨g, 0, none⟩ = some a ∧ W.cell? ⟨g, 1, none⟩ = some b ∧ W.cell? ⟨g, 2, none⟩ = some c ∧ W.cell? ⟨g, 3, none⟩ = some d ∧ W.cell? ⟨g', 0, none⟩ = some a' ∧ W.cell? ⟨g', 1, none⟩ = some b' ∧ W.cell? ⟨g', 2, none⟩ = some c' ∧ W.cell? ⟨g', 3, none⟩ = some d' := by
  obtain ⟨c0, c1, c2, c3, -⟩ := four (below_blk h u)
  obtain ⟨e0, e1, e2, e3, -⟩ := four (below_blk h u')
  exact ⟨c0, c1, c2, c3, e0, e1, e2, e3⟩

set_option maxRecDepth 100000 in
set_option maxHeartbeats 32000000 in
theorem measures_walk (a0 : Option Addr) (len0 cap0 : Nat) (z0 : List Int) (a1 : Option Addr) (len1 cap1 : Nat) (z1 : List Int) (w : World) (w0 : IsRow .i64 w a0 len0 cap0 z0) (w1 : IsRow .i64 w a1 len1 cap1 z1)
    (tw : Tab w w.heap.size 2 wordsL) (ts : Tab w w.heap.size 1 strsL) :
    Calls Tryd.prog 5 #[.slice a0 len0 cap0, .slice a1 len1 cap1] w fun e w' => e = .returned (.bool true) ∧ Below w.heap.size w w' := by
  have HW0 := Lib.hid w0
  have HW1 := Lib.hid w1
  have HTW := Lib.hid tw
  have HTS := Lib.hid ts
  have HB := Lib.hid (Below.refl w.heap.size w)
  clear w0 w1 tw ts
  go_enter Tryd.func5, Tryd.ntmps5
  go_wp2_with (go_at_call 12; (with_reducible refine (new_any _ _ _ _).mono ?_); rintro e v0 ⟨rfl, rfl⟩)
  have hB1 := HB.out.alloc (Nat.le_refl _) (.cells #[.slice a0 len0 cap0, .int .i64 0] 64)
  refine (anynode_at' 4 4 rfl true (by omega) (st_new HW0.out HB.out) (HTW.out.bl hB1) (HTS.out.bl hB1)).mono ?_
  rintro e v1 ⟨x, A1, n1, c1, rfl, hx, hg, -, hk1⟩
  have HB1 := Lib.hid (below_g hB1 hk1 (Nat.le_refl _) (Nat.le_refl _))
  have HX := Lib.hid hx
  have HG := Lib.hid hg
  clear hB1 hx hg hk1
  go_wp2_with (go_at_call 12; (with_reducible refine (new_any _ _ _ _).mono ?_); rintro e v0 ⟨rfl, rfl⟩)
  have hB2 := HB1.out.alloc HB1.out.size (.cells #[.slice a1 len1 cap1, .int .i64 0] 64)
  refine (anynode_at' 4 4 rfl true (by omega) (st_new HW1.out HB1.out) (HTW.out.bl hB2) (HTS.out.bl hB2)).mono ?_
  rintro e v2 ⟨y, A2, n2, c2, rfl, hy, hgy, -, hk2⟩
  have HB2 := Lib.hid (below_g hB2 hk2 HB1.out.size (Nat.le_refl _))
  have HY := Lib.hid hy
  have HGY := Lib.hid hgy
  have HX2 := Lib.hid (((HX.out.mono (ok' := fun b => b < v1.heap.size) (fun b hb hlt => hlt)).alloc (.cells #[.slice a1 len1 cap1, .int .i64 0] 64)).kp hk2 (fun b hb e => by omega))
  have hcx := gn_cnt 4 true x HG.out
  have hcy := gn_cnt 4 true y hgy
  have hc4 : cB 4 = 597 := rfl
  clear hB2 hy hgy hk2
  go_wp2_with fail
  have u5 := blk_al (heap_alloc_new v2 (.cells #[.int .i64 x.kind, .string x.text, .slice A1 n1 c1, .int .i64 x.off] 26)) (o' := .cells #[.int .i64 y.kind, .string y.text, .slice A2 n2 c2, .int .i64 y.off] 26)
  have u6 := heap_alloc_new (v2.alloc (.cells #[.int .i64 x.kind, .string x.text, .slice A1 n1 c1, .int .i64 x.off] 26)) (.cells #[.int .i64 y.kind, .string y.text, .slice A2 n2 c2, .int .i64 y.off] 26)
  have hxU := (HX2.out.alloc (.cells #[.int .i64 x.kind, .string x.text, .slice A1 n1 c1, .int .i64 x.off] 26)).alloc (.cells #[.int .i64 y.kind, .string y.text, .slice A2 n2 c2, .int .i64 y.off] 26)
  have hyU := (HY.out.alloc (.cells #[.int .i64 x.kind, .string x.text, .slice A1 n1 c1, .int .i64 x.off] 26)).alloc (.cells #[.int .i64 y.kind, .string y.text, .slice A2 n2 c2, .int .i64 y.off] 26)
  have hbU : Below w.heap.size w ((v2.alloc (.cells #[.int .i64 x.kind, .string x.text, .slice A1 n1 c1, .int .i64 x.off] 26)).alloc (.cells #[.int .i64 y.kind, .string y.text, .slice A2 n2 c2, .int .i64 y.off] 26)) := (HB2.out.alloc HB2.out.size _).alloc (by have := HB2.out.size; simp; omega) _
  simp only [World.size_alloc] at u6
  generalize ((v2.alloc (.cells #[.int .i64 x.kind, .string x.text, .slice A1 n1 c1, .int .i64 x.off] 26)).alloc (.cells #[.int .i64 y.kind, .string y.text, .slice A2 n2 c2, .int .i64 y.off] 26)) = U at *
  generalize v2.heap.size = g5 at *
  obtain ⟨r0, r1, r2, r3, -, -, -, -⟩ := four u5
  obtain ⟨s0, s1, s2, s3, -, -, -, -⟩ := four u6
  have HU5 := Lib.hid u5
  have HU6 := Lib.hid u6
  have HXU := Lib.hid (hxU.mono (ok' := fun _ => True) (fun _ _ _ => trivial))
  have HYU := Lib.hid (hyU.mono (ok' := fun _ => True) (fun _ _ _ => trivial))
  have HBU := Lib.hid hbU
  have hu5 := lt_of_block u5
  have hu6 := lt_of_block u6
  clear u5 u6 hxU hyU hbU
  go_cut [7, 8] (fun t7 t8 wx => ∃ g7 g8 A3 n3 c3 A4 n4 c4, t7 = .pointer (some ⟨g7, 0, none⟩) ∧ t8 = .pointer (some ⟨g8, 0, none⟩) ∧ Hid (Below U.heap.size U wx ∧
    wx.heap[g7]? = some (.cells #[.int .i64 x.kind, .string x.text, .slice A3 n3 c3, .int .i64 x.off] 39 (0, 0)) ∧ wx.heap[g8]? = some (.cells #[.int .i64 y.kind, .string y.text, .slice A4 n4 c4, .int .i64 y.off] 39 (0, 0)) ∧
    Rd wx (fun _ => True) (.slice A3 n3 c3) (.sl 39 4 (ndsTr 39 x.kids)) ∧ Rd wx (fun _ => True) (.slice A4 n4 c4) (.sl 39 4 (ndsTr 39 y.kids))))
  case first =>
    go_region_held3 (fun W' => W'.cell? ⟨g5, 0, none⟩ = some (.int .i64 x.kind) ∧ W'.cell? ⟨g5, 1, none⟩ = some (.string x.text) ∧ W'.cell? ⟨g5, 2, none⟩ = some (.slice A1 n1 c1) ∧ W'.cell? ⟨g5, 3, none⟩ = some (.int .i64 x.off) ∧
        W'.cell? ⟨g5 + 1, 0, none⟩ = some (.int .i64 y.kind) ∧ W'.cell? ⟨g5 + 1, 1, none⟩ = some (.string y.text) ∧ W'.cell? ⟨g5 + 1, 2, none⟩ = some (.slice A2 n2 c2) ∧ W'.cell? ⟨g5 + 1, 3, none⟩ = some (.int .i64 y.off))
      ((refine keep_two ?_ HU5.out HU6.out; repeat' (first | with_reducible exact Below.refl _ _ | with_reducible exact BU4.out | with_reducible exact BU3.out | with_reducible refine Below.drew ?_ | with_reducible refine bel_al ?_ _ | with_reducible refine bel_st ?_ ?_ _ | with_reducible exact Nat.le_refl _ | with_reducible exact BU3.out.size | with_reducible exact BU4.out.size | (simp only [World.size_alloc]; have := BU3.out.size; omega) | (simp only [World.size_alloc]; omega)))) (((go_at_call 18; first | ((with_reducible refine Calls.mono (node_at (x := x) (by omega) ?_) ?_); (· repeat' (first | with_reducible exact HXU.out | with_reducible refine Rd.drew ?_ | with_reducible refine Rd.alloc ?_ _ | with_reducible refine Rd.bl ?_ hb3)); rintro e v3 ⟨A3, n3, c3, lo3, rfl, hx3, hb3, hlo3⟩; have HX3 := Lib.hid hx3; have BU3 := Lib.hid (below_call (w := U) (by repeat' (first | with_reducible exact Below.refl _ _ | with_reducible exact BU4.out | with_reducible exact BU3.out | with_reducible refine Below.drew ?_ | with_reducible refine bel_al ?_ _ | with_reducible refine bel_st ?_ ?_ _ | with_reducible exact Nat.le_refl _ | with_reducible exact BU3.out.size | with_reducible exact BU4.out.size | (simp only [World.size_alloc]; have := BU3.out.size; omega) | (simp only [World.size_alloc]; omega))) hb3); (try simp only [heap_drew, World.size_alloc] at hlo3); have HLO3 := Lib.hid hlo3; clear hlo3; (try (with_reducible (have qa := Lib.hid (q1_ hb3)); obtain ⟨_, _, _, _, _, _, _, _⟩ := four qa.out; have := Nat.ne_of_lt (lt_of_block qa.out); have := Nat.ne_of_gt (lt_of_block qa.out))); (try (with_reducible (have qq := q2_ hb3); have qa := Lib.hid qq.1; have qb := Lib.hid qq.2; clear qq; obtain ⟨_, _, _, _, _, _, _, _⟩ := four qa.out; obtain ⟨_, _, _, _, _, _, _, _⟩ := four qb.out; have := Nat.ne_of_lt (lt_of_block qa.out); have := Nat.ne_of_gt (lt_of_block qa.out); have := Nat.ne_of_lt (lt_of_block qb.out); have := Nat.ne_of_gt (lt_of_block qb.out)))) | ((with_reducible refine Calls.mono (node_at (x := y) (by omega) ?_) ?_); (· repeat' (first | with_reducible exact HYU.out | with_reducible refine Rd.drew ?_ | with_reducible refine Rd.alloc ?_ _ | with_reducible refine Rd.bl ?_ hb3)); rintro e v4 ⟨A4, n4, c4, lo4, rfl, hx4, hb4, hlo4⟩; have HX4 := Lib.hid hx4; have BU4 := Lib.hid (below_call (w := U) (by repeat' (first | with_reducible exact Below.refl _ _ | with_reducible exact BU4.out | with_reducible exact BU3.out | with_reducible refine Below.drew ?_ | with_reducible refine bel_al ?_ _ | with_reducible refine bel_st ?_ ?_ _ | with_reducible exact Nat.le_refl _ | with_reducible exact BU3.out.size | with_reducible exact BU4.out.size | (simp only [World.size_alloc]; have := BU3.out.size; omega) | (simp only [World.size_alloc]; omega))) hb4); (try simp only [heap_drew, World.size_alloc] at hlo4); have HLO4 := Lib.hid hlo4; clear hlo4; (try ((with_reducible (have qc := Lib.hid (p1_ hb4))); obtain ⟨_, _, _, _, _, _, _, _⟩ := four qc.out; obtain ⟨_, _, _, _, _, _, _, _⟩ := fourA qc.out; have := Nat.ne_of_lt (lt_of_block qc.out); have := Nat.ne_of_gt (lt_of_block qc.out))); (try ((with_reducible (have qq := p2_ hb4)); have qc := Lib.hid qq.1; have qd := Lib.hid qq.2; clear qq; obtain ⟨_, _, _, _, _, _, _, _⟩ := four qc.out; obtain ⟨_, _, _, _, _, _, _, _⟩ := fourA qc.out; have := Nat.ne_of_lt (lt_of_block qc.out); have := Nat.ne_of_gt (lt_of_block qc.out); obtain ⟨_, _, _, _, _, _, _, _⟩ := four qd.out; obtain ⟨_, _, _, _, _, _, _, _⟩ := fourA qd.out; have := Nat.ne_of_lt (lt_of_block qd.out); have := Nat.ne_of_gt (lt_of_block qd.out))); (try ((with_reducible (have qe := Lib.hid (r0_ hb4 qa.out))); obtain ⟨_, _, _, _, _, _, _, _⟩ := four qe.out; obtain ⟨_, _, _, _, _, _, _, _⟩ := fourA qe.out; have := Nat.ne_of_lt (lt_of_block qe.out); have := Nat.ne_of_gt (lt_of_block qe.out))); (try ((with_reducible (have qe := Lib.hid (r1_ hb4 qa.out))); obtain ⟨_, _, _, _, _, _, _, _⟩ := four qe.out; obtain ⟨_, _, _, _, _, _, _, _⟩ := fourA qe.out; have := Nat.ne_of_lt (lt_of_block qe.out); have := Nat.ne_of_gt (lt_of_block qe.out))); (try ((with_reducible (have qf := Lib.hid (r0_ hb4 qb.out))); obtain ⟨_, _, _, _, _, _, _, _⟩ := four qf.out; obtain ⟨_, _, _, _, _, _, _, _⟩ := fourA qf.out; have := Nat.ne_of_lt (lt_of_block qf.out); have := Nat.ne_of_gt (lt_of_block qf.out)))))))
    all_goals
      go_wp2_with fail
      go_meet
      refine ⟨_, _, A3, n3, c3, A4, n4, c4, rfl, rfl, Lib.hid ⟨?_, ?_, ?_, ?_, ?_⟩⟩
      · repeat' (first | with_reducible exact Below.refl _ _ | with_reducible exact BU4.out | with_reducible exact BU3.out | with_reducible refine Below.drew ?_ | with_reducible refine bel_al ?_ _ | with_reducible refine bel_st ?_ ?_ _ | with_reducible exact Nat.le_refl _ | with_reducible exact BU3.out.size | with_reducible exact BU4.out.size | (have hz1 := hu5; have hz2 := hu6; have hz3 := BU3.out.size; have hz4 := BU4.out.size; have hz5 := HLO3.out; have hz6 := HLO4.out; have hz7 := hb3.size; have hz8 := hb4.size; (try simp only [heap_drew, World.size_alloc] at hz3 hz4 hz5 hz6 hz7 hz8); first | omega | (simp only [heap_drew, World.size_alloc]; omega)))
      · repeat' (first | with_reducible exact heap_alloc_new _ _ | with_reducible exact blk_sz _ _ _ | with_reducible exact qa.out | with_reducible exact qb.out | with_reducible exact qc.out | with_reducible exact qd.out | with_reducible exact qe.out | with_reducible exact qf.out | with_reducible exact Is4.of qa.out | with_reducible exact Is4.of qb.out | with_reducible exact Is4.of qc.out | with_reducible exact Is4.of qd.out | with_reducible exact Is4.of qe.out | with_reducible exact Is4.of qf.out | with_reducible refine Is4.set ?_ _ _ _ _ | with_reducible refine blk_far4 ?_ ?_ _ _ _ _ | with_reducible refine blk_al ?_ | with_reducible exact Is4.new _ _ _ _ _ _ | with_reducible exact Is4.new2 _ _ _ _ _ _ _ | with_reducible refine Is4.al ?_ _ | with_reducible refine Is4.far ?_ ?_ _ _ _ _ | (have hz1 := hu5; have hz2 := hu6; have hz3 := BU3.out.size; have hz4 := BU4.out.size; have hz5 := HLO3.out; have hz6 := HLO4.out; have hz7 := hb3.size; have hz8 := hb4.size; (try simp only [heap_drew, World.size_alloc] at hz3 hz4 hz5 hz6 hz7 hz8); first | omega | (simp only [heap_drew, World.size_alloc]; omega)))
      · repeat' (first | with_reducible exact heap_alloc_new _ _ | with_reducible exact blk_sz _ _ _ | with_reducible exact qa.out | with_reducible exact qb.out | with_reducible exact qc.out | with_reducible exact qd.out | with_reducible exact qe.out | with_reducible exact qf.out | with_reducible exact Is4.of qa.out | with_reducible exact Is4.of qb.out | with_reducible exact Is4.of qc.out | with_reducible exact Is4.of qd.out | with_reducible exact Is4.of qe.out | with_reducible exact Is4.of qf.out | with_reducible refine Is4.set ?_ _ _ _ _ | with_reducible refine blk_far4 ?_ ?_ _ _ _ _ | with_reducible refine blk_al ?_ | with_reducible exact Is4.new _ _ _ _ _ _ | with_reducible exact Is4.new2 _ _ _ _ _ _ _ | with_reducible refine Is4.al ?_ _ | with_reducible refine Is4.far ?_ ?_ _ _ _ _ | (have hz1 := hu5; have hz2 := hu6; have hz3 := BU3.out.size; have hz4 := BU4.out.size; have hz5 := HLO3.out; have hz6 := HLO4.out; have hz7 := hb3.size; have hz8 := hb4.size; (try simp only [heap_drew, World.size_alloc] at hz3 hz4 hz5 hz6 hz7 hz8); first | omega | (simp only [heap_drew, World.size_alloc]; omega)))
      · refine Rd.mono (ok := fun b => lo3 ≤ b ∧ b < v3.heap.size) ?_ (fun _ _ _ => trivial)
        repeat' (first | with_reducible exact HX3.out | with_reducible refine Rd.alloc ?_ _ | with_reducible refine rd_far4 ?_ ?_ _ _ _ _ | with_reducible refine Rd.bl ?_ hb4 | (refine no_ok2 ?_; (have hz1 := hu5; have hz2 := hu6; have hz3 := BU3.out.size; have hz4 := BU4.out.size; have hz5 := HLO3.out; have hz6 := HLO4.out; have hz7 := hb3.size; have hz8 := hb4.size; (try simp only [heap_drew, World.size_alloc] at hz3 hz4 hz5 hz6 hz7 hz8); first | omega | (simp only [heap_drew, World.size_alloc]; omega))))
      · refine Rd.mono (ok := fun b => lo4 ≤ b ∧ b < v4.heap.size) ?_ (fun _ _ _ => trivial)
        repeat' (first | with_reducible exact HX4.out | with_reducible refine Rd.alloc ?_ _ | with_reducible refine rd_far4 ?_ ?_ _ _ _ _ | with_reducible refine Rd.bl ?_ hb4 | (refine no_ok2 ?_; (have hz1 := hu5; have hz2 := hu6; have hz3 := BU3.out.size; have hz4 := BU4.out.size; have hz5 := HLO3.out; have hz6 := HLO4.out; have hz7 := hb3.size; have hz8 := hb4.size; (try simp only [heap_drew, World.size_alloc] at hz3 hz4 hz5 hz6 hz7 hz8); first | omega | (simp only [heap_drew, World.size_alloc]; omega))))
  case rest =>
    obtain ⟨g7, g8, A3, n3, c3, A4, n4, c4, rfl, rfl, HC⟩ := hcut
    obtain ⟨bx, k7, k8, rx, ry⟩ := HC.out
    obtain ⟨f0, f1, f2, f3, -⟩ := four k7
    obtain ⟨h0, h1, h2, h3, -⟩ := four k8
    obtain ⟨r0', r1', r2', r3', -⟩ := four (below_blk bx HU5.out)
    obtain ⟨s0', s1', s2', s3', -⟩ := four (below_blk bx HU6.out)
    have HBX := Lib.hid bx
    have HK7 := Lib.hid k7
    have HK8 := Lib.hid k8
    have HRX := Lib.hid rx
    have HRY := Lib.hid ry
    clear bx k7 k8 rx ry HC
    rename World => wz
    go_wp2_with fail
    go_cut [9, 10] (fun t9 t10 wy => ∃ b9 b10, t9 = .slice (some ⟨b9, 0, none⟩) 2 2 ∧ t10 = .slice (some ⟨b10, 0, none⟩) 2 2 ∧ Hid (Below wz.heap.size wz wy ∧ wy.heap[b9]? = some (.cells #[.int .i64 x.kind, .string x.text, .slice A1 n1 c1, .int .i64 x.off, .int .i64 y.kind, .string y.text, .slice A2 n2 c2, .int .i64 y.off] 26 (0, 0)) ∧ wy.heap[b10]? = some (.cells #[.int .i64 x.kind, .string x.text, .slice A3 n3 c3, .int .i64 x.off, .int .i64 y.kind, .string y.text, .slice A4 n4 c4, .int .i64 y.off] 39 (0, 0))))
    case first =>
      go_region_held3 (fun W' => (W'.cell? ⟨g5, 0, none⟩ = some (.int .i64 x.kind) ∧ W'.cell? ⟨g5, 1, none⟩ = some (.string x.text) ∧ W'.cell? ⟨g5, 2, none⟩ = some (.slice A1 n1 c1) ∧ W'.cell? ⟨g5, 3, none⟩ = some (.int .i64 x.off) ∧ W'.cell? ⟨g5 + 1, 0, none⟩ = some (.int .i64 y.kind) ∧ W'.cell? ⟨g5 + 1, 1, none⟩ = some (.string y.text) ∧ W'.cell? ⟨g5 + 1, 2, none⟩ = some (.slice A2 n2 c2) ∧ W'.cell? ⟨g5 + 1, 3, none⟩ = some (.int .i64 y.off)) ∧ (W'.cell? ⟨g7, 0, none⟩ = some (.int .i64 x.kind) ∧ W'.cell? ⟨g7, 1, none⟩ = some (.string x.text) ∧ W'.cell? ⟨g7, 2, none⟩ = some (.slice A3 n3 c3) ∧ W'.cell? ⟨g7, 3, none⟩ = some (.int .i64 x.off) ∧ W'.cell? ⟨g8, 0, none⟩ = some (.int .i64 y.kind) ∧ W'.cell? ⟨g8, 1, none⟩ = some (.string y.text) ∧ W'.cell? ⟨g8, 2, none⟩ = some (.slice A4 n4 c4) ∧ W'.cell? ⟨g8, 3, none⟩ = some (.int .i64 y.off)))
        ((refine ⟨keep_two ?_ (below_blk HBX.out HU5.out) (below_blk HBX.out HU6.out), keep_two ?_ HK7.out HK8.out⟩ <;> repeat' (first | with_reducible exact Below.refl _ _ | with_reducible refine Below.drew ?_ | with_reducible refine bel_al ?_ _))) (fail)
      all_goals
        go_wp2_with fail
        go_meet
        refine ⟨_, _, rfl, rfl, Lib.hid ⟨?_, ?_, ?_⟩⟩
        · repeat' (first | with_reducible exact Below.refl _ _ | with_reducible refine Below.drew ?_ | with_reducible refine bel_al ?_ _)
        · first | exact blk_al (heap_alloc_new _ _) | exact heap_alloc_new _ _ | exact blk_sz _ _ _
        · first | exact blk_al (heap_alloc_new _ _) | exact heap_alloc_new _ _ | exact blk_sz _ _ _
    case rest =>
      obtain ⟨b9, b10, rfl, rfl, HC⟩ := hcut
      rename World => wy
      obtain ⟨by_, k9, k10⟩ := HC.out
      have hUy := below_call HBX.out by_
      have x3 := HRX.out.bl by_
      have x4 := HRY.out.bl by_
      have xx := HXU.out.bl hUy
      have yy := HYU.out.bl hUy
      have hr9 := rd_two k9 xx yy
      have hr10 := rd_two k10 x3 x4
      have hcn : cnts [x, y] ≤ 1000000 := by simp only [cnts]; omega
      obtain ⟨N, hN⟩ : ∃ N, N = cnts [x, y] := ⟨_, rfl⟩
      obtain ⟨D, hD⟩ : ∃ D, D = nests [x, y] := ⟨_, rfl⟩
      obtain ⟨E, hE⟩ : ∃ E, E = eqN x y := ⟨_, rfl⟩
      have HXX := Lib.hid ((eqN_refl _).1 x (Nat.le_refl _))
      have HCN := Lib.hid hcn
      have HN := Lib.hid hN
      have HD := Lib.hid hD
      have HE := Lib.hid hE
      have HX3 := Lib.hid x3
      have HX4 := Lib.hid x4
      have HXW := Lib.hid xx
      have HYW := Lib.hid yy
      have HRR := Lib.hid hr9
      have HRS := Lib.hid hr10
      have HG5 := Lib.hid (below_blk hUy HU5.out)
      have HG6 := Lib.hid (below_blk hUy HU6.out)
      have HG7 := Lib.hid (below_blk by_ HK7.out)
      have HG8 := Lib.hid (below_blk by_ HK8.out)
      have HBY := Lib.hid (HBU.out.trans (hUy.mono (by have := HBU.out.size; omega)))
      have BW10 := Lib.hid ((Below.refl wy.heap.size wy).drew)
      clear by_ k9 k10 hUy x3 x4 xx yy hr9 hr10 hcn hN hD hE HC
      go_wp2_with fail
      go_region_held3 (fun W' => (W'.cell? ⟨g5, 0, none⟩ = some (.int .i64 x.kind) ∧ W'.cell? ⟨g5, 1, none⟩ = some (.string x.text) ∧ W'.cell? ⟨g5, 2, none⟩ = some (.slice A1 n1 c1) ∧ W'.cell? ⟨g5, 3, none⟩ = some (.int .i64 x.off) ∧ W'.cell? ⟨g5 + 1, 0, none⟩ = some (.int .i64 y.kind) ∧ W'.cell? ⟨g5 + 1, 1, none⟩ = some (.string y.text) ∧ W'.cell? ⟨g5 + 1, 2, none⟩ = some (.slice A2 n2 c2) ∧ W'.cell? ⟨g5 + 1, 3, none⟩ = some (.int .i64 y.off)) ∧ (W'.cell? ⟨g7, 0, none⟩ = some (.int .i64 x.kind) ∧ W'.cell? ⟨g7, 1, none⟩ = some (.string x.text) ∧ W'.cell? ⟨g7, 2, none⟩ = some (.slice A3 n3 c3) ∧ W'.cell? ⟨g7, 3, none⟩ = some (.int .i64 x.off) ∧ W'.cell? ⟨g8, 0, none⟩ = some (.int .i64 y.kind) ∧ W'.cell? ⟨g8, 1, none⟩ = some (.string y.text) ∧ W'.cell? ⟨g8, 2, none⟩ = some (.slice A4 n4 c4) ∧ W'.cell? ⟨g8, 3, none⟩ = some (.int .i64 y.off)))
        ((refine ⟨keep_two ?_ HG5.out HG6.out, keep_two ?_ HG7.out HG8.out⟩ <;> repeat' (first | with_reducible exact Below.refl _ _ | with_reducible exact BW18.out | with_reducible exact BW17.out | with_reducible exact BW16.out | with_reducible exact BW15.out | with_reducible exact BW14.out | with_reducible exact BW13.out | with_reducible exact BW12.out | with_reducible exact BW11.out | with_reducible refine Below.drew ?_)))
        ((first
          | (go_at_call 15; (with_reducible refine (check_any _).mono ?_); rintro e v11 ⟨rfl, hb⟩; have BW11 := Lib.hid (below_call BW10.out hb); clear hb)
          | (go_at_call 19; (with_reducible refine (count_at HCN.out (by exact HRS.out.bl BW11.out)).mono ?_); rintro e v12 ⟨he, hb⟩; rw [← HN.out] at he; subst he; have BW12 := Lib.hid (below_call BW11.out hb); clear hb)
          | (go_at_call 20; (with_reducible refine (nodeCount_at HCN.out (by exact HRR.out.bl BW12.out)).mono ?_); rintro e v13 ⟨he, hb⟩; rw [← HN.out] at he; subst he; have BW13 := Lib.hid (below_call BW12.out hb); clear hb)
          | (go_at_call 21; (with_reducible refine (depth_at HCN.out (by exact HRS.out.bl BW13.out)).mono ?_); rintro e v14 ⟨he, hb⟩; rw [← HD.out] at he; subst he; have BW14 := Lib.hid (below_call BW13.out hb); clear hb)
          | (go_at_call 22; (with_reducible refine (nodeDepth_at HCN.out (by exact HRR.out.bl BW14.out)).mono ?_); rintro e v15 ⟨he, hb⟩; rw [← HD.out] at he; subst he; have BW15 := Lib.hid (below_call BW14.out hb); clear hb)
          | (go_at_call 17; first | ((with_reducible refine (equal_at (x := x) (y := y) (by exact HX3.out.bl BW15.out) (by exact HX4.out.bl BW15.out)).mono ?_); rintro e v16 ⟨he, hb⟩; rw [← HE.out] at he; subst he; have BW16 := Lib.hid (below_call BW15.out hb); clear hb) | ((with_reducible refine (equal_at (x := x) (y := x) (by exact HX3.out.bl BW17.out) (by exact HX3.out.bl BW17.out)).mono ?_); rintro e v18 ⟨he, hb⟩; rw [HXX.out] at he; subst he; have BW18 := Lib.hid (below_call BW17.out hb); clear hb))
          | (go_at_call 23; (with_reducible refine (nodeEqual_at (x := x) (y := y) (by exact HXW.out.bl BW16.out) (by exact HYW.out.bl BW16.out)).mono ?_); rintro e v17 ⟨he, hb⟩; rw [← HE.out] at he; subst he; have BW17 := Lib.hid (below_call BW16.out hb); clear hb)))
      go_wp2_with fail
      go_ret
      exact ⟨rfl, HBY.out.trans (BW18.out.mono HBY.out.size)⟩
end Go.Proofs.YtjpabigjmimogaaDoor
