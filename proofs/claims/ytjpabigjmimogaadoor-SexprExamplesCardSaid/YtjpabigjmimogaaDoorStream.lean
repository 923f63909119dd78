/- telmake.Stream: New, Next, Raw. -/
import Derived.Test.YtjpabigjmimogaaDoorModi
import Derived.Test.YtjpabigjmimogaaDoorPInv
import Derived.IntWalk
set_option linter.unusedVariables false
set_option linter.unusedSimpArgs false
namespace Go.Proofs.YtjpabigjmimogaaDoor
open Go.RowKit

/-- A slice of integers that came in: nil, or a row of 'cap' cells, the numbers 'zs'. -/
def IsRow (k : IntKind) (w : World) (a : Option Addr) (len cap : Nat) (zs : List Int) : Prop :=
  (a = none ∧ len = 0 ∧ cap = 0 ∧ zs = []) ∨
  ∃ x, a = some x ∧ len ≤ cap ∧ cap ≤ maxLen ∧ zs.length = cap ∧ (∀ i, i < zs.length → w.cell? (x.add i) = some (.int k (zs.getD i 0))) ∧ ∀ n ∈ zs, (Lit.int k n).wf = true
theorem row_cell {w : World} {a : Option Addr} {len cap i : Nat} {zs : List Int} (h : IsRow .i64 w a len cap zs) (hi : i < len) : ∃ x, a = some x ∧ w.cell? (x.add i) = some (.int .i64 (zs.getD i 0)) := by
  rcases h with ⟨_, rfl, _, _⟩ | ⟨x, rfl, h1, _, h2, h3, _⟩
  · omega
  · exact ⟨x, rfl, h3 i (by omega)⟩
theorem add_block (x : Addr) (i : Nat) : (x.add i).block = x.block := by unfold Addr.add; split <;> rfl

/-- A stream at block g: it reads the integers zf 0 .. zf (n - 1), which lie in blocks below base; k of them are read. -/
structure St (w : World) (base g : Nat) (A : Option Addr) (n c : Nat) (zf : Nat → Int) (k : Nat) : Prop where
  bg : base ≤ g
  blk : w.heap[g]? = some (.cells #[.slice A n c, .int .i64 k] 64 (0, 0))
  kn : k ≤ n
  nm : n ≤ maxLen
  at_ : ∀ i, i < n → ∃ x, A = some x ∧ x.block < base ∧ w.cell? (x.add i) = some (.int .i64 (zf i))
def Stm (w : World) (base g : Nat) : Prop := ∃ A n c zf k, St w base g A n c zf k
/-- What the next number is, and how many are read then. -/
def nv (zf : Nat → Int) (n k : Nat) (m : Int) : Nat := if k < n then (zf k % m).toNat else 0
def rv (zf : Nat → Int) (n k : Nat) : Int := if k < n then zf k else 0
def nk (n k : Nat) : Nat := if k < n then k + 1 else k
theorem nv_lt (zf : Nat → Int) (n k : Nat) (m : Int) (hm : 0 < m) : (nv zf n k m : Int) < m := by
  unfold nv
  have h1 := Int.emod_nonneg (zf k) (by omega : m ≠ 0)
  have h2 := Int.emod_lt_of_pos (zf k) hm
  split <;> omega

section
variable {w w' : World} {base g n c k : Nat} {A : Option Addr} {zf : Nat → Int}
theorem St.stm (h : St w base g A n c zf k) : Stm w base g := ⟨A, n, c, zf, k, h⟩
theorem St.lt (h : St w base g A n c zf k) : g < w.heap.size := lt_of_block h.blk
theorem St.cells (h : St w base g A n c zf k) : w.cell? ⟨g, 0, none⟩ = some (.slice A n c) ∧ w.cell? ⟨g, 1, none⟩ = some (.int .i64 k) ∧ w.frozen? ⟨g, 1, none⟩ = false :=
  ⟨(cell_of_row _ _ 0 _ _ _ h.blk).trans rfl, (cell_of_row _ _ 1 _ _ _ h.blk).trans rfl, blk_frozen h.blk 1⟩
theorem St.kp {S : Nat → Prop} (h : St w base g A n c zf k) (hk : Kp w w' S) (hg : ¬ S g) (hb : ∀ b, b < base → ¬ S b) : St w' base g A n c zf k :=
  ⟨h.bg, hk.blk h.blk hg, h.kn, h.nm, fun i hi => by
    obtain ⟨x, e1, e2, e3⟩ := h.at_ i hi
    exact ⟨x, e1, e2, hk.cell e3 (by rw [add_block]; exact hb _ e2)⟩⟩
theorem St.bl (h : St w base g A n c zf k) (hk : Below w.heap.size w w') : St w' base g A n c zf k := h.kp (Kp.of_below hk fun _ => False) (fun h => h) (fun _ _ h => h)
theorem St.drewN (h : St w base g A n c zf k) (m : Nat) : St (w.drewN m) base g A n c zf k := h.bl (below_drewN' (Below.refl _ _) m)
theorem St.drew (h : St w base g A n c zf k) : St w.drew base g A n c zf k := h.bl (below_drewN' (Below.refl _ _) 1)
theorem St.al (h : St w base g A n c zf k) (o : Obj) : St (w.alloc o) base g A n c zf k := h.bl ((Below.refl _ _).alloc (Nat.le_refl _) o)
theorem St.set (h : St w base g A n c zf k) {p : Addr} (hp : base ≤ p.block) (hg : p.block ≠ g) (u : Value) : St (w.setCell p u) base g A n c zf k :=
  h.kp (S := fun b => b = p.block) ((Kp.refl w fun b => b = p.block).setCell (p := p) (.inl rfl) u) (fun e => hg e.symm) (fun b hb e => by omega)
theorem Stm.kp {S : Nat → Prop} (h : Stm w base g) (hk : Kp w w' S) (hg : ¬ S g) (hb : ∀ b, b < base → ¬ S b) : Stm w' base g := by
  obtain ⟨A, n, c, zf, k, h⟩ := h
  exact (h.kp hk hg hb).stm
theorem Stm.bl (h : Stm w base g) (hk : Below w.heap.size w w') : Stm w' base g := h.kp (Kp.of_below hk fun _ => False) (fun h => h) (fun _ _ h => h)
theorem Stm.drewN (h : Stm w base g) (m : Nat) : Stm (w.drewN m) base g := h.bl (below_drewN' (Below.refl _ _) m)
theorem Stm.al (h : Stm w base g) (o : Obj) : Stm (w.alloc o) base g := h.bl ((Below.refl _ _).alloc (Nat.le_refl _) o)
theorem Stm.drew (h : Stm w base g) : Stm w.drew base g := h.bl (below_drewN' (Below.refl _ _) 1)
theorem Stm.lt (h : Stm w base g) : g < w.heap.size := by obtain ⟨A, n, c, zf, k, h⟩ := h; exact h.lt
theorem Stm.bg (h : Stm w base g) : base ≤ g := by obtain ⟨A, n, c, zf, k, h⟩ := h; exact h.bg
theorem St.next (h : St w base g A n c zf k) (hk : k < n) : St (w.setCell ⟨g, 1, none⟩ (.int .i64 ((k : Int) + 1))) base g A n c zf (k + 1) := by
  rw [show (k : Int) + 1 = ((k + 1 : Nat) : Int) by simp]
  refine ⟨h.bg, ?_, hk, h.nm, fun i hi => ?_⟩
  · have := h.blk
    simp [World.setCell, Array.getElem?_modify, this]
  · obtain ⟨x, e1, e2, e3⟩ := h.at_ i hi
    have := h.bg
    exact ⟨x, e1, e2, (World.cell?_setCell_other _ _ _ _ (by rintro e; have := congrArg Addr.block e; rw [add_block] at this; simp at this; omega)).trans e3⟩
end

theorem new_any (A : Option Addr) (n c : Nat) (w : World) : Calls Tryd.prog 12 #[.slice A n c] w fun e w' => e = .returned (.pointer (some ⟨w.heap.size, 0, none⟩)) ∧ w' = w.alloc (.cells #[.slice A n c, .int .i64 0] 64 (0, 0)) := by
  go_enter Tryd.func12, Tryd.ntmps12
  go_wp2
  go_ret
  exact ⟨rfl, rfl⟩

def NextPost (w : World) (base g : Nat) (A : Option Addr) (n c : Nat) (zf : Nat → Int) (k : Nat) (r : Int) (e : Ending) (w' : World) : Prop := e = .returned (.int .i64 r) ∧ St w' base g A n c zf (nk n k) ∧ Kp w w' fun b => b = g
theorem next_post0 {w : World} {base g n c k : Nat} {A : Option Addr} {zf : Nat → Int} {q : Nat} (h : St w base g A n c zf k) (hk : ¬ k < n) (m : Int) : NextPost w base g A n c zf k (nv zf n k m) (.returned (.int .i64 0)) (w.drewN q) :=
  ⟨by simp [nv, hk], by simp only [nk, if_neg hk]; exact h.drewN _, (Kp.refl _ _).drewN _⟩
theorem next_post1 {w : World} {base g n c k : Nat} {A : Option Addr} {zf : Nat → Int} {m : Int} (h : St (w.setCell ⟨g, 1, none⟩ (.int .i64 ((k : Int) + 1))) base g A n c zf (k + 1)) (hk : k < n) (hm : 0 < m) (p q : Nat) :
    NextPost w base g A n c zf k (nv zf n k m) (.returned (.int .i64 (zf k % m))) (((w.drewN p).setCell ⟨g, 1, none⟩ (.int .i64 ((k : Int) + 1))).drewN q) := by
  have h1 := Int.emod_nonneg (zf k) (by omega : m ≠ 0)
  refine ⟨by simp only [nv, if_pos hk]; rw [Int.toNat_of_nonneg h1], ?_, ?_⟩
  · simp only [nk, if_pos hk]
    exact ⟨h.bg, h.blk, h.kn, h.nm, h.at_⟩
  · exact (((Kp.refl w fun b => b = g).drewN p).setCell (p := ⟨g, 1, none⟩) (.inl rfl) _).drewN q
theorem raw_post0 {w : World} {base g n c k : Nat} {A : Option Addr} {zf : Nat → Int} {q : Nat} (h : St w base g A n c zf k) (hk : ¬ k < n) : NextPost w base g A n c zf k (rv zf n k) (.returned (.int .i64 0)) (w.drewN q) :=
  ⟨by simp [rv, hk], by simp only [nk, if_neg hk]; exact h.drewN _, (Kp.refl _ _).drewN _⟩
theorem raw_post1 {w : World} {base g n c k : Nat} {A : Option Addr} {zf : Nat → Int} (h : St (w.setCell ⟨g, 1, none⟩ (.int .i64 ((k : Int) + 1))) base g A n c zf (k + 1)) (hk : k < n) (p q : Nat) :
    NextPost w base g A n c zf k (rv zf n k) (.returned (.int .i64 (zf k))) (((w.drewN p).setCell ⟨g, 1, none⟩ (.int .i64 ((k : Int) + 1))).drewN q) := by
  refine ⟨by simp only [rv, if_pos hk], ?_, ?_⟩
  · simp only [nk, if_pos hk]
    exact ⟨h.bg, h.blk, h.kn, h.nm, h.at_⟩
  · exact (((Kp.refl w fun b => b = g).drewN p).setCell (p := ⟨g, 1, none⟩) (.inl rfl) _).drewN q

set_option maxHeartbeats 1000000 in
theorem next_any {w : World} {base g n c k : Nat} {A : Option Addr} {zf : Nat → Int} (m : Int) (hm0 : 0 < m) (hm1 : m ≤ 1000000000) (h : St w base g A n c zf k) :
    Calls Tryd.prog 33 #[.pointer (some ⟨g, 0, none⟩), .int .i64 m] w (NextPost w base g A n c zf k (nv zf n k m)) := by
  obtain ⟨c0, c1, f1⟩ := h.cells
  have hkn := h.kn
  have hnm := h.nm
  simp only [maxLen] at hnm
  have H := Lib.hid h
  by_cases hk : k < n
  · obtain ⟨x, rfl, hxb, hz⟩ := h.at_ k hk
    have H2 := Lib.hid (h.next hk)
    obtain ⟨x', e1, e2, hz2⟩ := (h.next hk).at_ k hk
    obtain rfl := Option.some.inj e1
    obtain ⟨z, hzf⟩ : ∃ z, z = zf k := ⟨_, rfl⟩
    rw [← hzf] at hz2
    have hz3 : ∀ q, ((w.drewN q).setCell ⟨g, 1, none⟩ (.int .i64 ((k : Int) + 1))).cell? (x.add k) = some (.int .i64 z) := fun q => hz2
    have HZ := Lib.hid hzf
    clear h e1 e2 hz hkn hz2 hzf
    have hlt : (k : Int) < (n : Int) := by omega
    have hk0 : (0 : Int) ≤ (k : Int) := by omega
    have hwr : IntKind.i64.wrap (k : Int) = (k : Int) := IntWalk.i64_in _ (by omega)
    go_enter Tryd.func33, Tryd.ntmps33
    go_wp2_with fail
    go_quiet (fail)
    go_wp2_with fail
    go_quiet ((go_at_call 14; first | exact quiet_left (mod_any _ _ (by omega) (by omega) _) | exact quiet_add_left (mod_any _ _ (by omega) (by omega) _)))
    go_wp2_with fail
    go_ret
    have := HZ.out
    subst this
    exact next_post1 H2.out hk hm0 _ _
  · clear h
    have hge : n ≤ k := by omega
    go_enter Tryd.func33, Tryd.ntmps33
    go_wp2_with fail
    go_quiet (fail)
    go_wp2_with fail
    go_ret
    exact next_post0 H.out hk m

set_option maxHeartbeats 1000000 in
theorem raw_any {w : World} {base g n c k : Nat} {A : Option Addr} {zf : Nat → Int} (h : St w base g A n c zf k) :
    Calls Tryd.prog 34 #[.pointer (some ⟨g, 0, none⟩)] w (NextPost w base g A n c zf k (rv zf n k)) := by
  obtain ⟨c0, c1, f1⟩ := h.cells
  have hkn := h.kn
  have hnm := h.nm
  simp only [maxLen] at hnm
  have H := Lib.hid h
  by_cases hk : k < n
  · obtain ⟨x, rfl, hxb, hz⟩ := h.at_ k hk
    have H2 := Lib.hid (h.next hk)
    obtain ⟨x', e1, e2, hz2⟩ := (h.next hk).at_ k hk
    obtain rfl := Option.some.inj e1
    obtain ⟨z, hzf⟩ : ∃ z, z = zf k := ⟨_, rfl⟩
    rw [← hzf] at hz2
    have hz3 : ∀ q, ((w.drewN q).setCell ⟨g, 1, none⟩ (.int .i64 ((k : Int) + 1))).cell? (x.add k) = some (.int .i64 z) := fun q => hz2
    have HZ := Lib.hid hzf
    clear h e1 e2 hz hkn hz2 hzf
    have hlt : (k : Int) < (n : Int) := by omega
    have hk0 : (0 : Int) ≤ (k : Int) := by omega
    have hwr : IntKind.i64.wrap (k : Int) = (k : Int) := IntWalk.i64_in _ (by omega)
    go_enter Tryd.func34, Tryd.ntmps34
    go_wp2_with fail
    go_quiet (fail)
    go_wp2_with fail
    go_quiet (fail)
    go_wp2_with fail
    go_ret
    have := HZ.out
    subst this
    exact raw_post1 H2.out hk _ _
  · clear h
    have hge : n ≤ k := by omega
    go_enter Tryd.func34, Tryd.ntmps34
    go_wp2_with fail
    go_quiet (fail)
    go_wp2_with fail
    go_ret
    exact raw_post0 H.out hk
end Go.Proofs.YtjpabigjmimogaaDoor
