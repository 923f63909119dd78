/- telgen.Tape: New, Next. -/
import Derived.Test.YtadpfhoenjodeaaCore
import Derived.Test.YtadpfhoenjodeaaSem
import Derived.Test.YtadpfhoenjodeaaProg
import Derived.IntWalk
import Derived.Laws.Rows
import Derived.BigQuiet
set_option linter.unusedVariables false
set_option linter.unusedSimpArgs false
namespace Go.Proofs.Ytadpfhoenjodeaa
open Go.RowKit

theorem tmod_emod (n m : Int) (hm : 0 < m) : (n.tmod m < 0 → n % m = n.tmod m + m) ∧ (¬ n.tmod m < 0 → n % m = n.tmod m) := by
  have h1 := Int.emod_nonneg n (by omega : m ≠ 0)
  have h2 := Int.emod_lt_of_pos n hm
  have h3 := Int.lt_tmod_of_pos n hm
  have h4 := Int.tmod_lt_of_pos n hm
  have h5 : (m ∣ n % m - n.tmod m) := by
    have a := Int.emod_add_mul_ediv n m
    have b := Int.tmod_add_mul_tdiv n m
    exact ⟨n.tdiv m - n / m, by rw [Int.mul_sub]; omega⟩
  obtain ⟨c, hc⟩ := h5
  constructor
  · intro h
    have : c = 1 := by
      have hc1 : 0 < c := by
        apply Int.pos_of_mul_pos_right (a := m) (by omega) (by omega)
      have hc2 : c < 2 := by
        apply Int.lt_of_mul_lt_mul_left (a := m) (by omega) (by omega)
      omega
    subst this; omega
  · intro h
    have : c = 0 := by
      have hc1 : -1 < c := by
        apply Int.lt_of_mul_lt_mul_left (a := m) (by omega) (by omega)
      have hc2 : c < 1 := by
        apply Int.lt_of_mul_lt_mul_left (a := m) (by omega) (by omega)
      omega
    subst this; omega

theorem tp_frozen {w : World} {g : Nat} {t : TypeId} {cs : Array Value} (h : w.heap[g]? = some (.cells cs t (0, 0))) (i : Nat) : w.frozen? ⟨g, i, none⟩ = false := by simp [World.frozen?, h]
/-- A slice of integers that came in: nil, or a row of 'cap' cells, the numbers 'zs'. -/
def IsRow (k : IntKind) (w : World) (a : Option Addr) (len cap : Nat) (zs : List Int) : Prop :=
  (a = none ∧ len = 0 ∧ cap = 0 ∧ zs = []) ∨
  ∃ x, a = some x ∧ len ≤ cap ∧ cap ≤ maxLen ∧ zs.length = cap ∧ (∀ i, i < zs.length → w.cell? (x.add i) = some (.int k (zs.getD i 0))) ∧ ∀ n ∈ zs, (Lit.int k n).wf = true
theorem row_cell {w : World} {a : Option Addr} {len cap i : Nat} {zs : List Int} (h : IsRow .i64 w a len cap zs) (hi : i < len) : ∃ x, a = some x ∧ w.cell? (x.add i) = some (.int .i64 (zs.getD i 0)) := by
  rcases h with ⟨_, rfl, _, _⟩ | ⟨x, rfl, h1, _, h2, h3, _⟩
  · omega
  · exact ⟨x, rfl, h3 i (by omega)⟩
theorem add_block (x : Addr) (i : Nat) : (x.add i).block = x.block := by unfold Addr.add; split <;> rfl

/-- A stream at block g: it reads the integers zf 0 .. zf (n - 1), which lie in blocks below base; k of them are read. -/
structure Tp (w : World) (base g : Nat) (A : Option Addr) (n c : Nat) (zf : Nat → Int) (k : Nat) : Prop where
  bg : base ≤ g
  blk : w.heap[g]? = some (.cells #[.slice A n c, .int .i64 k] 82 (0, 0))
  kb : k ≤ 1000000
  nm : n ≤ maxLen
  at_ : ∀ i, i < n → ∃ x, A = some x ∧ x.block < base ∧ w.cell? (x.add i) = some (.int .i64 (zf i))
def Tpm (w : World) (base g : Nat) : Prop := ∃ A n c zf k, Tp w base g A n c zf k
/-- The k-th number of a tape, asked for one of m. -/
def tv (zf : Nat → Int) (n k : Nat) (m : Int) : Int := if m ≤ 1 then 0 else if k < n then zf k % m else 0
theorem tv_lt (zf : Nat → Int) (n k : Nat) (m : Int) (hm : 0 < m) : 0 ≤ tv zf n k m ∧ tv zf n k m < m := by
  unfold tv
  have h1 := Int.emod_nonneg (zf k) (by omega : m ≠ 0)
  have h2 := Int.emod_lt_of_pos (zf k) hm
  split
  · omega
  · split <;> omega

section
variable {w w' : World} {base g n c k : Nat} {A : Option Addr} {zf : Nat → Int}
theorem Tp.stm (h : Tp w base g A n c zf k) : Tpm w base g := ⟨A, n, c, zf, k, h⟩
theorem Tp.lt (h : Tp w base g A n c zf k) : g < w.heap.size := lt_of_block h.blk
theorem Tp.cells (h : Tp w base g A n c zf k) : w.cell? ⟨g, 0, none⟩ = some (.slice A n c) ∧ w.cell? ⟨g, 1, none⟩ = some (.int .i64 k) ∧ w.frozen? ⟨g, 1, none⟩ = false :=
  ⟨(cell_of_row _ _ 0 _ _ _ h.blk).trans rfl, (cell_of_row _ _ 1 _ _ _ h.blk).trans rfl, tp_frozen h.blk 1⟩
theorem Tp.kp {S : Nat → Prop} (h : Tp w base g A n c zf k) (hk : Kp w w' S) (hg : ¬ S g) (hb : ∀ b, b < base → ¬ S b) : Tp w' base g A n c zf k :=
  ⟨h.bg, hk.blk h.blk hg, h.kb, h.nm, fun i hi => by
    obtain ⟨x, e1, e2, e3⟩ := h.at_ i hi
    exact ⟨x, e1, e2, hk.cell e3 (by rw [add_block]; exact hb _ e2)⟩⟩
theorem Tp.bl (h : Tp w base g A n c zf k) (hk : Below w.heap.size w w') : Tp w' base g A n c zf k := h.kp (Kp.of_below hk fun _ => False) (fun h => h) (fun _ _ h => h)
theorem Tp.drewN (h : Tp w base g A n c zf k) (m : Nat) : Tp (w.drewN m) base g A n c zf k := h.bl (below_drewN' (Below.refl _ _) m)
theorem Tp.drew (h : Tp w base g A n c zf k) : Tp w.drew base g A n c zf k := h.bl (below_drewN' (Below.refl _ _) 1)
theorem Tp.al (h : Tp w base g A n c zf k) (o : Obj) : Tp (w.alloc o) base g A n c zf k := h.bl ((Below.refl _ _).alloc (Nat.le_refl _) o)
theorem Tp.set (h : Tp w base g A n c zf k) {p : Addr} (hp : base ≤ p.block) (hg : p.block ≠ g) (u : Value) : Tp (w.setCell p u) base g A n c zf k :=
  h.kp (S := fun b => b = p.block) ((Kp.refl w fun b => b = p.block).setCell (p := p) (.inl rfl) u) (fun e => hg e.symm) (fun b hb e => by omega)
theorem Tpm.kp {S : Nat → Prop} (h : Tpm w base g) (hk : Kp w w' S) (hg : ¬ S g) (hb : ∀ b, b < base → ¬ S b) : Tpm w' base g := by
  obtain ⟨A, n, c, zf, k, h⟩ := h
  exact (h.kp hk hg hb).stm
theorem Tpm.bl (h : Tpm w base g) (hk : Below w.heap.size w w') : Tpm w' base g := h.kp (Kp.of_below hk fun _ => False) (fun h => h) (fun _ _ h => h)
theorem Tpm.drewN (h : Tpm w base g) (m : Nat) : Tpm (w.drewN m) base g := h.bl (below_drewN' (Below.refl _ _) m)
theorem Tpm.al (h : Tpm w base g) (o : Obj) : Tpm (w.alloc o) base g := h.bl ((Below.refl _ _).alloc (Nat.le_refl _) o)
theorem Tpm.drew (h : Tpm w base g) : Tpm w.drew base g := h.bl (below_drewN' (Below.refl _ _) 1)
theorem Tpm.lt (h : Tpm w base g) : g < w.heap.size := by obtain ⟨A, n, c, zf, k, h⟩ := h; exact h.lt
theorem Tpm.bg (h : Tpm w base g) : base ≤ g := by obtain ⟨A, n, c, zf, k, h⟩ := h; exact h.bg
theorem Tp.next (h : Tp w base g A n c zf k) (hk : k < 1000000) : Tp (w.setCell ⟨g, 1, none⟩ (.int .i64 ((k : Int) + 1))) base g A n c zf (k + 1) := by
  rw [show (k : Int) + 1 = ((k + 1 : Nat) : Int) by simp]
  refine ⟨h.bg, ?_, hk, h.nm, fun i hi => ?_⟩
  · have := h.blk
    simp [World.setCell, Array.getElem?_modify, this]
  · obtain ⟨x, e1, e2, e3⟩ := h.at_ i hi
    have := h.bg
    exact ⟨x, e1, e2, (World.cell?_setCell_other _ _ _ _ (by rintro e; have := congrArg Addr.block e; rw [add_block] at this; simp at this; omega)).trans e3⟩
end

theorem new_any (A : Option Addr) (n c : Nat) (w : World) : Calls Try.prog 8 #[.slice A n c] w fun e w' => e = .returned (.pointer (some ⟨w.heap.size, 0, none⟩)) ∧ w' = w.alloc (.cells #[.slice A n c, .int .i64 0] 82 (0, 0)) := by
  go_enter Try.func8, Try.ntmps8
  go_wp2
  go_ret
  exact ⟨rfl, rfl⟩



def TapePost (w : World) (base g : Nat) (A : Option Addr) (n c : Nat) (zf : Nat → Int) (k : Nat) (r : Int) (e : Ending) (w' : World) : Prop := e = .returned (.int .i64 r) ∧ Tp w' base g A n c zf (k + 1) ∧ Kp w w' fun b => b = g
theorem tape_post {w : World} {base g n c k : Nat} {A : Option Addr} {zf : Nat → Int} {r : Int} (h : Tp (w.setCell ⟨g, 1, none⟩ (.int .i64 ((k : Int) + 1))) base g A n c zf (k + 1)) (p : Nat) :
    TapePost w base g A n c zf k r (.returned (.int .i64 r)) ((w.drewN p).setCell ⟨g, 1, none⟩ (.int .i64 ((k : Int) + 1))) :=
  ⟨rfl, ⟨h.bg, h.blk, h.kb, h.nm, h.at_⟩, ((Kp.refl w fun b => b = g).drewN p).setCell (p := ⟨g, 1, none⟩) (.inl rfl) _⟩
theorem tape_post2 {w : World} {base g n c k : Nat} {A : Option Addr} {zf : Nat → Int} {r : Int} (h : Tp (w.setCell ⟨g, 1, none⟩ (.int .i64 ((k : Int) + 1))) base g A n c zf (k + 1)) (p q : Nat) :
    TapePost w base g A n c zf k r (.returned (.int .i64 r)) (((w.drewN p).drewN q).setCell ⟨g, 1, none⟩ (.int .i64 ((k : Int) + 1))) :=
  ⟨rfl, ⟨h.bg, h.blk, h.kb, h.nm, h.at_⟩, (((Kp.refl w fun b => b = g).drewN p).drewN q).setCell (p := ⟨g, 1, none⟩) (.inl rfl) _⟩
set_option maxRecDepth 100000 in
set_option maxHeartbeats 2000000 in
theorem tnext_any {w : World} {base g n c k : Nat} {A : Option Addr} {zf : Nat → Int} (m : Int) (hm0 : 0 < m) (hm1 : m ≤ 1000000000) (hk : k < 1000000) (h : Tp w base g A n c zf k) :
    Calls Try.prog 26 #[.pointer (some ⟨g, 0, none⟩), .int .i64 m] w (TapePost w base g A n c zf k (tv zf n k m)) := by
  obtain ⟨c0, c1, f1⟩ := h.cells
  have hnm := h.nm
  simp only [maxLen] at hnm
  have H := Lib.hid h
  have H2 := Lib.hid (h.next hk)
  have hk0 : (0 : Int) ≤ (k : Int) := by omega
  have hkI : (k : Int) < 1000000 := by omega
  have hwk : wrap64 ((k : Int) + 1) = (k : Int) + 1 := by
    unfold wrap64
    omega
  by_cases hkn : k < n
  · obtain ⟨x, rfl, hxb, hz⟩ := h.at_ k hkn
    obtain ⟨z, hzf⟩ : ∃ z, z = zf k := ⟨_, rfl⟩
    rw [← hzf] at hz
    have HZ := Lib.hid hzf
    have hlt : (k : Int) < (n : Int) := by omega
    obtain ⟨t1, t2⟩ := tmod_emod z m hm0
    have T1 := Lib.hid t1
    have T2 := Lib.hid t2
    have h3 := Int.lt_tmod_of_pos z hm0
    have h4 := Int.tmod_lt_of_pos z hm0
    have hne : (m == 0) = false := by simp; omega
    have hz2 : ∀ q, (w.drewN q).cell? (x.add k) = some (.int .i64 z) := fun q => hz
    clear h hzf t1 t2 hz hxb
    by_cases hm : m ≤ 1
    · have hv : tv zf n k m = 0 := by simp [tv, hm]
      rw [hv]
      clear hv h3 h4
      go_enter Try.func26, Try.ntmps26
      go_wp2_with fail
      go_quiet (fail)
      go_wp2_with fail
      go_quiet (fail)
      go_wp2_with fail
      go_ret
      first | exact tape_post H2.out _ | exact tape_post2 H2.out _ _
    · by_cases hneg : z.tmod m < 0
      · have hv : tv zf n k m = z.tmod m + m := by rw [tv, if_neg hm, if_pos hkn, ← HZ.out, T1.out hneg]
        rw [hv]
        have hm' : (1 : Int) < m := by omega
        clear hv hm hm0 hnm hk hkn hkI
        go_enter Try.func26, Try.ntmps26
        go_wp2_with fail
        go_quiet (fail)
        go_wp2_with fail
        go_quiet (fail)
        go_wp2_with fail
        go_ret
        first | exact tape_post H2.out _ | exact tape_post2 H2.out _ _
      · have hv : tv zf n k m = z.tmod m := by rw [tv, if_neg hm, if_pos hkn, ← HZ.out, T2.out hneg]
        rw [hv]
        have hm' : (1 : Int) < m := by omega
        clear hv hm hm0 hnm hk hkn hkI
        go_enter Try.func26, Try.ntmps26
        go_wp2_with fail
        go_quiet (fail)
        go_wp2_with fail
        go_quiet (fail)
        go_wp2_with fail
        go_ret
        first | exact tape_post H2.out _ | exact tape_post2 H2.out _ _
  · clear h
    have hge : ¬ (k : Int) < (n : Int) := by omega
    have hne : (m == 0) = false := by simp; omega
    have hv : tv zf n k m = 0 := by simp [tv, hkn]
    have h0 : (0 : Int).tmod m = 0 := by simp
    rw [hv]
    clear hv
    by_cases hm : m ≤ 1
    · skip
      go_enter Try.func26, Try.ntmps26
      go_wp2_with fail
      go_quiet (fail)
      go_wp2_with fail
      go_ret
      first | exact tape_post H2.out _ | exact tape_post2 H2.out _ _
    · have hm' : (1 : Int) < m := by omega
      clear hm hm0 hm1 hkn hnm hk hkI
      go_enter Try.func26, Try.ntmps26
      go_wp2_with fail
      go_quiet (fail)
      go_wp2_with fail
      go_ret
      first | exact tape_post H2.out _ | exact tape_post2 H2.out _ _
end Go.Proofs.Ytadpfhoenjodeaa
