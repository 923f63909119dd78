/- (*parser).parenthesis. -/
import Derived.Test.YtjpabigjmimogaaDoorComment
import Derived.Test.YtjpabigjmimogaaDoorSem
set_option linter.unusedVariables false
set_option linter.unusedSimpArgs false
namespace Go.Proofs.YtjpabigjmimogaaDoor
open Go.RowKit
attribute [local go_sem ↓] Go.wp_at_zero Go.wp_at_succ

theorem PInv.alike {T TP : Nat} {w w' : World} {base g o cap k : Nat} {s : ByteArray} {fs : List Fr} {vs : List Value} (h : PInv T TP w base g o cap s k fs vs) (hh : w'.heap = w.heap) : PInv T TP w' base g o cap s k fs vs :=
  h.step fun b _ _ => by rw [hh]
theorem Rd.alike {w w' : World} {ok : Nat → Prop} {v : Value} {e : Tr} (h : Rd w ok v e) (hh : w'.heap = w.heap) : Rd w' ok v e := h.step fun b hb _ => ⟨hb, by rw [hh]⟩

theorem stores_gen_a {w1 : World} {base T T' g o K cap i : Nat} {xs : List Value} {z0 z1 z2 z3 a b c d u : Value} {cs : Array Value}
    (hown : w1.ownsRow base T 4 (.slice (some ⟨g, 0, none⟩) (K + 1) cap) (K + 1) (xs ++ [z0, z1, z2, z3])) (hl : xs.length = K * 4) (hgo : g ≠ o) (hc : w1.heap[o]? = some (.cells cs T' (0, 0)))
    (w2 w' : World) (h2 : w2 = w1.setCell ⟨o, i, none⟩ u) (h' : w' = (((w2.setCell ⟨g, K * 4, none⟩ a).setCell ⟨g, K * 4 + 1, none⟩ b).setCell ⟨g, K * 4 + 2, none⟩ c).setCell ⟨g, K * 4 + 3, none⟩ d) :
    w'.ownsRow base T 4 (.slice (some ⟨g, 0, none⟩) (K + 1) cap) (K + 1) (xs ++ [a, b, c, d]) ∧ w'.heap[o]? = some (.cells (cs.setIfInBounds i u) T' (0, 0)) ∧
      (∀ k, k ≠ g → k ≠ o → w'.heap[k]? = w1.heap[k]?) ∧ w'.os = w1.os ∧ w'.tape = w1.tape ∧ w'.output = w1.output ∧ w'.heap.size = w1.heap.size := by
  have e1 := after1 w1 ⟨o, i, none⟩ u
  have f1 : w2.heap[o]? = some (.cells (cs.setIfInBounds i u) T' (0, 0)) := by rw [h2]; exact blk_set hc i u
  have f2 : ∀ k, k ≠ o → w2.heap[k]? = w1.heap[k]? := fun k hk => by rw [h2]; exact blk_far rfl hk _
  have o1 : w2.ownsRow base T 4 (.slice (some ⟨g, 0, none⟩) (K + 1) cap) (K + 1) (xs ++ [z0, z1, z2, z3]) := by
    rw [h2]
    exact ownsRow_setCell_other hown (by simpa [Value.ownBlock] using hgo) _
  rw [← h2] at e1
  clear h2 hown
  have e2 := after4 w2 g (K * 4) a b c d
  have o2 := node_stored o1 hl a b c d
  have f3 : ∀ k, k ≠ g → w'.heap[k]? = w2.heap[k]? := fun k hk => by rw [h']; exact far4 w2 g (K * 4) k hk a b c d
  rw [← h'] at o2
  simp only [← h'] at e2
  exact ⟨o2, (f3 o (Ne.symm hgo)).trans f1, fun k h1 h2 => (f3 k h1).trans (f2 k h2), e2.1.trans e1.1, e2.2.1.trans e1.2.1, e2.2.2.1.trans e1.2.2.1, e2.2.2.2.trans e1.2.2.2⟩
theorem stores_gen_b {w1 : World} {base T T' g o K cap i : Nat} {xs : List Value} {z0 z1 z2 z3 a b c d u : Value} {cs : Array Value}
    (hown : w1.ownsRow base T 4 (.slice (some ⟨g, 0, none⟩) (K + 1) cap) (K + 1) (xs ++ [z0, z1, z2, z3])) (hl : xs.length = K * 4) (hgo : g ≠ o) (hc : w1.heap[o]? = some (.cells cs T' (0, 0)))
    (w2 w' : World) (h2 : w2 = (((w1.setCell ⟨g, K * 4, none⟩ a).setCell ⟨g, K * 4 + 1, none⟩ b).setCell ⟨g, K * 4 + 2, none⟩ c).setCell ⟨g, K * 4 + 3, none⟩ d) (h' : w' = w2.setCell ⟨o, i, none⟩ u) :
    w'.ownsRow base T 4 (.slice (some ⟨g, 0, none⟩) (K + 1) cap) (K + 1) (xs ++ [a, b, c, d]) ∧ w'.heap[o]? = some (.cells (cs.setIfInBounds i u) T' (0, 0)) ∧
      (∀ k, k ≠ g → k ≠ o → w'.heap[k]? = w1.heap[k]?) ∧ w'.os = w1.os ∧ w'.tape = w1.tape ∧ w'.output = w1.output ∧ w'.heap.size = w1.heap.size := by
  have e1 := after4 w1 g (K * 4) a b c d
  have o1 := node_stored hown hl a b c d
  have f1 : ∀ k, k ≠ g → w2.heap[k]? = w1.heap[k]? := fun k hk => by rw [h2]; exact far4 w1 g (K * 4) k hk a b c d
  rw [← h2] at o1
  simp only [← h2] at e1
  clear h2 hown
  have e2 := after1 w2 ⟨o, i, none⟩ u
  have o2 : (w2.setCell ⟨o, i, none⟩ u).ownsRow base T 4 (.slice (some ⟨g, 0, none⟩) (K + 1) cap) (K + 1) (xs ++ [a, b, c, d]) := ownsRow_setCell_other o1 (by simpa [Value.ownBlock] using hgo) _
  have f2 : (w2.setCell ⟨o, i, none⟩ u).heap[o]? = some (.cells (cs.setIfInBounds i u) T' (0, 0)) := blk_set ((f1 o (Ne.symm hgo)).trans hc) i u
  have f3 : ∀ k, k ≠ o → (w2.setCell ⟨o, i, none⟩ u).heap[k]? = w2.heap[k]? := fun k hk => blk_far rfl hk _
  rw [← h'] at o2 f2 e2
  rw [← h'] at f3
  exact ⟨o2, f2, fun k h1 h2 => (f3 k h2).trans (f1 k h1), e2.1.trans e1.1, e2.2.1.trans e1.2.1, e2.2.2.1.trans e1.2.2.1, e2.2.2.2.trans e1.2.2.2⟩

section
variable {w w' w1 w2 : World} {base g o cap k : Nat} {s : ByteArray} {pre : List Fr} {top f : Fr} {vpre : List Value} {v u : Value}
/-- The innermost list is closed: what is left, and what it reads as. -/
theorem PInv.popped {T TP : Nat} {pos : Nat} {src : ByteArray} (h : PInv T TP w base g o cap src pos (pre ++ [f, top]) (vpre ++ [u, v])) (hl : vpre.length = pre.length) :
    PInv T TP (w.setCell ⟨g, 2, none⟩ (.slice (some ⟨o, 0, none⟩) (pre.length + 1) cap)) base g o cap src pos (pre ++ [f]) (vpre ++ [u]) ∧
    Rd (w.setCell ⟨g, 2, none⟩ (.slice (some ⟨o, 0, none⟩) (pre.length + 1) cap)) (okP base g o (vpre ++ [u])) v (.sl T 4 (ndsTr T top.kids)) := by
  have hlast : (vpre ++ [u, v])[pre.length + 1]? = some v := by rw [← hl, List.getElem?_append_right (by omega)]; simp
  have hflast : (pre ++ [f, top])[pre.length + 1]? = some top := by rw [List.getElem?_append_right (by omega)]; simp
  have hold : ∀ (i : Nat) (x : Fr), (pre ++ [f])[i]? = some x → (pre ++ [f, top])[i]? = some x := by
    intro i x hx
    have hi : i < (pre ++ [f]).length := (List.getElem?_eq_some_iff.1 hx).1
    rw [show pre ++ [f, top] = (pre ++ [f]) ++ [top] by simp, List.getElem?_append_left hi]
    exact hx
  have holdv : ∀ (i : Nat) (x : Value), (vpre ++ [u])[i]? = some x → (vpre ++ [u, v])[i]? = some x := by
    intro i x hx
    have hi : i < (vpre ++ [u]).length := (List.getElem?_eq_some_iff.1 hx).1
    rw [show vpre ++ [u, v] = (vpre ++ [u]) ++ [v] by simp, List.getElem?_append_left hi]
    exact hx
  have hilt : ∀ (i : Nat) (x : Value), (vpre ++ [u])[i]? = some x → i < pre.length + 1 := fun i x hx => by have := (List.getElem?_eq_some_iff.1 hx).1; simp at this; omega
  obtain ⟨cs, hc, hcs, hr⟩ := h.row
  have hfar : ∀ b, b ≠ g → (w.setCell ⟨g, 2, none⟩ (.slice (some ⟨o, 0, none⟩) (pre.length + 1) cap)).heap[b]? = w.heap[b]? := fun b hb => blk_far rfl hb _
  have hmem : ∀ x, x ∈ vpre ++ [u] → x ∈ vpre ++ [u, v] := fun x hx => by
    rw [show vpre ++ [u, v] = (vpre ++ [u]) ++ [v] by simp]
    exact List.mem_append_left _ hx
  have hok : ∀ b, okP base g o (vpre ++ [u, v]) b → okP base g o (vpre ++ [u]) b := fun b hb => ⟨hb.1, hb.2.1, hb.2.2.1, fun x hx => hb.2.2.2 x (hmem x hx)⟩
  have hown := h.own _ _ _ hflast hlast
  refine ⟨{ hg := ?_, row := ⟨cs, (hfar o h.go.symm).trans hc, hcs, fun i x y hx hy => hr i x y (hold i x hx) (holdv i y hy)⟩, len := by simp [hl], cap1 := by have := h.cap1; simp at this ⊢; omega, cap2 := h.cap2, own := ?_, dis := ?_, noto := fun x hx => h.noto x (hmem x hx), bo := h.bo, bg := h.bg, ne := h.ne }, ?_⟩
  · have := blk_set h.hg 2 (.slice (some ⟨o, 0, none⟩) (pre.length + 1) cap)
    simpa using this
  · intro i x y hx hy
    have ho := h.own i x y (hold i x hx) (holdv i y hy)
    exact ho.step (fun b hb _ => ⟨hok b hb, hfar b hb.2.1⟩) (fun b hb => hfar b (fun e => h.notg y (hmem y (List.mem_of_getElem? hy)) (e ▸ hb)))
  · intro i j x y b hij hx hy
    exact h.dis i j x y b hij (holdv i x hx) (holdv j y hy)
  · have hrd := hown.rd (ok' := okP base g o (vpre ++ [u])) (fun b hb _ => hok b hb) (fun b hb => ⟨(hown.lt b hb).1, fun e => h.notg v (by simp) (e ▸ hb), fun e => h.noto v (by simp) (e ▸ hb), fun x hx => by
      obtain ⟨i, hi⟩ := List.getElem?_of_mem hx
      exact h.dis (pre.length + 1) i v x b (by have := hilt i x hi; omega) hlast (holdv i x hi) hb⟩)
    exact hrd.setCell (fun e => e.2.1 rfl) _
/-- A list has been opened. -/
theorem PInv.pushed {T TP : Nat} {pos n o1 cap1 : Nat} {src : ByteArray} {fs : List Fr} {vs xs : List Value} {off : Int} (h : PInv T TP w base g o cap src pos fs vs) (hn : fs.length = n)
    (hx : w.ownsRow base T 4 (.slice (some ⟨o, 0, none⟩) n cap) n xs)
    (k1 : w'.ownsRow base T 4 (.slice (some ⟨o1, 0, none⟩) (n + 1) cap1) (n + 1) (xs ++ [.int .i64 3, .string ⟨#[]⟩, .slice none 0 0, .int .i64 off]))
    (k2 : w'.heap[g]? = some (.cells #[.string src, .int .i64 pos, .slice (some ⟨o1, 0, none⟩) (n + 1) cap1] TP (0, 0)))
    (k3 : ∀ b, b < w.heap.size → b ≠ o1 → b ≠ g → b ≠ o → w'.heap[b]? = w.heap[b]?) (ho1 : o1 = o ∨ w.heap.size ≤ o1) :
    PInv T TP w' base g o1 cap1 src pos (fs ++ [⟨3, off, []⟩]) (vs ++ [.slice none 0 0]) := by
  subst hn
  obtain ⟨cs, hc, hcs, hr⟩ := h.row
  have hlt := h.lt
  have hgo := h.go
  have hlen : xs.length = fs.length * 4 := hx.1
  have hcx : ∀ j, j < fs.length * 4 → cs[j]? = xs[j]? := by
    intro j hj
    rcases hx.2 with ⟨h0, _⟩ | ⟨g', cap', cur, hv, _, hh, _, _, _, ht⟩
    · cases h0
    · injection hv with h1 _ _
      injection h1 with h1
      injection h1 with h1
      subst h1
      have e := hh.symm.trans hc
      simp at e
      subst e
      rw [← ht, List.getElem?_take_of_lt hj]
      simp
  have hu : ∀ (i : Nat) (y : Value), vs[i]? = some y → y.ownBlock ≠ some o1 := by
    intro i y hy e
    obtain ⟨f, hf⟩ := h.fr hy
    rcases ho1 with rfl | ho1
    · exact h.noto y (List.mem_of_getElem? hy) e
    · have := ((h.own i f y hf hy).lt o1 e).2
      omega
  have hok : ∀ b, okP base g o vs b → b < w.heap.size → okP base g o1 (vs ++ [Value.slice none 0 0]) b ∧ w'.heap[b]? = w.heap[b]? := by
    intro b hb hbl
    obtain ⟨h1, h2, h3, h4⟩ := hb
    have hbo : b ≠ o1 := by rcases ho1 with rfl | ho1 <;> omega
    refine ⟨⟨h1, h2, hbo, fun x hx => ?_⟩, k3 b hbl hbo h2 h3⟩
    rcases List.mem_append.1 hx with hx | hx
    · exact h4 x hx
    · simp at hx; subst hx; simp [Value.ownBlock]
  refine { hg := by simpa using k2, row := ?_, len := by simp [h.len], cap1 := ?_, cap2 := ?_, own := ?_, dis := ?_, noto := ?_, bo := ?_, bg := h.bg, ne := h.ne }
  · rcases k1.2 with ⟨h0, _⟩ | ⟨g', cap', cur, hv, _, hh, _, _, hs, ht⟩
    · cases h0
    · injection hv with h1 _ h3
      injection h1 with h1
      injection h1 with h1
      subst h1 h3
      have hat : ∀ j, j < (fs.length + 1) * 4 → cur[j]? = (xs ++ [Value.int .i64 3, .string ⟨#[]⟩, .slice none 0 0, .int .i64 off])[j]? := by
        intro j hj
        rw [← ht, List.getElem?_take_of_lt hj]
        simp
      refine ⟨cur, hh, hs, fun i f y hf hy => ?_⟩
      by_cases hi : i < fs.length
      · rw [List.getElem?_append_left hi] at hf
        rw [List.getElem?_append_left (by rw [h.len]; exact hi)] at hy
        obtain ⟨a0, a1, a2, a3⟩ := hr i f y hf hy
        rw [hcx _ (by omega)] at a0 a1 a2 a3
        rw [hat _ (by omega), hat _ (by omega), hat _ (by omega), hat _ (by omega)]
        rw [List.getElem?_append_left (by omega), List.getElem?_append_left (by omega), List.getElem?_append_left (by omega), List.getElem?_append_left (by omega)]
        exact ⟨a0, a1, a2, a3⟩
      · have hil : i < fs.length + 1 := by have := (List.getElem?_eq_some_iff.1 hf).1; simpa using this
        obtain rfl : i = fs.length := by omega
        rw [List.getElem?_append_right (Nat.le_refl _)] at hf
        rw [List.getElem?_append_right (by rw [h.len]; exact Nat.le_refl _), h.len] at hy
        simp at hf hy
        subst hf hy
        rw [hat _ (by omega), hat _ (by omega), hat _ (by omega), hat _ (by omega)]
        rw [List.getElem?_append_right (by omega), List.getElem?_append_right (by omega), List.getElem?_append_right (by omega), List.getElem?_append_right (by omega), hlen]
        simp
  · rcases k1.2 with ⟨h0, _⟩ | ⟨g', cap', cur, hv, _, _, h5, _⟩
    · cases h0
    · injection hv with _ _ h3
      subst h3
      simpa using h5
  · rcases k1.2 with ⟨h0, _⟩ | ⟨g', cap', cur, hv, _, _, _, h5, _⟩
    · cases h0
    · injection hv with _ _ h3
      subst h3
      exact h5
  · intro i f y hf hy
    by_cases hi : i < fs.length
    · rw [List.getElem?_append_left hi] at hf
      rw [List.getElem?_append_left (by rw [h.len]; exact hi)] at hy
      have ho := h.own i f y hf hy
      exact ho.step hok fun b hb => k3 b (ho.lt b hb).2 (fun e => hu i y hy (e ▸ hb)) (fun e => h.notg y (List.mem_of_getElem? hy) (e ▸ hb)) (fun e => h.noto y (List.mem_of_getElem? hy) (e ▸ hb))
    · have hil : i < fs.length + 1 := by have := (List.getElem?_eq_some_iff.1 hf).1; simpa using this
      obtain rfl : i = fs.length := by omega
      rw [List.getElem?_append_right (Nat.le_refl _)] at hf
      rw [List.getElem?_append_right (by rw [h.len]; exact Nat.le_refl _), h.len] at hy
      simp at hf hy
      subst hf hy
      exact Own.nil _ _ _ _ _
  · intro i j x y b hij hx hy hxb
    have gx : ∀ (i : Nat) (x : Value), (vs ++ [Value.slice none 0 0])[i]? = some x → vs[i]? = some x ∨ x = .slice none 0 0 := by
      intro i x hx
      by_cases hi : i < vs.length
      · rw [List.getElem?_append_left hi] at hx
        exact .inl hx
      · have hil : i < vs.length + 1 := by have := (List.getElem?_eq_some_iff.1 hx).1; simpa using this
        obtain rfl : i = vs.length := by omega
        simp at hx
        exact .inr hx.symm
    rcases gx i x hx with hx | rfl
    · rcases gx j y hy with hy | rfl
      · exact h.dis i j x y b hij hx hy hxb
      · simp [Value.ownBlock]
    · simp [Value.ownBlock] at hxb
  · intro y hy
    rcases List.mem_append.1 hy with hy | hy
    · obtain ⟨i, hi⟩ := List.getElem?_of_mem hy
      exact hu i y hi
    · simp at hy; subst hy; simp [Value.ownBlock]
  · exact (k1.lt o1 rfl).1
end

/-- The parser's state, wherever its rows lie. -/
def PS (w : World) (base g : Nat) (s : ByteArray) (k : Nat) (fs : List Fr) : Prop := ∃ o cap vs, PInv 39 67 w base g o cap s k fs vs
def PPost (w : World) (base g : Nat) (s : ByteArray) (k : Nat) (fs : List Fr) (e : Ending) (w' : World) : Prop := e = .returned (.tuple #[]) ∧ PS w' base g s k fs ∧ Below base w w'

section
variable {w : World} {base g o cap k : Nat} {s : ByteArray} {pre : List Fr} {top f : Fr} {vs vpre : List Value} {v u : Value}
set_option maxRecDepth 100000 in
set_option maxHeartbeats 4000000 in
theorem paren_deep (h : PInv 39 67 w base g o cap s k (pre ++ [top]) vs) (hk : k < s.size) (hs : s.size ≤ 65536) (hm : pre.length ≤ 1000) (h40 : bat s k = 40) (hd : 40 ≤ pre.length) :
    Calls Tryd.prog 54 #[.pointer (some ⟨g, 0, none⟩)] w (FailPost w base 9 k) := by
  have HB := Lib.hid (Below.refl base w)
  obtain ⟨c0, c1, c2, f0, f1, f2⟩ := h.cells
  have hpl : (pre ++ [top]).length = pre.length + 1 := by simp
  rw [hpl] at c2
  obtain ⟨m, hmq⟩ : ∃ m, m = pre.length := ⟨_, rfl⟩
  rw [← hmq] at c2 hd hm
  clear hmq hpl
  have hat := bat_at s k
  have hks' : (k : Int) < (s.size : Int) := by omega
  have b40 : (bat s k == 40) = true := by simpa using h40
  have hd' : decide ((40 : Int) ≤ (m : Int)) = true := by simp; omega
  clear h h40
  go_enter Tryd.func54, Tryd.ntmps54
  go_wp2_with fail
  go_quiet (fail)
  go_wp2_with (go_at_call 52; refine (fail_any _ _ _).mono ?_; rintro e w' ⟨rfl, rfl⟩)
  exact ⟨rfl, rfl, below_drewN' HB.out _⟩

set_option maxRecDepth 100000 in
set_option maxHeartbeats 4000000 in
theorem paren_none (h : PInv 39 67 w base g o cap s k [top] vs) (hk : k < s.size) (hs : s.size ≤ 65536) (h41 : bat s k = 41) :
    Calls Tryd.prog 54 #[.pointer (some ⟨g, 0, none⟩)] w (FailPost w base 2 k) := by
  have HB := Lib.hid (Below.refl base w)
  obtain ⟨c0, c1, c2, f0, f1, f2⟩ := h.cells
  rw [show [top].length = 1 from rfl] at c2
  have hat := bat_at s k
  have hks' : (k : Int) < (s.size : Int) := by omega
  have b40 : (bat s k == 40) = false := by simp [h41]
  clear h h41
  go_enter Tryd.func54, Tryd.ntmps54
  go_wp2_with fail
  go_quiet (fail)
  go_wp2_with fail
  go_quiet (fail)
  go_wp2_with (go_at_call 52; refine (fail_any _ _ _).mono ?_; rintro e w' ⟨rfl, rfl⟩)
  exact ⟨rfl, rfl, below_drewN' HB.out _⟩

set_option maxRecDepth 100000 in
set_option maxHeartbeats 4000000 in
theorem paren_close (h : PInv 39 67 w base g o cap s k (pre ++ [f, top]) (vpre ++ [u, v])) (hl : vpre.length = pre.length) (hk : k < s.size) (hs : s.size ≤ 65536) (hm : pre.length ≤ 1000) (hK : f.kids.length ≤ 100000) (h41 : bat s k = 41) :
    Calls Tryd.prog 54 #[.pointer (some ⟨g, 0, none⟩)] w (PPost w base g s (k + 1) (pre ++ [f.add top.nd])) := by
  have HB := Lib.hid (Below.refl base w)
  obtain ⟨hp1, hp2⟩ := h.popped hl
  obtain ⟨c0, c1, c2, f0, f1, f2⟩ := h.cells
  have hpl : (pre ++ [f, top]).length = pre.length + 2 := by simp
  rw [hpl] at c2
  have hlast : (vpre ++ [u, v])[pre.length + 1]? = some v := by rw [← hl, List.getElem?_append_right (by omega)]; simp
  have hflast : (pre ++ [f, top])[pre.length + 1]? = some top := by rw [List.getElem?_append_right (by omega)]; simp
  obtain ⟨n0, n1, n2, n3, nf⟩ := h.node hflast hlast
  obtain ⟨KA, KC, rfl, _⟩ := (h.own _ _ _ hflast hlast).slice
  have hcap := h.cap1
  rw [hpl] at hcap
  obtain ⟨hlt1, hlt2⟩ := h.lt
  obtain ⟨q, hqq⟩ : ∃ q, q = pre.length + 1 := ⟨_, rfl⟩
  rw [show pre.length + 2 = q + 1 by omega] at c2 hcap
  rw [← hqq] at n0 n1 n2 n3 hp1 hp2
  have hm' : q ≤ 1001 := by omega
  have hm3 : ((q : Int) == 0) = false := by simp; omega
  have HM := Lib.hid hqq
  have hat := bat_at s k
  have hks' : (k : Int) < (s.size : Int) := by omega
  have b40 : (bat s k == 40) = false := by simp [h41]
  have hm1 : (0 : Int) ≤ (q : Int) := by omega
  have hm2 : (q : Int) < (q : Int) + 1 := by omega
  have hcap' : (q : Int) ≤ (cap : Int) := by omega
  have HP1 := Lib.hid hp1
  have HP2 := Lib.hid hp2
  have HI := Lib.hid h
  have HCC := Lib.hid hcap
  have HMM := Lib.hid hm
  clear h h41 hp1 hp2 hpl hqq hlast hflast hl nf hcap hm
  go_enter Tryd.func54, Tryd.ntmps54
  go_wp2_with fail
  go_quiet (fail)
  go_wp2_with fail
  go_quiet (fail)
  go_wp2_with fail
  have e1 : pre.length + 1 = q := HM.out.symm
  have hw1 := HP1.out
  refine (add_any (base := base) (o := o) (cap := cap) (src := s) (pos := k) (pre := pre) (top := f) (v := u) (vpre := vpre) (x := top.nd) (by refine PInv.alloc (w := (w.drewN _).setCell ⟨g, 2, none⟩ (.slice (some ⟨o, 0, none⟩) q cap)) ?_ _; exact PInv.alike HP1.out rfl) HMM.out hK (by refine Rd.alloc (w := (w.drewN _).setCell ⟨g, 2, none⟩ (.slice (some ⟨o, 0, none⟩) q cap)) ?_ _; exact Rd.alike HP2.out rfl)).mono ?_
  rintro e w' ⟨rfl, ⟨v', hPq⟩, hBq⟩
  clear c0 c1 c2 f0 f1 f2 n0 n1 n2 n3
  obtain ⟨c0, c1, c2, f0, f1, f2⟩ := hPq.cells
  have HPq := Lib.hid hPq
  have HBq := Lib.hid hBq
  clear hPq hBq hw1
  go_wp2_with fail
  go_end0
  refine ⟨rfl, ⟨o, cap, _, HPq.out.setPos (k + 1)⟩, ?_⟩
  exact (Below.trans (((below_drewN' HB.out _).setCell (p := ⟨g, 2, none⟩) HI.out.bg _).alloc (by have := HI.out.bg; simp; omega) _) HBq.out).setCell (p := ⟨g, 1, none⟩) HI.out.bg _

theorem PInv.rowO {T TP : Nat} {pos : Nat} {src : ByteArray} {fs : List Fr} (h : PInv T TP w base g o cap src pos fs vs) : ∃ xs, w.ownsRow base T 4 (.slice (some ⟨o, 0, none⟩) fs.length cap) fs.length xs := by
  obtain ⟨cs, hc, hcs, _⟩ := h.row
  have := h.cap1
  exact ⟨cs.toList.take (fs.length * 4), by simp; omega, .inr ⟨o, cap, cs, rfl, h.bo, hc, h.cap1, h.cap2, hcs, rfl⟩⟩

theorem ex_world {Q : World → Prop} {w : World} (h : Q w) : ∃ W3, Q W3 ∧ w = W3 := ⟨w, h, rfl⟩
def OpenPost (w : World) (base g : Nat) (s : ByteArray) (k : Nat) (fs : List Fr) (w' : World) : Prop := PS w' base g s k fs ∧ Below base w w'
theorem open_close {W w1 w2 : World} {off : Int} {n o1 cap1 : Nat} {fs : List Fr} {xs : List Value} {z0 z1 z2 z3 : Value} (h : PInv 39 67 W base g o cap s k fs vs) (hn : n = fs.length) (hx : W.ownsRow base 39 4 (.slice (some ⟨o, 0, none⟩) n cap) n xs)
    (hB2 : Below W.heap.size W w2)
    (hown : w1.ownsRow base 39 4 (.slice (some ⟨o1, 0, none⟩) (n + 1) cap1) (n + 1) (xs ++ [z0, z1, z2, z3]))
    (hgrow : w2.grownBy w1 (Value.slice (some ⟨o, 0, none⟩) n cap).ownBlock) (hat : (Value.slice (some ⟨o, 0, none⟩) n cap).ownBlock = some o1 ∨ o1 = W.heap.size + 1) :
    OpenPost W base g s k (fs ++ [⟨3, off, []⟩]) (((((w1.setCell ⟨g, 2, none⟩ (.slice (some ⟨o1, 0, none⟩) (n + 1) cap1)).setCell ⟨o1, n * 4, none⟩ (.int .i64 3)).setCell ⟨o1, n * 4 + 1, none⟩ (.string ⟨#[]⟩)).setCell ⟨o1, n * 4 + 2, none⟩ (.slice none 0 0)).setCell ⟨o1, n * 4 + 3, none⟩ (.int .i64 off)) ∧
    OpenPost W base g s k (fs ++ [⟨3, off, []⟩]) (((((w1.setCell ⟨o1, n * 4, none⟩ (.int .i64 3)).setCell ⟨o1, n * 4 + 1, none⟩ (.string ⟨#[]⟩)).setCell ⟨o1, n * 4 + 2, none⟩ (.slice none 0 0)).setCell ⟨o1, n * 4 + 3, none⟩ (.int .i64 off)).setCell ⟨g, 2, none⟩ (.slice (some ⟨o1, 0, none⟩) (n + 1) cap1)) := by
  have hlen : xs.length = n * 4 := hx.1
  have hlt := h.lt
  have hgo := h.go
  have hat' : o1 = o ∨ W.heap.size ≤ o1 := by
    rcases hat with hat | hat
    · left
      have : o = o1 := by simpa [Value.ownBlock] using hat
      exact this.symm
    · right; omega
  have hg1 : o1 ≠ g := by rcases hat' with rfl | hat' <;> omega
  have hold : ∀ b, b < W.heap.size → b ≠ o → w1.heap[b]? = W.heap[b]? := fun b hb hn => (hgrow.block b (Nat.lt_of_lt_of_le hb hB2.size) (by simpa [Value.ownBlock] using hn)).trans (hB2.block b hb)
  have hcg : w1.heap[g]? = some (.cells #[.string s, .int .i64 k, .slice (some ⟨o, 0, none⟩) fs.length cap] 67 (0, 0)) := (hold g hlt.1 hgo).trans h.hg
  have fin : ∀ w' : World, w'.ownsRow base 39 4 (.slice (some ⟨o1, 0, none⟩) (n + 1) cap1) (n + 1) (xs ++ [.int .i64 3, .string ⟨#[]⟩, .slice none 0 0, .int .i64 off]) →
      w'.heap[g]? = some (.cells #[.string s, .int .i64 k, .slice (some ⟨o1, 0, none⟩) (n + 1) cap1] 67 (0, 0)) → (∀ b, b ≠ o1 → b ≠ g → w'.heap[b]? = w1.heap[b]?) → w'.os = w1.os → w'.tape = w1.tape → w'.output = w1.output → w'.heap.size = w1.heap.size →
      OpenPost W base g s k (fs ++ [⟨3, off, []⟩]) w' := by
    intro w' k1 k2 k3 k4 k5 k6 k7
    refine ⟨⟨o1, cap1, _, h.pushed hn.symm hx k1 k2 (fun b hb h1 h2 h3 => (k3 b h1 h2).trans (hold b hb h3)) hat'⟩, ?_⟩
    refine ⟨k4.trans (hgrow.os.trans hB2.os), k5.trans (hgrow.tape.trans hB2.tape), k6.trans (hgrow.output.trans hB2.output), by rw [k7]; exact Nat.le_trans hB2.size hgrow.size, fun b hb => ?_⟩
    have h1 := h.bo
    have h2 := h.bg
    rw [k3 b (by rcases hat' with rfl | hat' <;> omega) (by omega)]
    exact hold b (by omega) (by omega)
  constructor
  · obtain ⟨k1, k2, k3, k4, k5, k6, k7⟩ := stores_gen_a hown hlen hg1 hcg (i := 2) (a := .int .i64 3) (b := .string ⟨#[]⟩) (c := .slice none 0 0) (d := .int .i64 off) (u := .slice (some ⟨o1, 0, none⟩) (n + 1) cap1) _ _ rfl rfl
    exact fin _ k1 (by simpa using k2) k3 k4 k5 k6 k7
  · obtain ⟨k1, k2, k3, k4, k5, k6, k7⟩ := stores_gen_b hown hlen hg1 hcg (i := 2) (a := .int .i64 3) (b := .string ⟨#[]⟩) (c := .slice none 0 0) (d := .int .i64 off) (u := .slice (some ⟨o1, 0, none⟩) (n + 1) cap1) _ _ rfl rfl
    exact fin _ k1 (by simpa using k2) k3 k4 k5 k6 k7

set_option maxRecDepth 100000 in
set_option maxHeartbeats 8000000 in
theorem paren_open (h : PInv 39 67 w base g o cap s k (pre ++ [top]) vs) (hk : k < s.size) (hs : s.size ≤ 65536) (hm : pre.length < 40) (h40 : bat s k = 40) :
    Calls Tryd.prog 54 #[.pointer (some ⟨g, 0, none⟩)] w (PPost w base g s (k + 1) (pre ++ [top] ++ [⟨3, k, []⟩])) := by
  have HB := Lib.hid (Below.refl base w)
  obtain ⟨c0, c1, c2, f0, f1, f2⟩ := h.cells
  have hpl : (pre ++ [top]).length = pre.length + 1 := by simp
  rw [hpl] at c2
  obtain ⟨m, hmq⟩ : ∃ m, m = pre.length := ⟨_, rfl⟩
  rw [← hmq] at c2 hm
  have hat := bat_at s k
  have hks' : (k : Int) < (s.size : Int) := by omega
  have b40 : (bat s k == 40) = true := by simpa using h40
  have hd' : decide ((40 : Int) ≤ (m : Int)) = false := by simp; omega
  have HI := Lib.hid h
  have HM := Lib.hid hmq
  obtain ⟨i0, hi, hz0, hz1, hz2⟩ := info_parts node_info
  clear h h40 hmq hpl
  go_enter Tryd.func54, Tryd.ntmps54
  go_wp2_with fail
  go_quiet (fail)
  go_wp2_with fail
  obtain ⟨W1, hW1⟩ : ∃ W1, W1 = w.drewN nq := ⟨_, rfl⟩
  rw [← hW1]
  have HP1 := Lib.hid (show PInv 39 67 W1 base g o cap s k (pre ++ [top]) vs by rw [hW1]; exact HI.out.drewN nq)
  have HB1 := Lib.hid (show Below base w W1 by rw [hW1]; exact below_drewN' HB.out nq)
  clear hW1 nq c0 c1 c2 f0 f1 f2
  obtain ⟨c0, c1, c2, f0, f1, f2⟩ := HP1.out.cells
  have hpl : (pre ++ [top]).length = m + 1 := by rw [HM.out]; simp
  rw [hpl] at c2
  clear hpl
  go_quiet (fail)
  go_wp2_with fail
  obtain ⟨W, hW⟩ : ∃ W, W = W1.drewN nq := ⟨_, rfl⟩
  rw [← hW]
  have HP := Lib.hid (show PInv 39 67 W base g o cap s k (pre ++ [top]) vs by rw [hW]; exact HP1.out.drewN nq)
  have HBW := Lib.hid (show Below base w W by rw [hW]; exact below_drewN' HB1.out nq)
  clear hW nq c0 c1 c2 f0 f1 f2 HP1 HB1
  obtain ⟨c0, c1, c2, f0, f1, f2⟩ := HP.out.cells
  have hpl : (pre ++ [top]).length = m + 1 := by rw [HM.out]; simp
  rw [hpl] at c2
  obtain ⟨xs, hxs⟩ := HP.out.rowO
  rw [hpl] at hxs
  have HXS := Lib.hid hxs
  obtain ⟨hl1, hl2⟩ := HP.out.lt
  have hgo1 := HP.out.go
  have hbW : base ≤ W.heap.size := by have := HP.out.bg; omega
  have c1A : ∀ y, (W.alloc y).cell? ⟨g, 1, none⟩ = some (.int .i64 k) := fun y => (World.cell?_alloc_lt W y _ hl1).trans c1
  have c2A : ∀ y, (W.alloc y).cell? ⟨g, 2, none⟩ = some (.slice (some ⟨o, 0, none⟩) (m + 1) cap) := fun y => (World.cell?_alloc_lt W y _ hl1).trans c2
  have hi1 : (0:Int) ≤ (m:Int) + 1 := by omega
  have hi3 : (m:Int) + 1 < (m:Int)+1+1 := by omega
  have hno : (Value.slice (some ⟨o, 0, none⟩) (m + 1) cap).ownBlock ≠ some g := by simp [Value.ownBlock]; omega
  clear hpl
  go_region_law ((refine step_append_lies _ (by rfl) (.tmp 63) (.tmp 70) 30 (by rfl) base 39 i0 _ 4 56 Tryd.underlying30 hi hz0 hz1 hz2 rfl (by omega) (.slice (some ⟨o, 0, none⟩) (m + 1) cap) (m + 1) xs (by rfl) (HXS.out.alloc _) ⟨W.heap.size, 0, none⟩ 1 1 [.int .i64 0, .string ⟨#[]⟩, .slice none 0 0, .int .i64 0] (by rfl) rfl (World.news_of_block (cs := #[.int .i64 0, .string ⟨#[]⟩, .slice none 0 0, .int .i64 0]) (t := 39) (fr := (0, 0)) (heap_alloc_new W _)) (by simp [Value.oneCell']) (by omega) (by simp only [maxLen]; omega) (by omega) (by simp; omega) (W.heap.size + 1) (by simp) ?_; intro o1 cap1 w1 hown2 hgrow hat3 hlt3; obtain ⟨k0, k1, k2, k3, z0, z1, z2, z3⟩ := node_cells hown2 HXS.out.1; obtain ⟨hgn0, hgn1, ho1, ho2⟩ := far_new hat3 hno hno hl1 hl1 (.cells #[.int .i64 0, .string ⟨#[]⟩, .slice none 0 0, .int .i64 0] 39) rfl hgrow c2 f2))
  all_goals
    have hcl := open_close (off := k) HP.out (by rw [HM.out]; simp) HXS.out (((Below.refl _ _).alloc (Nat.le_refl _) _).drew) hown2 hgrow hat3
    first
      | (obtain ⟨W3, hop3, hW3⟩ := ex_world hcl.1; rw [hW3])
      | (obtain ⟨W3, hop3, hW3⟩ := ex_world hcl.2; rw [hW3])
    obtain ⟨⟨o3, cap3, vs3, hP3⟩, hB3⟩ := hop3
    clear hW3 hcl hown2 hgrow hat3 c0 c1 c2 f0 f1 f2 c1A c2A k0 k1 k2 k3 z0 z1 z2 z3 ho1 ho2 hgn0 hgn1
    obtain ⟨c0, c1, c2, f0, f1, f2⟩ := hP3.cells
    have HP3 := Lib.hid hP3
    have HB3 := Lib.hid hB3
    clear hP3 hB3
    go_wp2_with fail
    go_end0
    exact ⟨rfl, ⟨o3, cap3, vs3, HP3.out.setPos (k + 1)⟩, (HBW.out.trans HB3.out).setCell (p := ⟨g, 1, none⟩) HI.out.bg _⟩
end
end Go.Proofs.YtjpabigjmimogaaDoor
