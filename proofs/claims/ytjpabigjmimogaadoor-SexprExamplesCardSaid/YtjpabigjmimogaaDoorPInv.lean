/- The state of the parser of package sexpr in memory, and what each step does to it. No program is named here. -/
import Derived.Test.YtjpabigjmimogaaDoorParseSpec
import Derived.OneCell
set_option linter.unusedVariables false
set_option linter.unusedSimpArgs false
namespace Go.Proofs.YtjpabigjmimogaaDoor
open Go.RowKit

theorem blk_set {w : World} {g : Nat} {t : TypeId} {cs : Array Value} {fr : Nat × Nat} (h : w.heap[g]? = some (.cells cs t fr)) (i : Nat) (u : Value) : (w.setCell ⟨g, i, none⟩ u).heap[g]? = some (.cells (cs.setIfInBounds i u) t fr) := by
  simp [World.setCell, Array.getElem?_modify, h]
theorem blk_far {w : World} {g : Nat} {o : Option Obj} (h : w.heap[g]? = o) {p : Addr} (hp : g ≠ p.block) (u : Value) : (w.setCell p u).heap[g]? = o := (Below.heap_setCell w p u g hp).trans h
theorem blk_frozen {w : World} {g : Nat} {t : TypeId} {cs : Array Value} (h : w.heap[g]? = some (.cells cs t (0, 0))) (i : Nat) : w.frozen? ⟨g, i, none⟩ = false := by simp [World.frozen?, h]
theorem ownsRow_set {w : World} {base t sz n g cap i : Nat} {us : List Value} (h : w.ownsRow base t sz (.slice (some ⟨g, 0, none⟩) n cap) n us) (hi : i < n * sz) (u : Value) :
    (w.setCell ⟨g, i, none⟩ u).ownsRow base t sz (.slice (some ⟨g, 0, none⟩) n cap) n (us.set i u) := by
  refine ⟨by rw [List.length_set]; exact h.1, ?_⟩
  rcases h.2 with ⟨h0, _⟩ | ⟨g', cap', cur, hv, hb, hh, hn, hc, hs, ht⟩
  · cases h0
  · injection hv with h1 _ h3
    injection h1 with h1
    injection h1 with h1
    subst h1 h3
    refine .inr ⟨g, cap, _, rfl, hb, blk_set hh i u, hn, hc, by simpa using hs, ?_⟩
    rw [Array.toList_setIfInBounds, List.take_set, ht]
theorem node_cells {w : World} {base t g K cap : Nat} {xs : List Value} {a b c d : Value} (h : w.ownsRow base t 4 (.slice (some ⟨g, 0, none⟩) (K + 1) cap) (K + 1) (xs ++ [a, b, c, d])) (hl : xs.length = K * 4) :
    w.cell? ⟨g, K * 4, none⟩ = some a ∧ w.cell? ⟨g, K * 4 + 1, none⟩ = some b ∧ w.cell? ⟨g, K * 4 + 2, none⟩ = some c ∧ w.cell? ⟨g, K * 4 + 3, none⟩ = some d ∧
    w.frozen? ⟨g, K * 4, none⟩ = false ∧ w.frozen? ⟨g, K * 4 + 1, none⟩ = false ∧ w.frozen? ⟨g, K * 4 + 2, none⟩ = false ∧ w.frozen? ⟨g, K * 4 + 3, none⟩ = false := by
  have hc := h.cells (g := g) rfl
  have hp : ∀ j, (⟨g, 0, none⟩ : Addr).add j = ⟨g, j, none⟩ := fun j => by unfold Addr.add; split <;> simp_all
  have hf : ∀ j, w.frozen? ⟨g, j, none⟩ = false := by
    intro j
    rcases h.2 with ⟨h0, _⟩ | ⟨g', cap', cur, hv, hb, hh, _⟩
    · cases h0
    · injection hv with h1 _ h3
      injection h1 with h1
      injection h1 with h1
      subst h1
      exact blk_frozen hh j
  have g0 := hc (K * 4) a (by rw [List.getElem?_append_right (by omega), hl]; simp)
  have g1 := hc (K * 4 + 1) b (by rw [List.getElem?_append_right (by omega), hl]; simp)
  have g2 := hc (K * 4 + 2) c (by rw [List.getElem?_append_right (by omega), hl]; simp)
  have g3 := hc (K * 4 + 3) d (by rw [List.getElem?_append_right (by omega), hl]; simp)
  rw [hp] at g0 g1 g2 g3
  exact ⟨g0, g1, g2, g3, hf _, hf _, hf _, hf _⟩
theorem node_stored {w : World} {base t g K cap : Nat} {xs : List Value} {z0 z1 z2 z3 : Value} (h : w.ownsRow base t 4 (.slice (some ⟨g, 0, none⟩) (K + 1) cap) (K + 1) (xs ++ [z0, z1, z2, z3])) (hl : xs.length = K * 4) (a b c d : Value) :
    ((((w.setCell ⟨g, K * 4, none⟩ a).setCell ⟨g, K * 4 + 1, none⟩ b).setCell ⟨g, K * 4 + 2, none⟩ c).setCell ⟨g, K * 4 + 3, none⟩ d).ownsRow base t 4 (.slice (some ⟨g, 0, none⟩) (K + 1) cap) (K + 1) (xs ++ [a, b, c, d]) := by
  have h' := ownsRow_set (ownsRow_set (ownsRow_set (ownsRow_set h (i := K * 4) (by omega) a) (i := K * 4 + 1) (by omega) b) (i := K * 4 + 2) (by omega) c) (i := K * 4 + 3) (by omega) d
  rw [← hl] at h' ⊢
  rw [List.set_append_right _ _ (by omega)] at h'
  rw [List.set_append_right _ _ (by omega)] at h'
  rw [List.set_append_right _ _ (by omega)] at h'
  rw [List.set_append_right _ _ (by omega)] at h'
  simpa using h'
theorem after4 (w : World) (g i : Nat) (a1 a2 a3 a4 : Value) : let w' := (((w.setCell ⟨g, i, none⟩ a1).setCell ⟨g, i + 1, none⟩ a2).setCell ⟨g, i + 2, none⟩ a3).setCell ⟨g, i + 3, none⟩ a4
    w'.os = w.os ∧ w'.tape = w.tape ∧ w'.output = w.output ∧ w'.heap.size = w.heap.size := ⟨rfl, rfl, rfl, by simp⟩
theorem after1 (w : World) (p : Addr) (a : Value) : (w.setCell p a).os = w.os ∧ (w.setCell p a).tape = w.tape ∧ (w.setCell p a).output = w.output ∧ (w.setCell p a).heap.size = w.heap.size := ⟨rfl, rfl, rfl, by simp⟩
theorem far4 (w : World) (g i b : Nat) (hb : b ≠ g) (a1 a2 a3 a4 : Value) : ((((w.setCell ⟨g, i, none⟩ a1).setCell ⟨g, i + 1, none⟩ a2).setCell ⟨g, i + 2, none⟩ a3).setCell ⟨g, i + 3, none⟩ a4).heap[b]? = w.heap[b]? :=
  blk_far (blk_far (blk_far (blk_far rfl hb a1) hb a2) hb a3) hb a4

/-- The blocks of what has been closed. -/
def okP (base g o : Nat) (vs : List Value) (b : Nat) : Prop := base ≤ b ∧ b ≠ g ∧ b ≠ o ∧ ∀ v ∈ vs, v.ownBlock ≠ some b

structure PInv (T TP : Nat) (w : World) (base g o cap : Nat) (src : ByteArray) (pos : Nat) (fs : List Fr) (vs : List Value) : Prop where
  hg : w.heap[g]? = some (.cells #[.string src, .int .i64 pos, .slice (some ⟨o, 0, none⟩) fs.length cap] TP (0, 0))
  row : ∃ cs : Array Value, w.heap[o]? = some (.cells cs T (0, 0)) ∧ cs.size = cap * 4 ∧ ∀ (i : Nat) (f : Fr) (v : Value), fs[i]? = some f → vs[i]? = some v →
    cs[i * 4]? = some (.int .i64 f.kind) ∧ cs[i * 4 + 1]? = some (.string ⟨#[]⟩) ∧ cs[i * 4 + 2]? = some v ∧ cs[i * 4 + 3]? = some (.int .i64 f.off)
  len : vs.length = fs.length
  cap1 : fs.length ≤ cap
  cap2 : cap ≤ maxLen
  own : ∀ (i : Nat) (f : Fr) (v : Value), fs[i]? = some f → vs[i]? = some v → Own w (okP base g o vs) base T 4 v f.kids.length (ndsTr T f.kids)
  dis : ∀ (i j : Nat) (v u : Value) (b : Nat), i ≠ j → vs[i]? = some v → vs[j]? = some u → v.ownBlock = some b → u.ownBlock ≠ some b
  noto : ∀ v ∈ vs, v.ownBlock ≠ some o
  bo : base ≤ o
  bg : base ≤ g
  ne : T ≠ TP

section
variable {T TP : Nat} {w w' : World} {base g o cap : Nat} {src : ByteArray} {pos : Nat} {fs : List Fr} {vs : List Value}
theorem own_notBlk {ok : Nat → Prop} {sz n : Nat} {v : Value} {es : List Tr} (h : Own w ok base T sz v n es) {b : Nat} {cs : Array Value} {t : Nat} {fr : Nat × Nat} (hb : w.heap[b]? = some (.cells cs t fr)) (hne : T ≠ t) : v.ownBlock ≠ some b := by
  obtain ⟨us, h1, _⟩ := h
  rcases h1.2 with ⟨rfl, _⟩ | ⟨g', cap', cur, rfl, _, hh, _⟩
  · simp [Value.ownBlock]
  · intro e
    have : g' = b := by simpa [Value.ownBlock] using e
    subst this
    rw [hh] at hb
    injection hb with hb
    injection hb with _ ht
    exact hne ht
theorem PInv.go (h : PInv T TP w base g o cap src pos fs vs) : g ≠ o := by
  rintro rfl
  obtain ⟨cs, hc, _⟩ := h.row
  rw [h.hg] at hc
  injection hc with hc
  injection hc with _ ht
  exact h.ne ht.symm
theorem PInv.fr (h : PInv T TP w base g o cap src pos fs vs) {i : Nat} {v : Value} (hv : vs[i]? = some v) : ∃ f, fs[i]? = some f := by
  have hlt : i < fs.length := by rw [← h.len]; exact (List.getElem?_eq_some_iff.1 hv).1
  exact ⟨_, List.getElem?_eq_getElem hlt⟩
theorem PInv.notg (h : PInv T TP w base g o cap src pos fs vs) : ∀ v ∈ vs, v.ownBlock ≠ some g := by
  intro v hv
  obtain ⟨i, hi⟩ := List.getElem?_of_mem hv
  obtain ⟨f, hf⟩ := h.fr hi
  exact own_notBlk (h.own i f v hf hi) h.hg h.ne
/-- Where none of its blocks has turned. -/
theorem PInv.step (h : PInv T TP w base g o cap src pos fs vs) (hs : ∀ b, base ≤ b → b < w.heap.size → w'.heap[b]? = w.heap[b]?) : PInv T TP w' base g o cap src pos fs vs := by
  obtain ⟨cs, hc, hcs, hr⟩ := h.row
  exact { hg := (hs g h.bg (lt_of_block h.hg)).trans h.hg, row := ⟨cs, (hs o h.bo (lt_of_block hc)).trans hc, hcs, hr⟩, len := h.len, cap1 := h.cap1, cap2 := h.cap2
          own := fun i f v hf hv => (h.own i f v hf hv).step (fun b hb hlt => ⟨hb, hs b hb.1 hlt⟩) (fun k hk => hs k ((h.own i f v hf hv).lt k hk).1 ((h.own i f v hf hv).lt k hk).2)
          dis := h.dis, noto := h.noto, bo := h.bo, bg := h.bg, ne := h.ne }
theorem PInv.bl (h : PInv T TP w base g o cap src pos fs vs) (k : Below w.heap.size w w') : PInv T TP w' base g o cap src pos fs vs := h.step fun b _ hlt => k.block b hlt
theorem PInv.drew (h : PInv T TP w base g o cap src pos fs vs) : PInv T TP w.drew base g o cap src pos fs vs := h.step fun _ _ _ => rfl
theorem PInv.drewN (h : PInv T TP w base g o cap src pos fs vs) (n : Nat) : PInv T TP (w.drewN n) base g o cap src pos fs vs := h.step fun _ _ _ => rfl
theorem PInv.alloc (h : PInv T TP w base g o cap src pos fs vs) (x : Obj) : PInv T TP (w.alloc x) base g o cap src pos fs vs := h.step fun b _ hlt => Below.heap_alloc w x b hlt
theorem PInv.lt (h : PInv T TP w base g o cap src pos fs vs) : g < w.heap.size ∧ o < w.heap.size := by
  obtain ⟨cs, hc, _⟩ := h.row
  exact ⟨lt_of_block h.hg, lt_of_block hc⟩
/-- The place is set. -/
theorem PInv.setPos (h : PInv T TP w base g o cap src pos fs vs) (p : Nat) : PInv T TP (w.setCell ⟨g, 1, none⟩ (.int .i64 p)) base g o cap src p fs vs := by
  obtain ⟨cs, hc, hcs, hr⟩ := h.row
  have hf : ∀ b, b ≠ g → (w.setCell ⟨g, 1, none⟩ (.int .i64 p)).heap[b]? = w.heap[b]? := fun b hb => blk_far rfl hb _
  exact { hg := by simpa using blk_set h.hg 1 (.int .i64 p), row := ⟨cs, (hf o h.go.symm).trans hc, hcs, hr⟩, len := h.len, cap1 := h.cap1, cap2 := h.cap2
          own := fun i f v hfi hv => (h.own i f v hfi hv).step (fun b hb hlt => ⟨hb, hf b hb.2.1⟩) (fun k hk => hf k fun e => h.notg v (List.mem_of_getElem? hv) (e ▸ hk))
          dis := h.dis, noto := h.noto, bo := h.bo, bg := h.bg, ne := h.ne }
theorem PInv.cells (h : PInv T TP w base g o cap src pos fs vs) : w.cell? ⟨g, 0, none⟩ = some (.string src) ∧ w.cell? ⟨g, 1, none⟩ = some (.int .i64 pos) ∧ w.cell? ⟨g, 2, none⟩ = some (.slice (some ⟨o, 0, none⟩) fs.length cap) ∧
    w.frozen? ⟨g, 0, none⟩ = false ∧ w.frozen? ⟨g, 1, none⟩ = false ∧ w.frozen? ⟨g, 2, none⟩ = false :=
  ⟨(cell_of_row w g 0 _ _ _ h.hg).trans rfl, (cell_of_row w g 1 _ _ _ h.hg).trans rfl, (cell_of_row w g 2 _ _ _ h.hg).trans rfl, blk_frozen h.hg 0, blk_frozen h.hg 1, blk_frozen h.hg 2⟩
theorem PInv.node (h : PInv T TP w base g o cap src pos fs vs) {i : Nat} {f : Fr} {v : Value} (hf : fs[i]? = some f) (hv : vs[i]? = some v) :
    w.cell? ⟨o, i * 4, none⟩ = some (.int .i64 f.kind) ∧ w.cell? ⟨o, i * 4 + 1, none⟩ = some (.string ⟨#[]⟩) ∧ w.cell? ⟨o, i * 4 + 2, none⟩ = some v ∧ w.cell? ⟨o, i * 4 + 3, none⟩ = some (.int .i64 f.off) ∧
    ∀ j, w.frozen? ⟨o, j, none⟩ = false := by
  obtain ⟨cs, hc, hcs, hr⟩ := h.row
  obtain ⟨h0, h1, h2, h3⟩ := hr i f v hf hv
  exact ⟨(cell_of_row w o _ _ _ _ hc).trans h0, (cell_of_row w o _ _ _ _ hc).trans h1, (cell_of_row w o _ _ _ _ hc).trans h2, (cell_of_row w o _ _ _ _ hc).trans h3, blk_frozen hc⟩

/-- A node has been added to the innermost open list. -/
theorem PInv.added {pre : List Fr} {top : Fr} {vpre : List Value} {v : Value} {m g1 cap1 : Nat} {xs : List Value} {x : Nd} {kv : Value}
    (h : PInv T TP w base g o cap src pos (pre ++ [top]) (vpre ++ [v])) (hm : pre.length = m)
    (hx : Rd w (okP base g o (vpre ++ [v])) kv (.sl T 4 (ndsTr T x.kids)))
    (hv : w.ownsRow base T 4 v top.kids.length xs) (hr : RdL w (okP base g o (vpre ++ [v])) xs (ndsTr T top.kids))
    (h1 : w'.ownsRow base T 4 (.slice (some ⟨g1, 0, none⟩) (top.kids.length + 1) cap1) (top.kids.length + 1) (xs ++ [.int .i64 x.kind, .string x.text, kv, .int .i64 x.off]))
    (hg1 : v.ownBlock = some g1 ∨ w.heap.size ≤ g1)
    (ho : ∀ cs : Array Value, w.heap[o]? = some (.cells cs T (0, 0)) → w'.heap[o]? = some (.cells (cs.setIfInBounds (m * 4 + 2) (.slice (some ⟨g1, 0, none⟩) (top.kids.length + 1) cap1)) T (0, 0)))
    (hf : ∀ b, b < w.heap.size → v.ownBlock ≠ some b → b ≠ g1 → b ≠ o → w'.heap[b]? = w.heap[b]?) :
    PInv T TP w' base g o cap src pos (pre ++ [top.add x]) (vpre ++ [.slice (some ⟨g1, 0, none⟩) (top.kids.length + 1) cap1]) := by
  subst hm
  have hvl : vpre.length = pre.length := by have := h.len; simp at this; exact this
  have hlast : (vpre ++ [v])[pre.length]? = some v := by simp [← hvl]
  obtain ⟨cs, hc, hcs, hrow⟩ := h.row
  have hlt := h.lt
  have hgo := h.go
  have hgg : g1 ≠ g := by
    rcases hg1 with hg1 | hg1
    · rintro rfl; exact h.notg v (by simp) hg1
    · omega
  have hg1o : g1 ≠ o := by
    rcases hg1 with hg1 | hg1
    · rintro rfl; exact h.noto v (by simp) hg1
    · omega
  have hpre : ∀ (i : Nat) (u : Value), vpre[i]? = some u → u.ownBlock ≠ some g1 := by
    intro i u hu hub
    have hi : i < vpre.length := (List.getElem?_eq_some_iff.1 hu).1
    have hu' : (vpre ++ [v])[i]? = some u := by rw [List.getElem?_append_left hi]; exact hu
    rcases hg1 with hg1 | hg1
    · exact h.dis i pre.length u v g1 (by omega) hu' hlast hub hg1
    · obtain ⟨f, hf'⟩ := h.fr hu'
      have := (h.own i f u hf' hu').lt g1 hub
      omega
  -- what could be read before can be read now, and is as it was
  have hok : ∀ b, okP base g o (vpre ++ [v]) b → b < w.heap.size → okP base g o (vpre ++ [Value.slice (some ⟨g1, 0, none⟩) (top.kids.length + 1) cap1]) b ∧ w'.heap[b]? = w.heap[b]? := by
    intro b hb hbl
    obtain ⟨hb1, hb2, hb3, hb4⟩ := hb
    have hbg : b ≠ g1 := by
      rintro rfl
      rcases hg1 with hg1 | hg1
      · exact hb4 v (by simp) hg1
      · omega
    refine ⟨⟨hb1, hb2, hb3, fun u hu => ?_⟩, hf b hbl (hb4 v (by simp)) hbg hb3⟩
    rcases List.mem_append.1 hu with hu | hu
    · exact hb4 u (List.mem_append_left _ hu)
    · simp at hu
      subst hu
      simp [Value.ownBlock]
      exact fun e => hbg e.symm
  refine { hg := ?_, row := ⟨_, ho cs hc, by simpa using hcs, ?_⟩, len := by simp [hvl], cap1 := by simpa using h.cap1, cap2 := h.cap2, own := ?_, dis := ?_, noto := ?_, bo := h.bo, bg := h.bg, ne := h.ne }
  · have := h.hg
    rw [hf g hlt.1 (h.notg v (by simp)) (Ne.symm hgg) hgo]
    simpa using this
  · intro i f u hfi hui
    rw [List.getElem?_append] at hfi hui
    rw [hvl] at hui
    by_cases hi : i < pre.length
    · rw [if_pos hi] at hfi hui
      obtain ⟨a0, a1, a2, a3⟩ := hrow i f u (by rw [List.getElem?_append_left hi]; exact hfi) (by rw [List.getElem?_append_left (by omega)]; exact hui)
      simp only [Array.getElem?_setIfInBounds]
      exact ⟨by rw [if_neg (by omega)]; exact a0, by rw [if_neg (by omega)]; exact a1, by rw [if_neg (by omega)]; exact a2, by rw [if_neg (by omega)]; exact a3⟩
    · rw [if_neg hi] at hfi hui
      have hil : i - pre.length < 1 := by have := (List.getElem?_eq_some_iff.1 hfi).1; simpa using this
      have : i = pre.length := by omega
      subst this
      simp at hfi hui
      subst hfi hui
      obtain ⟨a0, a1, a2, a3⟩ := hrow pre.length top v (by simp) hlast
      have hsz : pre.length * 4 + 2 < cs.size := (Array.getElem?_eq_some_iff.1 a2).1
      simp only [Array.getElem?_setIfInBounds]
      exact ⟨by rw [if_neg (by omega)]; exact a0, by rw [if_neg (by omega)]; exact a1, by simp [hsz], by rw [if_neg (by omega)]; exact a3⟩
  · intro i f u hfi hui
    rw [List.getElem?_append] at hfi hui
    rw [hvl] at hui
    by_cases hi : i < pre.length
    · rw [if_pos hi] at hfi hui
      have ho := h.own i f u (by rw [List.getElem?_append_left hi]; exact hfi) (by rw [List.getElem?_append_left (by omega)]; exact hui)
      refine ho.step hok fun k hk => hf k (ho.lt k hk).2 (h.dis i pre.length u v k (by omega) (by rw [List.getElem?_append_left (by omega)]; exact hui) hlast hk) (fun e => hpre i u hui (e ▸ hk)) (fun e => h.noto u (by simp [List.mem_of_getElem? hui]) (e ▸ hk))
    · rw [if_neg hi] at hfi hui
      have hil : i - pre.length < 1 := by have := (List.getElem?_eq_some_iff.1 hfi).1; simpa using this
      have : i = pre.length := by omega
      subst this
      simp at hfi hui
      subst hfi hui
      refine ⟨_, by simpa [Fr.add] using h1, ?_⟩
      have e1 : ndsTr T (top.add x).kids = ndsTr T top.kids ++ [.sc (.int .i64 x.kind), .sc (.string x.text), .sl T 4 (ndsTr T x.kids), .sc (.int .i64 x.off)] := by
        simp [Fr.add, ndsTr_append, ndsTr_one, Nd.tr_eq]
      rw [e1]
      exact (hr.step hok).append (.cons (.sc _) (.cons (.sc _) (.cons (hx.step hok) (.cons (.sc _) .nil))))
  · intro i j a b c hij ha hb hac
    rw [List.getElem?_append] at ha hb
    rw [hvl] at ha hb
    by_cases hi : i < pre.length <;> by_cases hj : j < pre.length
    · rw [if_pos hi] at ha
      rw [if_pos hj] at hb
      exact h.dis i j a b c hij (by rw [List.getElem?_append_left (by omega)]; exact ha) (by rw [List.getElem?_append_left (by omega)]; exact hb) hac
    · rw [if_pos hi] at ha
      rw [if_neg hj] at hb
      have hjl : j - pre.length = 0 := by have := (List.getElem?_eq_some_iff.1 hb).1; simp at this; omega
      rw [hjl] at hb
      simp at hb
      subst hb
      simp [Value.ownBlock]
      rintro rfl
      exact hpre i a ha hac
    · rw [if_neg hi] at ha
      rw [if_pos hj] at hb
      have hil : i - pre.length = 0 := by have := (List.getElem?_eq_some_iff.1 ha).1; simp at this; omega
      rw [hil] at ha
      simp at ha
      subst ha
      simp [Value.ownBlock] at hac
      subst hac
      exact hpre j b hb
    · rw [if_neg hi] at ha
      rw [if_neg hj] at hb
      have := (List.getElem?_eq_some_iff.1 ha).1
      have := (List.getElem?_eq_some_iff.1 hb).1
      simp at *
      omega
  · intro u hu
    rcases List.mem_append.1 hu with hu | hu
    · exact h.noto u (List.mem_append_left _ hu)
    · simp at hu
      subst hu
      simp [Value.ownBlock]
      exact hg1o
end
end Go.Proofs.YtjpabigjmimogaaDoor
