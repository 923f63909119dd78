/- ParseNodes: what it returns. -/
import Derived.Test.YtoepnohmhpdeiaaRNodes
set_option linter.unusedVariables false
set_option linter.unusedSimpArgs false
namespace Go.Proofs.Ytoepnohmhpdeiaa
open Go.RowKit

def RParsePost (w : World) (r : PR) (e : Ending) (w' : World) : Prop :=
  Below w.heap.size w w' ∧
  match r with
  | .fail a b => e = .returned (.tuple #[.slice none 0 0, .agg #[.int .i64 a, .int .i64 b]])
  | .ok l => ∃ A n c, e = .returned (.tuple #[.slice A n c, .agg #[.int .i64 0, .int .i64 0]]) ∧ Rd w' (fun b => w.heap.size ≤ b) (.slice A n c) (.sl 80 4 (ndsTr 80 l))

theorem below_kg {w W w1 : World} (h : Below w.heap.size w W) (k : KG W w1 (w.heap.size + 1)) : Below w.heap.size w w1 :=
  ⟨k.os.trans h.os, k.tape.trans h.tape, k.output.trans h.output, Nat.le_trans h.size k.size, fun b hb => (k.block b (Nat.lt_of_lt_of_le hb h.size) (by omega)).trans (h.block b hb)⟩
def rres (r : RR) : PR := match r with | .bad a b => .fail a b | .at_ e l => .ok l

theorem rp_start (w : World) (s : ByteArray) : RS ((w.alloc (.cells #[.int .i64 0, .int .i64 0] 25)).alloc (.cells #[.string s, .int .i64 0, .int .i64 0, .int .i64 0] 77)) (w.heap.size + 1) s (0 : Nat) 0 0 ∧
    Below w.heap.size w ((w.alloc (.cells #[.int .i64 0, .int .i64 0] 25)).alloc (.cells #[.string s, .int .i64 0, .int .i64 0, .int .i64 0] 77)) ∧
    ((w.alloc (.cells #[.int .i64 0, .int .i64 0] 25)).alloc (.cells #[.string s, .int .i64 0, .int .i64 0, .int .i64 0] 77)).heap[w.heap.size]? = some (.cells #[.int .i64 0, .int .i64 0] 25 (0, 0)) :=
  ⟨⟨heap_alloc2_new w _ _⟩, ((Below.refl _ _).alloc (Nat.le_refl _) _).alloc (by simp) _, by rw [Below.heap_alloc _ _ _ (by simp)]; exact heap_alloc_new w _⟩

set_option maxRecDepth 100000 in
set_option maxHeartbeats 2000000 in
theorem rparse_long (s : ByteArray) (hs : 65536 < s.size) (w : World) : Calls Try.prog 9 #[.string s] w (RParsePost w (.fail 4 0)) := by
  have hs' : (65536 : Int) < (s.size : Int) := by omega
  have HB := Lib.hid (Below.refl w.heap.size w)
  go_enter Try.func9, Try.ntmps9
  go_wp2
  refine bodyPost_ret (v := .tuple #[.slice none 0 0, .agg #[.int .i64 4, .int .i64 0]]) (by simp [results, Try.results9, go_sem]) rfl ⟨?_, rfl⟩
  exact HB.out.alloc (Nat.le_refl _) _

set_option maxRecDepth 100000 in
set_option maxHeartbeats 2000000 in
theorem rparse_any (s : ByteArray) (hs : s.size ≤ 65536) (w : World) (n : Nat) (r : RR) (hr : refF s n 0 0 [] = some r) : Calls Try.prog 9 #[.string s] w (RParsePost w (rres r)) := by
  have hs' : ¬ (65536 : Int) < (s.size : Int) := by omega
  have HS := Lib.hid (rp_start w s)
  have HR := Lib.hid hr
  have HN := Lib.hid (refF_bad s n 0 0 [])
  clear hr
  go_enter Try.func9, Try.ntmps9
  cases r with
  | bad a b =>
    go_wp2_with (go_at_call 37; refine (rnodes_any hs n _ _ 0 0 _ _ rfl HS.out.1 (Nat.zero_le _) (Nat.zero_le _) HR.out).mono ?_; rintro e w1 ⟨A, C, l, pos, fk, fo, rfl, q1, q2, q3, q4⟩; obtain ⟨rfl, rfl⟩ := q4; have hne := HN.out _ _ HR.out; have bf : (fk != 0) = true := (by simpa using hne); obtain ⟨c0, c1, c2, c3, f1, f2, f3⟩ := q1.cells; have hcf := q2.blk HS.out.2.2 (by omega); have g0 := (cell_of_row _ _ 0 _ _ _ hcf).trans (c := some (.int .i64 0)) rfl; have g1 := (cell_of_row _ _ 1 _ _ _ hcf).trans (c := some (.int .i64 0)) rfl; have g2 := blk_frozen hcf 0; have g3 := blk_frozen hcf 1; have Q2 := Lib.hid q2; have Q3 := Lib.hid q3; clear q1 q2 q3 hcf hne f1 f2 f3 c0 c1)
    go_region
    all_goals
      go_wp2_with fail
      refine bodyPost_ret (v := .tuple #[.slice none 0 0, .agg #[.int .i64 fk, .int .i64 fo]]) (by simp [results, Try.results9, go_sem, g0, g1]) rfl ⟨?_, rfl⟩
      exact below_alike (((below_kg HS.out.2.1 Q2.out).setCell (p := ⟨w.heap.size, 0, none⟩) (Nat.le_refl _) (.int .i64 fk)).setCell (p := ⟨w.heap.size, 1, none⟩) (Nat.le_refl _) (.int .i64 fo)) rfl rfl rfl rfl
  | at_ e l =>
    go_wp2_with (go_at_call 37; refine (rnodes_any hs n _ _ 0 0 _ _ rfl HS.out.1 (Nat.zero_le _) (Nat.zero_le _) HR.out).mono ?_; rintro e w1 ⟨A, C, l, pos, fk, fo, rfl, q1, q2, q3, q4⟩; obtain ⟨rfl, rfl, rfl, rfl⟩ := q4; obtain ⟨c0, c1, c2, c3, f1, f2, f3⟩ := q1.cells; have hcf := q2.blk HS.out.2.2 (by omega); have g0 := (cell_of_row _ _ 0 _ _ _ hcf).trans (c := some (.int .i64 0)) rfl; have g1 := (cell_of_row _ _ 1 _ _ _ hcf).trans (c := some (.int .i64 0)) rfl; have g2 := blk_frozen hcf 0; have g3 := blk_frozen hcf 1; have Q2 := Lib.hid q2; have Q3 := Lib.hid q3; clear q1 q2 q3 hcf f1 f2 f3 c0 c1)
    refine bodyPost_ret (v := .tuple #[.slice A (List.length l) C, .agg #[.int .i64 0, .int .i64 0]]) (by simp [results, Try.results9, go_sem, g0, g1]) rfl ⟨?_, A, _, C, rfl, ?_⟩
    · exact ((below_kg HS.out.2.1 Q2.out).setCell (p := ⟨w.heap.size, 0, none⟩) (Nat.le_refl _) _).setCell (p := ⟨w.heap.size, 1, none⟩) (Nat.le_refl _) _
    · refine Rd.mono (ok := fun b => w.heap.size + 2 ≤ b) ?_ (fun b hb _ => by omega)
      have h9 := Q3.out.mono (ok' := fun b => w.heap.size + 2 ≤ b) (fun b hb _ => by simp at hb; omega)
      exact (h9.setCell (p := ⟨w.heap.size, 0, none⟩) (by simp) _).setCell (p := ⟨w.heap.size, 1, none⟩) (by simp) _
end Go.Proofs.Ytoepnohmhpdeiaa
