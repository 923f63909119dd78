/- make([]api.Value, x). -/
import Derived.Test.YtadpfhoenjodeaaStk6
import Derived.Laws.MakeOwn
set_option linter.unusedVariables false
set_option linter.unusedSimpArgs false
namespace Go.Proofs.Ytadpfhoenjodeaa
open Go.RowKit Go.Maps
def zV : Vl := .mk 0 0 ⟨#[]⟩ []
theorem zeros_cnt : ∀ x : Nat, vlsC (List.replicate x zV) = x
  | 0 => rfl
  | x + 1 => by rw [List.replicate_succ, vlsC, zeros_cnt x]; simp [zV, Vl.cnt, vlsC]; omega
theorem zt_at : ∀ (x j : Nat), j < x * 4 → (vlsT (List.replicate x zV))[j]? = zV.tr[j % 4]?
  | 0, j, h => by omega
  | x + 1, j, h => by
    rw [List.replicate_succ, vlsT]
    have hl : zV.tr.length = 4 := Vl.tr_length _
    by_cases hj : j < 4
    · rw [List.getElem?_append_left (by omega), Nat.mod_eq_of_lt hj]
    · rw [List.getElem?_append_right (by omega), hl, zt_at x (j - 4) (by omega)]
      congr 1
      omega
set_option maxRecDepth 20000 in
theorem mk_any (x : Nat) (hx : x ≤ 1000) : ∃ cs : Array Value, (∀ W : World, (Instr.makeSlice 41 (.int .i64 (x : Int)) (.int .i64 (x : Int))).run Try.prog W = .ok (.slice (some ⟨W.heap.size, 0, none⟩) x x) (W.alloc (.cells cs 50))) ∧
    ∀ (W : World) (ok : Nat → Prop) (g : Nat), ok g → W.heap[g]? = some (.cells cs 50 (0, 0)) → Rd W ok (.slice (some ⟨g, 0, none⟩) x x) (vlsTr (List.replicate x zV)) := by
  obtain ⟨i0, hi, hz0, hz1, hz2⟩ := info_parts vls_info
  refine ⟨madeCells (#[.int .i64 0, .int .i64 0, .string ⟨#[]⟩, .slice none 0 0] : Array Value) (x * 4), fun W => ?_, fun W ok g hg hb => ?_⟩
  · have hr := run_make (P := Try.prog) W 41 50 i0 _ Try.underlying41 hi hz0 .i64 .i64 (x : Int) (x : Int) (by omega) (by omega) (by rw [hz2]; omega) (by omega)
    rw [hz1] at hr
    simp only [Int.toNat_natCast] at hr
    exact hr
  · have hsz : (madeCells (#[.int .i64 0, .int .i64 0, .string ⟨#[]⟩, .slice none 0 0] : Array Value) (x * 4)).size = x * 4 := size_madeCells _ _
    refine .row g 0 x x _ 4 _ _ (madeCells (#[.int .i64 0, .int .i64 0, .string ⟨#[]⟩, .slice none 0 0] : Array Value) (x * 4)).toList _ hg hb (Nat.le_refl _) (by simp only [maxLen]; omega) (by rw [vlsT_length, List.length_replicate]) (by simp [hsz]) (fun j hj => by simp) (fun j u e hu he => ?_)
    have hj : j < x * 4 := by
      have h5 := (List.getElem?_eq_some_iff.1 hu).1
      rw [Array.length_toList, hsz] at h5
      exact h5
    rw [zt_at x j hj] at he
    have hk : j % 4 < 4 := Nat.mod_lt _ (by omega)
    have hu2 : u = (#[.int .i64 0, .int .i64 0, .string ⟨#[]⟩, .slice none 0 0] : Array Value)[j % 4]! := by
      simp only [Array.getElem?_toList] at hu
      unfold madeCells at hu
      rw [Array.getElem?_map, Array.getElem?_range, if_pos hj] at hu
      exact (Option.some.inj hu).symm
    clear hu
    generalize j % 4 = k at *
    subst hu2
    rw [Vl.tr_eq] at he
    match k, hk with
    | 0, _ => cases he; exact .sc _
    | 1, _ => cases he; exact .sc _
    | 2, _ => cases he; exact .sc _
    | 3, _ => cases he; exact .nil _ _
end Go.Proofs.Ytadpfhoenjodeaa
