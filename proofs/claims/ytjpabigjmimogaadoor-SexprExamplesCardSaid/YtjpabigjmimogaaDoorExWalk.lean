/- tellaw1.SexprExamples: the walk. -/
import Derived.Test.YtjpabigjmimogaaDoorWWalk
import Derived.Test.YtjpabigjmimogaaDoorFormat
set_option linter.unusedVariables false
set_option linter.unusedSimpArgs false
namespace Go.Proofs.YtjpabigjmimogaaDoor
open Go.RowKit

theorem fail_at {s : ByteArray} {w : World} {n : Nat} {a b : Int} (hs : s.size ≤ 9223372036854775807) (hp : parseF s n = some (.fail a b)) : Calls Tryd.prog 13 #[.string s] w fun e w' =>
    e = .returned (.tuple #[.slice none 0 0, .agg #[.int .i64 a, .int .i64 b]]) ∧ Below w.heap.size w w' :=
  (parse_any s hs w n _ hp).mono fun e w' ⟨hb, he⟩ => ⟨he, hb⟩
theorem ok_at {s : ByteArray} {w : World} {m k : Nat} {l : List Nd} (hs : s.size ≤ 9223372036854775807) (hp : parseF s m = some (.ok l)) (hk : l.length = k) : Calls Tryd.prog 13 #[.string s] w fun e w' =>
    ∃ A c, e = .returned (.tuple #[.slice A k c, .agg #[.int .i64 0, .int .i64 0]]) ∧ Below w.heap.size w w' :=
  (parse_any s hs w m _ hp).mono fun e w' ⟨hb, A, n, c, he, hr⟩ => by
    obtain rfl : n = k := by have := hr.len.1; rw [ndsTr_length] at this; omega
    exact ⟨A, c, he, hb⟩
theorem ex1 : parseF ⟨#[41]⟩ 20 = some (.fail 2 0) := by kernel_rfl
theorem ex2 : parseF ⟨#[40, 97]⟩ 20 = some (.fail 2 2) := by kernel_rfl
def ex3l : List Nd := [.mk 1 ⟨#[97]⟩ [] 0, .mk 2 ⟨#[98]⟩ [] 1, .mk 1 ⟨#[99]⟩ [] 4]
theorem ex3 : parseF ⟨#[97, 34, 98, 34, 99]⟩ 20 = some (.ok ex3l) := by kernel_rfl
theorem ex4 : parseF ⟨#[34, 97, 92, 110, 34]⟩ 20 = some (.fail 2 2) := by kernel_rfl
def ex0 : Nd := .mk 0 ⟨#[]⟩ [] 0
theorem ex5 : vN 40 ex0 = false := by kernel_rfl
def ex6l : Nd := .mk 3 ⟨#[]⟩ [.mk 1 ⟨#[97]⟩ [] 0, .mk 2 ⟨#[34]⟩ [] 0] 0
theorem ex6 : vN 40 ex6l = true := by kernel_rfl
theorem ex6t : strOfNums (fmtL ex6l) = ⟨#[40, 97, 32, 34, 92, 34, 34, 41]⟩ := by kernel_rfl
theorem ex6n : (fmtL ex6l).length ≤ 900000 := by decide
theorem ex7 : pI ⟨#[45, 57, 50, 50, 51, 51, 55, 50, 48, 51, 54, 56, 53, 52, 55, 55, 53, 56, 48, 56]⟩ = some (-9223372036854775808) := by kernel_rfl
theorem ex8 : pI ⟨#[45, 48]⟩ = none := by kernel_rfl
theorem ex9 : identB ⟨#[120, 95, 49]⟩ = true := by kernel_rfl
theorem ex10 : identB ⟨#[49, 120]⟩ = false := by kernel_rfl
theorem ex11 : identB ⟨#[97, 45, 98]⟩ = false := by kernel_rfl
theorem rd_none {w : World} {T : Nat} : Rd w (fun _ => True) (.slice none 0 0) (.sl T 4 (ndsTr T [])) := by
  rw [ndsTr]
  exact .nil T 4
theorem form0_at (w : World) : Calls Tryd.prog 24 #[.agg #[.int .i64 0, .string ⟨#[]⟩, .slice none 0 0, .int .i64 0]] w fun e w' => e = .returned (.tuple #[.string ⟨#[]⟩, .int .i64 2]) ∧ Below w.heap.size w w' := by
  refine (Format_any ex0 w (fun _ => True) none 0 0 (fun h => by rw [ex5] at h; cases h) rd_none).mono ?_
  rintro e w' ⟨rfl, hb⟩
  rw [ex5]
  exact ⟨rfl, hb⟩
theorem form6_at (v : World) : Calls Tryd.prog 24 #[.agg #[.int .i64 3, .string ⟨#[]⟩, .slice (some ⟨v.heap.size, 0, none⟩) 2 2, .int .i64 0]] (v.alloc (.cells #[.int .i64 1, .string ⟨#[97]⟩, .slice none 0 0, .int .i64 0, .int .i64 2, .string ⟨#[34]⟩, .slice none 0 0, .int .i64 0] 39)) fun e w' =>
    e = .returned (.tuple #[.string ⟨#[40, 97, 32, 34, 92, 34, 34, 41]⟩, .int .i64 0]) ∧ Below (v.alloc (.cells #[.int .i64 1, .string ⟨#[97]⟩, .slice none 0 0, .int .i64 0, .int .i64 2, .string ⟨#[34]⟩, .slice none 0 0, .int .i64 0] 39)).heap.size (v.alloc (.cells #[.int .i64 1, .string ⟨#[97]⟩, .slice none 0 0, .int .i64 0, .int .i64 2, .string ⟨#[34]⟩, .slice none 0 0, .int .i64 0] 39)) w' := by
  refine (Format_any ex6l _ (fun _ => True) _ 2 2 (fun _ => ex6n) (rd_two (x := .mk 1 ⟨#[97]⟩ [] 0) (y := .mk 2 ⟨#[34]⟩ [] 0) (heap_alloc_new v _) rd_none rd_none)).mono ?_
  rintro e w' ⟨rfl, hb⟩
  rw [ex6, ex6t]
  exact ⟨rfl, hb⟩
theorem twoc {w : World} {R T : Nat} {a b : Value} (h : w.heap[R]? = some (.cells #[a, b] T (0, 0))) : w.cell? ⟨R, 0, none⟩ = some a ∧ w.cell? ⟨R, 1, none⟩ = some b :=
  ⟨(cell_of_row _ _ 0 _ _ _ h).trans rfl, (cell_of_row _ _ 1 _ _ _ h).trans rfl⟩
theorem nt_at {w w' : World} {o : Obj} (h : Below (w.alloc o).heap.size (w.alloc o) w') : Below w.heap.size w w' := below_call (bl_box _ _) h

set_option maxRecDepth 100000 in
set_option maxHeartbeats 8000000 in
theorem examples_walk (p : Value) (w : World) (hv : w.var? Tryd.prog "strconv.ErrRange" = some #[.iface 109 p]) :
    Calls Tryd.prog 9 #[] w fun e w' => e = .returned (.bool true) ∧ Below w.heap.size w w' := by
  have HVR := Lib.hid hv
  clear hv
  go_enter Tryd.func9, Tryd.ntmps9
  go_wp2_with (first
    | (go_at_call 15; (with_reducible refine (check_any _).mono ?_); rintro e v9 ⟨rfl, hb9⟩; have t8 := below_call B8.out hb9; have t7 := below_call B7.out t8; have t6 := below_call B6.out t7; have t5 := below_call B5.out (nt_at t6); have t4 := below_call B4.out (nt_at t5); have t3 := below_call B3.out (nt_at t4); have t2 := below_call B2.out (nt_at t3); have HT := Lib.hid (below_call B1.out (nt_at t2)); obtain ⟨_, _⟩ := twoc (below_blk t2 (heap_alloc_new v1 _)); obtain ⟨_, _⟩ := twoc (below_blk t3 (heap_alloc_new v2 _)); obtain ⟨_, _⟩ := twoc (below_blk t4 (heap_alloc_new v3 _)); obtain ⟨_, _⟩ := twoc (below_blk t5 (heap_alloc_new v4 _)); clear hb9 t8 t7 t6 t5 t4 t3 t2)
    | (go_at_call 13; first
        | ((with_reducible refine (fail_at (by decide) ex1).mono ?_); rintro e v1 ⟨rfl, hb⟩; have B1 := Lib.hid hb; clear hb)
        | ((with_reducible refine (fail_at (by decide) ex2).mono ?_); rintro e v2 ⟨rfl, hb⟩; have B2 := Lib.hid hb; clear hb)
        | ((with_reducible refine (ok_at (by decide) ex3 rfl).mono ?_); rintro e v3 ⟨A3, c3, rfl, hb⟩; have B3 := Lib.hid hb; clear hb)
        | ((with_reducible refine (fail_at (by decide) ex4).mono ?_); rintro e v4 ⟨rfl, hb⟩; have B4 := Lib.hid hb; clear hb))
    | (go_at_call 24; first
        | ((with_reducible refine (form0_at _).mono ?_); rintro e v5 ⟨rfl, hb⟩; have B5 := Lib.hid hb; clear hb)
        | ((with_reducible refine (form6_at _).mono ?_); rintro e v6 ⟨rfl, hb⟩; have B6 := Lib.hid hb; have HW6 := Lib.hid (below_call B1.out (nt_at (below_call B2.out (nt_at (below_call B3.out (nt_at (below_call B4.out (nt_at (below_call B5.out (nt_at hb)))))))))); clear hb))
    | (go_at_call 27; first
        | ((with_reducible refine (parseInt_any _ (by decide) _ p _ (var_bl HVR.out HW6.out)).mono ?_); rintro e v7 ⟨he, hb⟩; rw [ex7] at he; subst he; have B7 := Lib.hid hb; clear hb)
        | ((with_reducible refine (parseInt_any _ (by decide) _ p _ (var_bl HVR.out (below_call HW6.out B7.out))).mono ?_); rintro e v8 ⟨he, hb⟩; rw [ex8] at he; subst he; have B8 := Lib.hid hb; clear hb))
    | (go_at_call 30; (with_reducible refine (isIdent_any _ (by simp only [maxLen]; decide) _).mono ?_); rintro e w' ⟨he, rfl⟩; (first | rw [ex9] at he | rw [ex10] at he | rw [ex11] at he); subst he))
  go_ret
  exact ⟨rfl, HT.out⟩
end Go.Proofs.YtjpabigjmimogaaDoor
