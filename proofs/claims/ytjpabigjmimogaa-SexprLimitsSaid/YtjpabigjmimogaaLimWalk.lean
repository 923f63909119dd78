/- tellaw1.SexprLimits: the walk. -/
import Derived.Test.YtjpabigjmimogaaRepeat
import Derived.Test.YtjpabigjmimogaaEvery
import Derived.Test.YtjpabigjmimogaaLimLaw
import Derived.Test.YtjpabigjmimogaaCheckSexpr
set_option linter.unusedVariables false
set_option linter.unusedSimpArgs false
namespace Go.Proofs.Ytjpabigjmimogaa
open Go.RowKit

theorem blk_al {w : World} {b : Nat} {o o' : Obj} (h : w.heap[b]? = some o) : (w.alloc o').heap[b]? = some o := (Below.heap_alloc _ _ _ (lt_of_block h)).trans h
def StrPost (w : World) (s : ByteArray) (e : Ending) (w' : World) : Prop := e = .returned (.string s) ∧ Below w.heap.size w w'
theorem repeat_at (c : UInt8) (m : Nat) (mi : Int) (h : mi = m) (hm : m ≤ 1000000) (W : World) : Calls Try.prog 5 #[.string ⟨#[c]⟩, .int .i64 mi] W (StrPost W (strOfNums (List.replicate m (c.toNat : Int)))) := by
  subst h
  rw [← repN_one]
  exact repeat_any ⟨#[c]⟩ m hm rfl W
theorem deep_at (m : Nat) (mi : Int) (h : mi = m) (hm : m ≤ 1000000) (W : World) : Calls Try.prog 7 #[.int .i64 mi] W (StrPost W (strOfNums (List.replicate m 40 ++ List.replicate m 41))) := by
  subst h
  exact deep_any m hm W
theorem add_at {P : Program} {a b c : ByteArray} {x y : List Int} (ha : a = strOfNums x) (hb : b = strOfNums y) (hc : c = strOfNums (x ++ y)) (hl : x.length + y.length ≤ 1000000) (W : World) : (Op.stringOp .add a b).run P W = .ok (.string c) W := by
  subst ha hb hc
  rw [strOf_append]
  exact run_string_add_sum W _ _ (by rw [strOfNums_size, strOfNums_size]; omega)

set_option maxRecDepth 100000 in
set_option maxHeartbeats 4000000 in
theorem limits_ok (n d : Int) (l1 l2 l3 l4 : List Nd) (w1 t0 t1 t2 t3 u1 w3 w4 : ByteArray) (hmod : n % 3 = d + 1) (hd1 : -1 ≤ d) (hd2 : d ≤ 1) (hd3 : d ≤ 0)
    (h1 : ∀ W, Calls Try.prog 5 #[.string ⟨#[119]⟩, .int .i64 (24 + d)] W (StrPost W w1)) (h2 : ∀ W, Calls Try.prog 5 #[.string ⟨#[115]⟩, .int .i64 (2000 + d)] W (StrPost W t0))
    (h3 : ∀ W, Calls Try.prog 7 #[.int .i64 (40 + d)] W (StrPost W w3)) (h4 : ∀ W, Calls Try.prog 5 #[.string ⟨#[32]⟩, .int .i64 (65536 + d)] W (StrPost W w4))
    (e1 : ∀ W, (Op.stringOp .add ⟨#[32]⟩ w1).run Try.prog W = .ok (.string u1) W) (e2 : ∀ W, (Op.stringOp .add ⟨#[34]⟩ t0).run Try.prog W = .ok (.string t1) W) (e3 : ∀ W, (Op.stringOp .add t1 ⟨#[34]⟩).run Try.prog W = .ok (.string t2) W) (e4 : ∀ W, (Op.stringOp .add ⟨#[32]⟩ t2).run Try.prog W = .ok (.string t3) W)
    (p1 : ∀ W, Calls Try.prog 6 #[.string u1] W (ParsePost W (.ok l1))) (p2 : ∀ W, Calls Try.prog 6 #[.string t3] W (ParsePost W (.ok l2))) (p3 : ∀ W, Calls Try.prog 6 #[.string w3] W (ParsePost W (.ok l3))) (p4 : ∀ W, Calls Try.prog 6 #[.string w4] W (ParsePost W (.ok l4)))
    (hid : ∀ W, Calls Try.prog 9 #[.string w1] W fun e w' => e = .returned (.bool true) ∧ W = w') (w : World) :
    Calls Try.prog 3 #[.int .i64 n] w fun e w' => e = .returned (.bool true) ∧ Below w.heap.size w w' := by
  have H1 := Lib.hid h1
  have H2 := Lib.hid h2
  have H3 := Lib.hid h3
  have H4 := Lib.hid h4
  have P1 := Lib.hid p1
  have P2 := Lib.hid p2
  have P3 := Lib.hid p3
  have P4 := Lib.hid p4
  have HI := Lib.hid hid
  have HM := Lib.hid hmod
  have HB := Lib.hid (Below.refl w.heap.size w)
  clear h1 h2 h3 h4 p1 p2 p3 p4 hid hmod
  go_enter Try.func3, Try.ntmps3
  go_wp2_with (go_at_call 4; (with_reducible refine (mod_any _ _ (by omega) (by omega) _).mono ?_); rintro e w' ⟨he, rfl⟩; rw [HM.out] at he; subst he)
  refine (H1.out _).mono ?_
  rintro e v1 ⟨rfl, b1⟩
  have HB1 := Lib.hid (below_call HB.out b1)
  clear b1
  go_wp2_with fail
  refine (H2.out _).mono ?_
  rintro e v2 ⟨rfl, b2⟩
  have HB2 := Lib.hid (below_call HB1.out b2)
  clear b2
  go_wp2_with fail
  refine (P1.out _).mono ?_
  rintro e v3 ⟨b3, A1, n1, c1, rfl, -⟩
  have HB3 := Lib.hid (below_call HB2.out b3)
  have F1 := Lib.hid (heap_alloc_new v3 (.cells #[.int .i64 0, .int .i64 0] 27))
  clear b3
  go_wp2_with fail
  refine (P2.out _).mono ?_
  rintro e v4 ⟨b4, A2, n2, c2, rfl, -⟩
  have HB4 := Lib.hid (below_call (HB3.out.alloc HB3.out.size (.cells #[.int .i64 0, .int .i64 0] 27)) b4)
  have F1 := Lib.hid (blk_al (o' := (.cells #[.int .i64 0, .int .i64 0] 27)) (below_blk b4 F1.out))
  have F2 := Lib.hid (heap_alloc_new v4 (.cells #[.int .i64 0, .int .i64 0] 27))
  clear b4
  go_wp2_with fail
  refine (H3.out _).mono ?_
  rintro e v5 ⟨rfl, b5⟩
  have HB5 := Lib.hid (below_call (HB4.out.alloc HB4.out.size (.cells #[.int .i64 0, .int .i64 0] 27)) b5)
  have F1 := Lib.hid (below_blk b5 F1.out)
  have F2 := Lib.hid (below_blk b5 F2.out)
  clear b5
  go_wp2_with fail
  refine (P3.out _).mono ?_
  rintro e v6 ⟨b6, A3, n3, c3, rfl, -⟩
  have HB6 := Lib.hid (below_call HB5.out b6)
  have F1 := Lib.hid (blk_al (o' := (.cells #[.int .i64 0, .int .i64 0] 27)) (below_blk b6 F1.out))
  have F2 := Lib.hid (blk_al (o' := (.cells #[.int .i64 0, .int .i64 0] 27)) (below_blk b6 F2.out))
  have F3 := Lib.hid (heap_alloc_new v6 (.cells #[.int .i64 0, .int .i64 0] 27))
  clear b6
  go_wp2_with fail
  refine (H4.out _).mono ?_
  rintro e v7 ⟨rfl, b7⟩
  have HB7 := Lib.hid (below_call (HB6.out.alloc HB6.out.size (.cells #[.int .i64 0, .int .i64 0] 27)) b7)
  have F1 := Lib.hid (below_blk b7 F1.out)
  have F2 := Lib.hid (below_blk b7 F2.out)
  have F3 := Lib.hid (below_blk b7 F3.out)
  clear b7
  go_wp2_with fail
  refine (P4.out _).mono ?_
  rintro e v8 ⟨b8, A4, n4, c4, rfl, -⟩
  have HB8 := Lib.hid (below_call HB7.out b8)
  have F1 := Lib.hid (blk_al (o' := (.cells #[.int .i64 0, .int .i64 0] 27)) (below_blk b8 F1.out))
  have F2 := Lib.hid (blk_al (o' := (.cells #[.int .i64 0, .int .i64 0] 27)) (below_blk b8 F2.out))
  have F3 := Lib.hid (blk_al (o' := (.cells #[.int .i64 0, .int .i64 0] 27)) (below_blk b8 F3.out))
  have F4 := Lib.hid (heap_alloc_new v8 (.cells #[.int .i64 0, .int .i64 0] 27))
  clear b8
  go_wp2_with fail
  refine (check_any _).mono ?_
  rintro e v9 ⟨rfl, b9⟩
  have HB9 := Lib.hid (below_call (HB8.out.alloc HB8.out.size (.cells #[.int .i64 0, .int .i64 0] 27)) b9)
  have f1 := below_blk b9 F1.out
  have g1 := (cell_of_row _ _ 0 _ _ _ f1).trans (c := some (.int .i64 0)) rfl
  have k1 := (cell_of_row _ _ 1 _ _ _ f1).trans (c := some (.int .i64 0)) rfl
  have f2 := below_blk b9 F2.out
  have g2 := (cell_of_row _ _ 0 _ _ _ f2).trans (c := some (.int .i64 0)) rfl
  have k2 := (cell_of_row _ _ 1 _ _ _ f2).trans (c := some (.int .i64 0)) rfl
  have f3 := below_blk b9 F3.out
  have g3 := (cell_of_row _ _ 0 _ _ _ f3).trans (c := some (.int .i64 0)) rfl
  have k3 := (cell_of_row _ _ 1 _ _ _ f3).trans (c := some (.int .i64 0)) rfl
  have f4 := below_blk b9 F4.out
  have g4 := (cell_of_row _ _ 0 _ _ _ f4).trans (c := some (.int .i64 0)) rfl
  have k4 := (cell_of_row _ _ 1 _ _ _ f4).trans (c := some (.int .i64 0)) rfl
  clear b9 f1 f2 f3 f4
  go_wp2_with (go_at_call 9; (with_reducible refine (HI.out _).mono ?_); rintro e w' ⟨rfl, rfl⟩)
  go_ret
  exact ⟨rfl, HB9.out⟩

set_option maxRecDepth 100000 in
set_option maxHeartbeats 4000000 in
theorem limits_fail (n d : Int) (w1 t0 t1 t2 t3 u1 w3 w4 : ByteArray) (hmod : n % 3 = d + 1) (hd1 : -1 ≤ d) (hd2 : d ≤ 1) (hd3 : 0 < d)
    (h1 : ∀ W, Calls Try.prog 5 #[.string ⟨#[119]⟩, .int .i64 (24 + d)] W (StrPost W w1)) (h2 : ∀ W, Calls Try.prog 5 #[.string ⟨#[115]⟩, .int .i64 (2000 + d)] W (StrPost W t0))
    (h3 : ∀ W, Calls Try.prog 7 #[.int .i64 (40 + d)] W (StrPost W w3)) (h4 : ∀ W, Calls Try.prog 5 #[.string ⟨#[32]⟩, .int .i64 (65536 + d)] W (StrPost W w4))
    (e1 : ∀ W, (Op.stringOp .add ⟨#[32]⟩ w1).run Try.prog W = .ok (.string u1) W) (e2 : ∀ W, (Op.stringOp .add ⟨#[34]⟩ t0).run Try.prog W = .ok (.string t1) W) (e3 : ∀ W, (Op.stringOp .add t1 ⟨#[34]⟩).run Try.prog W = .ok (.string t2) W) (e4 : ∀ W, (Op.stringOp .add ⟨#[32]⟩ t2).run Try.prog W = .ok (.string t3) W)
    (p1 : ∀ W, Calls Try.prog 6 #[.string u1] W (ParsePost W (.fail 4 1))) (p2 : ∀ W, Calls Try.prog 6 #[.string t3] W (ParsePost W (.fail 4 1))) (p3 : ∀ W, Calls Try.prog 6 #[.string w3] W (ParsePost W (.fail 9 40))) (p4 : ∀ W, Calls Try.prog 6 #[.string w4] W (ParsePost W (.fail 4 0)))
    (hid : ∀ W, Calls Try.prog 9 #[.string w1] W fun e w' => e = .returned (.bool false) ∧ W = w') (w : World) :
    Calls Try.prog 3 #[.int .i64 n] w fun e w' => e = .returned (.bool true) ∧ Below w.heap.size w w' := by
  have H1 := Lib.hid h1
  have H2 := Lib.hid h2
  have H3 := Lib.hid h3
  have H4 := Lib.hid h4
  have P1 := Lib.hid p1
  have P2 := Lib.hid p2
  have P3 := Lib.hid p3
  have P4 := Lib.hid p4
  have HI := Lib.hid hid
  have HM := Lib.hid hmod
  have HB := Lib.hid (Below.refl w.heap.size w)
  clear h1 h2 h3 h4 p1 p2 p3 p4 hid hmod
  go_enter Try.func3, Try.ntmps3
  go_wp2_with (go_at_call 4; (with_reducible refine (mod_any _ _ (by omega) (by omega) _).mono ?_); rintro e w' ⟨he, rfl⟩; rw [HM.out] at he; subst he)
  refine (H1.out _).mono ?_
  rintro e v1 ⟨rfl, b1⟩
  have HB1 := Lib.hid (below_call HB.out b1)
  clear b1
  go_wp2_with fail
  refine (H2.out _).mono ?_
  rintro e v2 ⟨rfl, b2⟩
  have HB2 := Lib.hid (below_call HB1.out b2)
  clear b2
  go_wp2_with fail
  refine (P1.out _).mono ?_
  rintro e v3 ⟨b3, rfl⟩
  have HB3 := Lib.hid (below_call HB2.out b3)
  have F1 := Lib.hid (heap_alloc_new v3 (.cells #[.int .i64 4, .int .i64 1] 27))
  clear b3
  go_wp2_with fail
  refine (P2.out _).mono ?_
  rintro e v4 ⟨b4, rfl⟩
  have HB4 := Lib.hid (below_call (HB3.out.alloc HB3.out.size (.cells #[.int .i64 4, .int .i64 1] 27)) b4)
  have F1 := Lib.hid (blk_al (o' := (.cells #[.int .i64 4, .int .i64 1] 27)) (below_blk b4 F1.out))
  have F2 := Lib.hid (heap_alloc_new v4 (.cells #[.int .i64 4, .int .i64 1] 27))
  clear b4
  go_wp2_with fail
  refine (H3.out _).mono ?_
  rintro e v5 ⟨rfl, b5⟩
  have HB5 := Lib.hid (below_call (HB4.out.alloc HB4.out.size (.cells #[.int .i64 4, .int .i64 1] 27)) b5)
  have F1 := Lib.hid (below_blk b5 F1.out)
  have F2 := Lib.hid (below_blk b5 F2.out)
  clear b5
  go_wp2_with fail
  refine (P3.out _).mono ?_
  rintro e v6 ⟨b6, rfl⟩
  have HB6 := Lib.hid (below_call HB5.out b6)
  have F1 := Lib.hid (blk_al (o' := (.cells #[.int .i64 9, .int .i64 40] 27)) (below_blk b6 F1.out))
  have F2 := Lib.hid (blk_al (o' := (.cells #[.int .i64 9, .int .i64 40] 27)) (below_blk b6 F2.out))
  have F3 := Lib.hid (heap_alloc_new v6 (.cells #[.int .i64 9, .int .i64 40] 27))
  clear b6
  go_wp2_with fail
  refine (H4.out _).mono ?_
  rintro e v7 ⟨rfl, b7⟩
  have HB7 := Lib.hid (below_call (HB6.out.alloc HB6.out.size (.cells #[.int .i64 9, .int .i64 40] 27)) b7)
  have F1 := Lib.hid (below_blk b7 F1.out)
  have F2 := Lib.hid (below_blk b7 F2.out)
  have F3 := Lib.hid (below_blk b7 F3.out)
  clear b7
  go_wp2_with fail
  refine (P4.out _).mono ?_
  rintro e v8 ⟨b8, rfl⟩
  have HB8 := Lib.hid (below_call HB7.out b8)
  have F1 := Lib.hid (blk_al (o' := (.cells #[.int .i64 4, .int .i64 0] 27)) (below_blk b8 F1.out))
  have F2 := Lib.hid (blk_al (o' := (.cells #[.int .i64 4, .int .i64 0] 27)) (below_blk b8 F2.out))
  have F3 := Lib.hid (blk_al (o' := (.cells #[.int .i64 4, .int .i64 0] 27)) (below_blk b8 F3.out))
  have F4 := Lib.hid (heap_alloc_new v8 (.cells #[.int .i64 4, .int .i64 0] 27))
  clear b8
  go_wp2_with fail
  refine (check_any _).mono ?_
  rintro e v9 ⟨rfl, b9⟩
  have HB9 := Lib.hid (below_call (HB8.out.alloc HB8.out.size (.cells #[.int .i64 4, .int .i64 0] 27)) b9)
  have f1 := below_blk b9 F1.out
  have g1 := (cell_of_row _ _ 0 _ _ _ f1).trans (c := some (.int .i64 4)) rfl
  have k1 := (cell_of_row _ _ 1 _ _ _ f1).trans (c := some (.int .i64 1)) rfl
  have f2 := below_blk b9 F2.out
  have g2 := (cell_of_row _ _ 0 _ _ _ f2).trans (c := some (.int .i64 4)) rfl
  have k2 := (cell_of_row _ _ 1 _ _ _ f2).trans (c := some (.int .i64 1)) rfl
  have f3 := below_blk b9 F3.out
  have g3 := (cell_of_row _ _ 0 _ _ _ f3).trans (c := some (.int .i64 9)) rfl
  have k3 := (cell_of_row _ _ 1 _ _ _ f3).trans (c := some (.int .i64 40)) rfl
  have f4 := below_blk b9 F4.out
  have g4 := (cell_of_row _ _ 0 _ _ _ f4).trans (c := some (.int .i64 4)) rfl
  have k4 := (cell_of_row _ _ 1 _ _ _ f4).trans (c := some (.int .i64 0)) rfl
  clear b9 f1 f2 f3 f4
  go_wp2_with (go_at_call 9; (with_reducible refine (HI.out _).mono ?_); rintro e w' ⟨rfl, rfl⟩)
  go_ret
  exact ⟨rfl, HB9.out⟩

theorem ident_word (k : Nat) (h0 : 0 < k) (hk : k ≤ 1000) : identB (strOfNums (List.replicate k 119)) = decide (k ≤ 24) := by
  have hsz := strOfNums_size (List.replicate k 119)
  rw [List.length_replicate] at hsz
  have hat := atp_str (List.replicate k 119) (rep_range (by decide))
  have hb : ∀ i, i < k → bat (strOfNums (List.replicate k 119)) i = 119 := fun i hi => by
    have := hat i 119 (by rw [List.getElem?_replicate, if_pos hi]) (by omega)
    rwa [Nat.zero_add] at this
  have ha : allB isI (strOfNums (List.replicate k 119)) 0 = true := by
    unfold allB
    rw [List.all_eq_true]
    intro j hj
    rw [List.mem_range] at hj
    rw [hb (0 + j) (by omega)]
    decide
  unfold identB
  rw [hsz, ha, hb 0 h0, decide_eq_true h0]
  simp [isL]
theorem limits_walk (n : Int) (w : World) : Calls Try.prog 3 #[.int .i64 n] w fun e w' => e = .returned (.bool true) ∧ Below w.heap.size w w' := by
  obtain ⟨r, hr⟩ : ∃ r : Nat, n % 3 = (r : Int) := ⟨(n % 3).toNat, by omega⟩
  have hr3 : r < 3 := by omega
  have g1 := repeat_at 119 (23 + r) (24 + ((r : Int) - 1)) (by omega) (by omega)
  have g2 := repeat_at 115 (1999 + r) (2000 + ((r : Int) - 1)) (by omega) (by omega)
  have g3 := deep_at (39 + r) (40 + ((r : Int) - 1)) (by omega) (by omega)
  have g4 := repeat_at 32 (65535 + r) (65536 + ((r : Int) - 1)) (by omega) (by omega)
  have a1 := add_at (P := Try.prog) (a := ⟨#[32]⟩) (x := [32]) rfl rfl rfl (y := List.replicate (23 + r) 119) (by simp; omega)
  have a2 := add_at (P := Try.prog) (a := ⟨#[34]⟩) (x := [34]) rfl rfl rfl (y := List.replicate (1999 + r) 115) (by simp; omega)
  have a3 := add_at (P := Try.prog) (b := ⟨#[34]⟩) (x := [34] ++ List.replicate (1999 + r) 115) (y := [34]) rfl rfl rfl (by simp; omega)
  have a4 := add_at (P := Try.prog) (a := ⟨#[32]⟩) (x := [32]) rfl rfl rfl (y := ([34] ++ List.replicate (1999 + r) 115) ++ [34]) (by simp; omega)
  have z1 : ([32] ++ List.replicate (23 + r) (119 : Int)) = 32 :: List.replicate (23 + r) 119 := rfl
  have z4 : ([32] ++ (([34] ++ List.replicate (1999 + r) (115 : Int)) ++ [34])) = 32 :: 34 :: (List.replicate (1999 + r) 115 ++ [34]) := by simp
  rw [z1] at a1
  rw [z4] at a4
  have s1 : (strOfNums (32 :: List.replicate (23 + r) 119)).size ≤ 9223372036854775807 := by rw [strOfNums_size]; simp; omega
  have s2 : (strOfNums (32 :: 34 :: (List.replicate (1999 + r) 115 ++ [34]))).size ≤ 9223372036854775807 := by rw [strOfNums_size]; simp; omega
  have s3 : (strOfNums (List.replicate (39 + r) 40 ++ List.replicate (39 + r) 41)).size ≤ 9223372036854775807 := by rw [strOfNums_size]; simp; omega
  have s4 : (strOfNums (List.replicate (65535 + r) 32)).size ≤ 9223372036854775807 := by rw [strOfNums_size]; simp; omega
  have hid := ident_word (23 + r) (by omega) (by omega)
  have sw : (strOfNums (List.replicate (23 + r) 119)).size ≤ maxLen := by rw [strOfNums_size]; simp [maxLen]; omega
  by_cases h : r ≤ 1
  · obtain ⟨n1, l1, q1⟩ := (word_law (23 + r) (by omega) (by omega)).1 (by omega)
    obtain ⟨n2, l2, q2⟩ := (string_law (1999 + r) (by omega)).1 (by omega)
    obtain ⟨n3, l3, q3⟩ := (deep_law (39 + r) (by omega)).1 (by omega)
    obtain ⟨n4, l4, q4⟩ := (blank_law (65535 + r)).1 (by omega)
    rw [decide_eq_true (by omega)] at hid
    exact limits_ok n ((r : Int) - 1) l1 l2 l3 l4 _ _ _ _ _ _ _ _ (by omega) (by omega) (by omega) (by omega) g1 g2 g3 g4 a1 a2 a3 a4 (fun W => parse_any _ s1 W n1 _ q1) (fun W => parse_any _ s2 W n2 _ q2) (fun W => parse_any _ s3 W n3 _ q3) (fun W => parse_any _ s4 W n4 _ q4)
      (fun W => by have := isIdent_any _ sw W; rwa [hid] at this) w
  · obtain ⟨n1, q1⟩ := (word_law (23 + r) (by omega) (by omega)).2 (by omega)
    obtain ⟨n2, q2⟩ := (string_law (1999 + r) (by omega)).2 (by omega)
    obtain ⟨n3, q3⟩ := (deep_law (39 + r) (by omega)).2 (by omega)
    obtain ⟨n4, q4⟩ := (blank_law (65535 + r)).2 (by omega)
    rw [decide_eq_false (by omega)] at hid
    exact limits_fail n ((r : Int) - 1) _ _ _ _ _ _ _ _ (by omega) (by omega) (by omega) (by omega) g1 g2 g3 g4 a1 a2 a3 a4 (fun W => parse_any _ s1 W n1 _ q1) (fun W => parse_any _ s2 W n2 _ q2) (fun W => parse_any _ s3 W n3 _ q3) (fun W => parse_any _ s4 W n4 _ q4)
      (fun W => by have := isIdent_any _ sw W; rwa [hid] at this) w
end Go.Proofs.Ytjpabigjmimogaa
