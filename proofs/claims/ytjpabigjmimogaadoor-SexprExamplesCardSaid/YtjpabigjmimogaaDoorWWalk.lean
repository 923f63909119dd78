/- tellaw1.SexprWords: the walk. -/
import Derived.Test.YtjpabigjmimogaaDoorParseInt
import Derived.Test.YtjpabigjmimogaaDoorRInt
import Derived.Test.YtjpabigjmimogaaDoorDigits
import Derived.Test.YtjpabigjmimogaaDoorRIdent
import Derived.Test.YtjpabigjmimogaaDoorCheckSexpr
import Derived.Stop.LaidErr
import Derived.Stop.Joined
import Derived.LaidMore
import Derived.MakeChecks
import Derived.Test.YtjpabigjmimogaaDoorRows
set_option linter.unusedVariables false
set_option linter.unusedSimpArgs false
namespace Go.Proofs.YtjpabigjmimogaaDoor
open Go.RowKit Go.ChangeShapes

theorem star_err : "*" ++ "errors.errorString" = "*errors.errorString" := by decide
theorem row_err (u : TypeId) (h : Tryd.prog.typeName? 3 u = some "*errors.errorString") : u = 109 :=
  typeName_ptr_named (nm := "errors.errorString") (by rw [star_err]; kernel_rfl) (by kernel_rfl) (by decide) u (by rw [star_err]; exact h)
def laid5 : List (String × DataW Unit) := [("math/bits.deBruijn32tab", Rows.laid_math_bits_deBruijn32tab), ("math/bits.deBruijn64tab", Rows.laid_math_bits_deBruijn64tab), ("internal/strconv.uint64pow10", Rows.laid_internal_strconv_uint64pow10), ("strconv.ErrRange", Rows.laid_strconv_ErrRange), ("strconv.ErrSyntax", Rows.laid_strconv_ErrSyntax)]
theorem err_of_laid {W : World} (h : laidMetH Tryd.prog laid5 W) : ∃ p, W.var? Tryd.prog "strconv.ErrRange" = some #[.iface 109 p] := by
  rw [MakeChecks.laidMetH_plain _ _ _ (by kernel_rfl)] at h
  have h3 : laidMet Tryd.prog (("strconv.ErrRange", .iface "*errors.errorString" (.ptr (.agg [.lit (.string [118, 97, 108, 117, 101, 32, 111, 117, 116, 32, 111, 102, 32, 114, 97, 110, 103, 101])]))) :: [("strconv.ErrSyntax", Rows.laid_strconv_ErrSyntax)]) W := h.tail.tail.tail
  obtain ⟨a, s, hv, -, -, -⟩ := laid_sentinel (g := 4) h3 (by kernel_rfl) (by kernel_rfl) Tryd.underlying80 row_err Tryd.underlying109 Tryd.underlying111 rfl rfl Tryd.underlying9 (by kernel_rfl) (by kernel_rfl)
  exact ⟨_, hv⟩
theorem door5_met (os : Os) (args : Array Value) : laidMetH Tryd.prog laid5 ((World.doorLaid Tryd.prog 77 os).forCall (fun _ _ => 0) ⟨#[], args, []⟩).memory :=
  laidMetH_of_parts3 (fuel := 8) (laidMet_of_run' 8 (by kernel_rfl) (by kernel_rfl)) (by kernel_rfl) (by kernel_rfl)
theorem var_bl {P : Program} {W W' : World} {n : String} {cs : Array Value} (h : W.var? P n = some cs) (hb : Below W.heap.size W W') : W'.var? P n = some cs := by
  unfold World.var? at h ⊢
  cases hg : P.globalNamed n with
  | none => rw [hg] at h; cases h
  | some g =>
    rw [hg] at h
    simp only [Option.bind_some] at h ⊢
    cases hh : W.heap[g]? with
    | none => rw [hh] at h; cases h
    | some o => rw [below_blk hb hh]; rw [hh] at h; exact h

set_option maxRecDepth 100000 in
set_option maxHeartbeats 8000000 in
theorem words_walk (s : ByteArray) (n : Int) (hs : s.size ≤ 140737488355328) (h1 : -9223372036854775808 ≤ n) (h2 : n < 9223372036854775808) (p : Value) (w : World) (hv : w.var? Tryd.prog "strconv.ErrRange" = some #[.iface 109 p]) :
    Calls Tryd.prog 8 #[.string s, .int .i64 n] w fun e w' => e = .returned (.bool true) ∧ Below w.heap.size w w' := by
  have HVR := Lib.hid hv
  clear hv
  have hsm : s.size ≤ maxLen := by simp only [maxLen]; omega
  obtain ⟨V, hV⟩ : ∃ V, V = (pI s).getD 0 := ⟨_, rfl⟩
  obtain ⟨O, hO⟩ : ∃ O, O = (pI s).isSome := ⟨_, rfl⟩
  obtain ⟨B, hB⟩ : ∃ B, B = identB s := ⟨_, rfl⟩
  obtain ⟨S, hS⟩ : ∃ S, S = strOfNums (digL n) := ⟨_, rfl⟩
  have hp := pI_digits n h1 h2
  rw [← hS] at hp
  have hSl : S.size ≤ 140737488355328 := by
    rw [hS, strOfNums_size, digL]
    have := (dF_len 19 n.natAbs).2
    split
    · simp; omega
    · omega
  have HV := Lib.hid hV
  have HO := Lib.hid hO
  have HB := Lib.hid hB
  have HS := Lib.hid hS
  have HP := Lib.hid hp
  have hvv : (V == V) = true := by simp
  have hnn : (n == n) = true := by simp
  clear hV hO hB hS hp
  cases O <;> cases B
  all_goals
    go_enter Tryd.func8, Tryd.ntmps8
    go_wp2_with (first
      | (go_at_call 15; (with_reducible refine (check_any _).mono ?_); rintro e w4 ⟨rfl, hb⟩; have HB4 := Lib.hid (below_call HB3.out hb); clear hb)
      | (go_at_call 29; (with_reducible refine (digits_any n h1 h2 _).mono ?_); rintro e w2 ⟨he, hb⟩; rw [← HS.out] at he; subst he; have HB2 := Lib.hid (below_call HB1.out hb); clear hb)
      | (go_at_call 28; (with_reducible refine (rparseInt_any s hs _).mono ?_); rintro e w' ⟨he, rfl⟩; rw [← HV.out, ← HO.out] at he; subst he)
      | (go_at_call 27; first
          | ((with_reducible refine (parseInt_any S hSl _ p _ (var_bl HVR.out HB2.out)).mono ?_); rintro e w3 ⟨he, hb⟩; rw [HP.out] at he; have HB3 := Lib.hid (below_call HB2.out hb); clear hb; subst he)
          | ((with_reducible refine (parseInt_any s hs _ p _ HVR.out).mono ?_); rintro e w1 ⟨he, hb⟩; rw [← HV.out, ← HO.out] at he; subst he; have HB1 := Lib.hid hb; clear hb))
      | (go_at_call 30; (with_reducible refine (isIdent_any s hsm _).mono ?_); rintro e w' ⟨he, rfl⟩; rw [← HB.out] at he; subst he)
      | (go_at_call 31; (with_reducible refine (risIdent_any s hsm _).mono ?_); rintro e w' ⟨he, rfl⟩; rw [← HB.out] at he; subst he))
    go_ret
    exact ⟨rfl, HB4.out⟩
end Go.Proofs.YtjpabigjmimogaaDoor
