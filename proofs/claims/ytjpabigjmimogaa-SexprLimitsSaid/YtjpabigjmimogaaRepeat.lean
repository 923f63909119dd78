/- telmake.Repeat and Deep. -/
import Derived.Test.YtjpabigjmimogaaModi
import Derived.Test.YtjpabigjmimogaaTxt
import Derived.Test.YtjpabigjmimogaaQuoted
import Derived.Deep.LoopGhost
import Derived.Lib.AppendStr
import Derived.OwnWalk
import Derived.Laws.Concat
set_option linter.unusedVariables false
set_option linter.unusedSimpArgs false
namespace Go.Proofs.Ytjpabigjmimogaa
open Go.RowKit Go.Lib

def repN (s : ByteArray) (m : Nat) : List Int := (List.replicate m (nums s)).flatten
theorem repN_length (s : ByteArray) (m : Nat) : (repN s m).length = s.size * m := by simp [repN, nums_length, Nat.mul_comm]
theorem repN_succ (s : ByteArray) (m : Nat) : repN s (m + 1) = repN s m ++ nums s := by simp [repN, List.replicate_succ']
theorem strCells_nums (s : ByteArray) : strCells s = bytesV (nums s) := by
  unfold strCells bytesV nums
  rw [List.map_map]
  rfl

theorem row_slice {w : World} {base e size n : Nat} {v : Value} {xs : List Value} (h : w.ownsRow base e size v (n + 1) xs) : ∃ A C, v = .slice A (n + 1) C := by
  rcases h.2 with ⟨h1, h2⟩ | ⟨g2, cap2, cur2, h1, _⟩
  · omega
  · exact ⟨_, _, h1⟩

set_option maxRecDepth 100000 in
set_option maxHeartbeats 2000000 in
theorem repeat_any (s : ByteArray) (m : Nat) (hm : m ≤ 1000000) (hs1 : s.size = 1) (w : World) : Calls Try.prog 5 #[.string s, .int .i64 m] w fun e w' => e = .returned (.string (strOfNums (repN s m))) ∧ Below w.heap.size w w' := by
  have HB := Lib.hid (Below.refl w.heap.size w)
  obtain ⟨i0, hi, hz0, hz1, hz2⟩ := info_parts byte_info
  have hmx : max (m : Int) 0 = (m : Int) := by omega
  have hm0 : (0 : Int) ≤ (m : Int) := by omega
  go_enter Try.func5, Try.ntmps5
  go_wp2_with (at_make; go_loud (refine wpList_make_own _ rfl (.const (.int .i64 0)) (.tmp 11) 34 rfl w.heap.size 5 i0 (.int .u8 0) 1 Try.underlying34 hi hz0 hz1 .i64 .i64 _ m rfl rfl (by omega) (by rw [hz2]; omega) (by simp only [maxLen]; omega) (Nat.le_refl _) ?_; intro w1 hown hgrow))
  go_loopg [5, 6] m (fun q bv iv wr => ∃ A C i, bv = .slice A (i : Nat) C ∧ iv = .int .i64 ((i : Nat) : Int) ∧ Hid (i ≤ m ∧ q = m - i ∧ Below w.heap.size w wr ∧ wr.ownsRow w.heap.size 5 1 (.slice A i C) i (bytesV (repN s i))))
  case atStart => exact ⟨_, _, 0, rfl, rfl, Nat.zero_le _, rfl, HB.out.grown hgrow (Nat.le_refl _) (fun b hb => by cases hb), by simpa [repN, bytesV] using hown⟩
  case round =>
    obtain ⟨A, C, i, rfl, rfl, HR⟩ := hrel
    obtain ⟨r1, r2, r4, r5⟩ := HR.out
    have HQ := Lib.hid r2
    have HBW := Lib.hid r4
    have HOWN := Lib.hid r5
    clear HR r2 r4 r5 hown hgrow
    by_cases hlt : i < m
    · have hi' : (i : Int) < (m : Int) := by omega
      go_wp2_with (at_builtin; go_loud (refine wpList_append_own_string _ rfl (.tmp 18) (.tmp 19) 34 9 rfl w.heap.size 5 i0 Try.underlying34 Try.underlying9 hi hz0 hz1 hz2 (.slice A i C) i (bytesV (repN s i)) rfl HOWN.out s rfl (by simp only [maxLen]; omega) (by omega) HBW.out.size ?_; intro v2 w2 hown2 hgrow2 hnil2; rw [strCells_nums, hs1] at hown2; obtain ⟨A2, C2, rfl⟩ := row_slice hown2))
      go_roundg (m - (i + 1))
      case measure => have := HQ.out; omega
      case rel =>
        refine ⟨A2, C2, i + 1, rfl, by simp, by omega, rfl, HBW.out.grown hgrow2 HBW.out.size (fun b hb => (HOWN.out.lt b hb).1), ?_⟩
        rw [repN_succ]
        simpa [bytesV] using hown2
    · obtain rfl : i = m := by omega
      have hcv := bytes_string HOWN.out
      go_wp2_with fail
      go_ret
      exact ⟨rfl, HBW.out⟩

theorem repN_one (c : UInt8) (m : Nat) : repN ⟨#[c]⟩ m = List.replicate m (c.toNat : Int) := by
  have h : nums ⟨#[c]⟩ = [(c.toNat : Int)] := rfl
  rw [repN, h]
  induction m with
  | zero => rfl
  | succ m ih => rw [List.replicate_succ, List.flatten_cons, ih, List.replicate_succ]; rfl
set_option maxHeartbeats 1000000 in
theorem deep_any (m : Nat) (hm : m ≤ 1000000) (w : World) : Calls Try.prog 7 #[.int .i64 m] w fun e w' => e = .returned (.string (strOfNums (List.replicate m 40 ++ List.replicate m 41))) ∧ Below w.heap.size w w' := by
  have HB := Lib.hid (Below.refl w.heap.size w)
  have H1 := Lib.hid (fun W => repeat_any ⟨#[40]⟩ m hm rfl W)
  have H2 := Lib.hid (fun W => repeat_any ⟨#[41]⟩ m hm rfl W)
  obtain ⟨p, hp⟩ : ∃ p, p = strOfNums (repN ⟨#[40]⟩ m) := ⟨_, rfl⟩
  obtain ⟨q, hq⟩ : ∃ q, q = strOfNums (repN ⟨#[41]⟩ m) := ⟨_, rfl⟩
  obtain ⟨r, hr⟩ : ∃ r, r = strOfNums (List.replicate m 40 ++ List.replicate m 41) := ⟨_, rfl⟩
  have hadd : ∀ W, (Op.stringOp .add p q).run Try.prog W = .ok (.string r) W := fun W => by
    rw [hp, hq, hr, repN_one, repN_one, strOf_append]
    exact run_string_add_sum W _ _ (by rw [strOfNums_size, strOfNums_size, List.length_replicate, List.length_replicate]; omega)
  rw [← hr]
  have HP := Lib.hid hp
  have HQ := Lib.hid hq
  clear hp hq hr
  go_enter Try.func7, Try.ntmps7
  go_wp2_with (go_at_call 5; first | ((with_reducible refine (H1.out _).mono ?_); rintro e w1 ⟨he, hb1⟩; rw [← HP.out] at he; subst he) | ((with_reducible refine (H2.out _).mono ?_); rintro e w2 ⟨he, hb2⟩; rw [← HQ.out] at he; subst he))
  go_ret
  exact ⟨rfl, below_call hb1 hb2⟩
end Go.Proofs.Ytjpabigjmimogaa
