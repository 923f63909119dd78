/- tellaw1.spaced: the text of a node with arbitrary separators. -/
import Derived.Test.YtjpabigjmimogaaDoorSpSpec
import Derived.Test.YtjpabigjmimogaaDoorFmt
import Derived.Test.YtjpabigjmimogaaDoorPrefixWalk
import Derived.Test.YtjpabigjmimogaaDoorMeas
import Derived.Deep.LoopGhost
set_option linter.unusedVariables false
set_option linter.unusedSimpArgs false
namespace Go.Proofs.YtjpabigjmimogaaDoor
open Go.RowKit
attribute [local go_sem ↓] Go.wp_at_zero Go.wp_at_succ

def SpPost (w : World) (base g : Nat) (x : Nd) (d : Nat) (e : Ending) (w' : World) : Prop :=
  ∃ S L, e = .returned (.string S) ∧ S = strOfNums L ∧ x.Txt SSep L ∧ L.length ≤ sB d ∧ (∀ c ∈ L, 0 ≤ c ∧ c ≤ 255) ∧ Stm w' base g ∧ Kp w w' fun b => b = g

theorem spaced_leaf {d : Nat} {x : Nd} (hd : d ≤ 4) (hx : leafN false x) {w : World} {base g : Nat} {ok : Nat → Prop} {A : Option Addr} {n c : Nat} (hs : Stm w base g) (hr : Rd w ok (.slice A n c) (.sl 26 4 (ndsTr 26 x.kids))) :
    Calls Tryd.prog 16 #[.pointer (some ⟨g, 0, none⟩), .agg #[.int .i64 x.kind, .string x.text, .slice A n c, .int .i64 x.off]] w (SpPost w base g x d) := by
  obtain ⟨h1, h2⟩ := leaf_sp hx
  have hk3 : x.kind ≠ 3 := by
    rcases hx with ⟨_, _, ⟨h, _⟩ | ⟨h, _⟩⟩ | ⟨h, _⟩
    · omega
    · omega
    · cases h
  have hB := sB_30 d
  have b3 : (x.kind != 3) = true := by simpa using hk3
  have b3' : (x.kind == 3) = false := by simpa using hk3
  have hgl := hs.lt
  obtain ⟨S, hS⟩ : ∃ S, S = strOfNums (fmtL x) := ⟨_, rfl⟩
  have HS := Lib.hid hS
  have HT := Lib.hid h1
  have HL := Lib.hid h2
  have HST := Lib.hid hs
  have HR := Lib.hid hr
  clear h1 h2 hs hr hS hx hk3
  go_enter Tryd.func16, Tryd.ntmps16
  go_wp2_with (go_at_call 10; (with_reducible refine (format_at (by have := HL.out; omega) (by exact HR.out.alloc _)).mono ?_); rintro e v1 ⟨he, hb⟩; rw [← HS.out] at he; subst he)
  go_ret
  have hbb : Below w.heap.size w v1 := below_call ((Below.refl _ _).alloc (Nat.le_refl _) _) hb
  exact ⟨_, _, rfl, HS.out, HT.out, by have := HL.out; omega, fmt_byte x, HST.out.bl hbb, Kp.of_below hbb _⟩

theorem keep_cell {w W : World} {g : Nat} (k : Kp w W fun b => b = g) {a : Addr} {v : Value} (h : w.cell? a = some v) (hn : ¬ a.block = g) : W.cell? a = some v := k.cell h hn
theorem kp_drew (w : World) (g : Nat) : Kp w w.drew fun b => b = g := (Kp.refl _ _).drew
theorem kp_tr {w w1 w2 : World} {g : Nat} (h : Kp w w1 fun b => b = g) (k : Kp w1 w2 fun b => b = g) : Kp w w2 fun b => b = g := h.trans k fun _ _ e => e

theorem tab_k {w w' : World} {base g vi : Nat} {l : List ByteArray} {b o c : Nat} (h : TabAt w base vi l b o c) (k : Kp w w' fun b => b = g) (hg : base ≤ g) : Tab w' base vi l := ⟨b, o, c, h.kp k (fun b hb => by omega)⟩
theorem rd_ng {w w' : World} {g : Nat} {v : Value} {e : Tr} (h : Rd w (fun b => ¬ b = g) v e) (k : Kp w w' fun b => b = g) : Rd w' (fun b => ¬ b = g) v e := h.kp k (fun b hb e => hb e)
theorem sep_len {T : ByteArray} (h : T ∈ sepsL) : (nums T).length ≤ 6 := by rw [nums_length]; exact (seps_ok T h).2.1
theorem sp_add1 {P : Program} {T C TC : ByteArray} {L : List Int} (hT : T ∈ sepsL) (hC : C = strOfNums L) (hTC : TC = strOfNums (nums T ++ L)) (hl : L.length ≤ 100000) (W : World) : (Op.stringOp .add T C).run P W = .ok (.string TC) W := by
  have h6 := sep_len hT
  have h := add_run P (nums T) L (nums T ++ L) rfl (by simp; omega) W
  rw [strOf_nums, ← hC, ← hTC] at h
  exact h
theorem sp_add2 {P : Program} {T S TC S2 : ByteArray} {L Q : List Int} (hT : T ∈ sepsL) (hS : S = strOfNums (40 :: Q)) (hTC : TC = strOfNums (nums T ++ L)) (hS2 : S2 = strOfNums (40 :: (Q ++ (nums T ++ L)))) (hl : L.length + Q.length ≤ 100000) (W : World) : (Op.stringOp .add S TC).run P W = .ok (.string S2) W := by
  have h6 := sep_len hT
  have h := add_run P (40 :: Q) (nums T ++ L) (40 :: (Q ++ (nums T ++ L))) rfl (by simp; omega) W
  rw [← hS, ← hTC, ← hS2] at h
  exact h

set_option maxRecDepth 100000 in
set_option maxHeartbeats 4000000 in
theorem spaced_any : ∀ (d : Nat), d ≤ 4 → ∀ (x : Nd), Gn false d x → ∀ (w : World) (base g : Nat) (A : Option Addr) (n c : Nat), Stm w base g → Tab w base 0 sepsL →
    Rd w (fun b => ¬ b = g) (.slice A n c) (.sl 26 4 (ndsTr 26 x.kids)) →
    Calls Tryd.prog 16 #[.pointer (some ⟨g, 0, none⟩), .agg #[.int .i64 x.kind, .string x.text, .slice A n c, .int .i64 x.off]] w (SpPost w base g x d) := by
  intro d
  induction d with
  | zero => intro hd x hx w base g A n c hs ht hr; exact spaced_leaf hd hx hs hr
  | succ d ih =>
    intro hd x hx w base g A n c hs ht hr
    rcases hx with hx | ⟨hk, htx, ho, hl4, hg⟩
    · exact spaced_leaf hd hx hs hr
    · have b3 : (x.kind != 3) = false := by simpa using hk
      have b3' : (x.kind == 3) = true := by simpa using hk
      have hgl := hs.lt
      have hbg := hs.bg
      obtain ⟨bq, oq, cq, ht⟩ := ht
      have hqv := ht.vb
      have hqb := ht.bb
      have hl := hr.len
      rw [ndsTr_length] at hl
      obtain ⟨rfl, hl2, hl3⟩ : n = x.kids.length ∧ n ≤ c ∧ c ≤ maxLen := ⟨by omega, hl.2⟩
      simp only [maxLen] at hl3
      obtain ⟨l, hkl⟩ : ∃ l, l = x.kids := ⟨_, rfl⟩
      rw [← hkl] at hr hl hl2 hl4 hg ⊢
      have hsB : sB d ≤ 2592 := by
        match d, hd with
        | 0, _ => decide
        | 1, _ => decide
        | 2, _ => decide
        | 3, _ => decide
      have HX := Lib.hid (And.intro hk htx)
      have HKL := Lib.hid hkl
      have HG := Lib.hid hg
      have HT := Lib.hid ht
      have HR := Lib.hid (hr.alloc (.cells #[.int .i64 x.kind, .string x.text, .slice A l.length c, .int .i64 x.off] 26))
      have IH := Lib.hid ih
      have HS0 := Lib.hid hs
      have HKA := Lib.hid ((KA.rfl' w g).al (.cells #[.int .i64 x.kind, .string x.text, .slice A l.length c, .int .i64 x.off] 26))
      have HBX := Lib.hid (heap_alloc_new w (.cells #[.int .i64 x.kind, .string x.text, .slice A l.length c, .int .i64 x.off] 26))
      obtain ⟨W0, hW0⟩ : ∃ W0, W0 = w.alloc (.cells #[.int .i64 x.kind, .string x.text, .slice A l.length c, .int .i64 x.off] 26) := ⟨_, rfl⟩
      have HW0 := Lib.hid hW0
      clear ih hr hl hkl hg ht hs hk htx hW0 ho
      go_enter Tryd.func16, Tryd.ntmps16
      go_wp2_with fail
      go_loopg [5, 6] l.length (fun q sv iv wr => ∃ (i : Nat) (S : ByteArray), sv = .string S ∧ iv = .int .i64 (i : Int) ∧ Hid (i ≤ l.length ∧ q = l.length - i ∧ (∃ P, S = strOfNums (40 :: P) ∧ PreTxt (l.take i) P ∧ P.length ≤ i * (sB d + 6) ∧ ∀ c ∈ P, 0 ≤ c ∧ c ≤ 255) ∧
        Stm wr base g ∧ Kp W0 wr (fun b => b = g)))
      case atStart => exact ⟨0, _, rfl, rfl, Nat.zero_le _, rfl, ⟨[], rfl, by simpa using preTxt_nil, by simp, by simp⟩, HS0.out.al _, by rw [HW0.out]; exact Kp.refl _ _⟩
      case round =>
        obtain ⟨i, S, rfl, rfl, HH⟩ := hrel
        obtain ⟨q1, q2, ⟨P, hS, hP, hPl, hPr⟩, hst, hkp⟩ := HH.out
        rw [HW0.out] at hkp
        obtain ⟨A0, n0, c0, zf, k, hst⟩ := hst
        obtain ⟨r, er⟩ : ∃ r : Nat, r = nv zf n0 k 6 := ⟨_, rfl⟩
        have hr6 : (r : Int) < 6 := by rw [er]; exact nv_lt _ _ _ _ (by omega)
        have hr0 : (0 : Int) ≤ (r : Int) := by omega
        have hTr := (HT.out.kp ((Kp.refl w fun b => False).alloc (.cells #[.int .i64 x.kind, .string x.text, .slice A l.length c, .int .i64 x.off] 26)) (fun _ _ h => h)).kp hkp (fun b hb => by omega)
        obtain ⟨T, hT, hcT⟩ := str_at hTr (r := r) (by simp [sepsL]; omega)
        have tq : wr.cell? ⟨0, 0, none⟩ = some (.slice (some ⟨bq, oq, none⟩) 6 cq) := hTr.hd
        have hbx := hkp.blk HBX.out (by omega)
        obtain ⟨d0, d1, d2, d3, -⟩ := four hbx
        have HQ := Lib.hid q2
        have HP := Lib.hid (And.intro hS (And.intro hP (And.intro hPl hPr)))
        have HST := Lib.hid hst
        have HKP := Lib.hid hkp
        have HTR := Lib.hid hTr
        have HTT := Lib.hid hT
        have HCT := Lib.hid hcT
        have HTQ := Lib.hid tq
        have ER := Lib.hid er
        have HD2 := Lib.hid d2
        clear HH q2 hS hP hPl hPr hst hkp hTr hT hcT tq er hbx d0 d1 d3
        by_cases hlt : i < l.length
        · have hx : l[i]? = some l[i] := List.getElem?_eq_getElem hlt
          obtain ⟨y, hye⟩ : ∃ y, y = l[i] := ⟨_, rfl⟩
          rw [← hye] at hx
          obtain ⟨b, o, KA_, KN, KC, rfl, hbg', -, p0, p1, p2, p3, p4⟩ := nd_at (HR.out.kp HKP.out (fun b hb e => hb e)) hx
          have hyg := HG.out y (List.mem_of_getElem? hx)
          have HP0 := Lib.hid p0
          have HP1 := Lib.hid p1
          have HP2 := Lib.hid p2
          have HP4 := Lib.hid p4
          have P3 := Lib.hid p3
          have HYG := Lib.hid hyg
          have HXI := Lib.hid hx
          clear p3 hx hye hyg
          have hlt' : (i : Int) < (l.length : Int) := by omega
          have hi0 : (0 : Int) ≤ (i : Int) := by omega
          go_wp2_with fail
          go_region_held3 (fun W' => W'.cell? ⟨0, 0, none⟩ = some (.slice (some ⟨bq, oq, none⟩) 6 cq) ∧ W'.cell? ⟨bq, oq + r, none⟩ = some (.string T) ∧ W'.cell? ⟨w.heap.size, 2, none⟩ = some (.slice (some ⟨b, o, none⟩) l.length c) ∧
              W'.cell? ⟨b, o + i * 4, none⟩ = some (.int .i64 y.kind) ∧ W'.cell? ⟨b, o + i * 4 + 1, none⟩ = some (.string y.text) ∧ W'.cell? ⟨b, o + i * 4 + 2, none⟩ = some (.slice KA_ KN KC) ∧ W'.cell? ⟨b, o + i * 4 + 3, none⟩ = some (.int .i64 y.off))
            (first
              | with_reducible exact ⟨keep_cell (kp_drew wr g) HTQ.out (by simp only; omega), keep_cell (kp_drew wr g) HCT.out (by simp only; omega), keep_cell (kp_drew wr g) HD2.out (by simp only; omega), keep_cell (kp_drew wr g) HP0.out hbg', keep_cell (kp_drew wr g) HP1.out hbg', keep_cell (kp_drew wr g) HP2.out hbg', keep_cell (kp_drew wr g) HP4.out hbg'⟩
              | with_reducible exact ⟨keep_cell K1.out HTQ.out (by simp only; omega), keep_cell K1.out HCT.out (by simp only; omega), keep_cell K1.out HD2.out (by simp only; omega), keep_cell K1.out HP0.out hbg', keep_cell K1.out HP1.out hbg', keep_cell K1.out HP2.out hbg', keep_cell K1.out HP4.out hbg'⟩
              | with_reducible exact ⟨keep_cell K2.out HTQ.out (by simp only; omega), keep_cell K2.out HCT.out (by simp only; omega), keep_cell K2.out HD2.out (by simp only; omega), keep_cell K2.out HP0.out hbg', keep_cell K2.out HP1.out hbg', keep_cell K2.out HP2.out hbg', keep_cell K2.out HP4.out hbg'⟩)
            ((first
              | (go_at_call 33; (with_reducible refine (next_any 6 (by omega) (by omega) (by exact HST.out.drew)).mono ?_); rintro e v1 ⟨he, hs1, hk1⟩; rw [← ER.out] at he; subst he; have K1 := Lib.hid (kp_tr (kp_drew wr g) hk1); have HS1 := Lib.hid hs1.stm; clear hs1 hk1)
              | (go_at_call 16; (with_reducible refine (IH.out (by omega) y HYG.out _ base g _ _ _ HS1.out (tab_k HTR.out K1.out hbg) (rd_ng P3.out K1.out)).mono ?_); rintro e v2 ⟨C, L, rfl, hC, hCT, hCl, hCr, hs2, hk2⟩; have K2 := Lib.hid (kp_tr K1.out hk2); have HS2 := Lib.hid hs2; have HC := Lib.hid (And.intro hC (And.intro hCT (And.intro hCl hCr))); clear hC hCT hCl hCr hs2 hk2; obtain ⟨TC, hTC⟩ : ∃ TC, TC = strOfNums (nums T ++ L) := ⟨_, rfl⟩; obtain ⟨S2, hS2⟩ : ∃ S2, S2 = strOfNums (40 :: (P ++ (nums T ++ L))) := ⟨_, rfl⟩; have HTC := Lib.hid hTC; have HS2' := Lib.hid hS2; clear hTC hS2; have hA : ∀ W, (Op.stringOp .add T C).run Tryd.prog W = .ok (.string TC) W := (fun W => sp_add1 HTT.out HC.out.1 HTC.out (by have := HC.out.2.2.1; omega) W); have hA2 : ∀ W, (Op.stringOp .add S TC).run Tryd.prog W = .ok (.string S2) W := (fun W => sp_add2 HTT.out HP.out.1 HTC.out HS2'.out (by have := HC.out.2.2.1; have := HP.out.2.2.1; have : i * (sB d + 6) ≤ 4 * (sB d + 6) := Nat.mul_le_mul_right _ (by omega); omega) W))))
          go_wp2_with fail
          go_roundg (l.length - (i + 1))
          case measure => have := HQ.out; omega
          case rel =>
            refine ⟨i + 1, S2, rfl, by simp, by omega, rfl, ⟨_, HS2'.out, ?_, ?_, ?_⟩, HS2.out, by rw [HW0.out]; exact kp_tr HKP.out K2.out⟩
            · rw [take_snoc_at l i y HXI.out]
              exact preTxt_snoc HP.out.2.1 ⟨T, HTT.out, rfl⟩ HC.out.2.1
            · have h1 := HP.out.2.2.1
              have h2 := HC.out.2.2.1
              have h3 := sep_len HTT.out
              simp only [List.length_append, Nat.succ_mul]
              omega
            · exact range_app HP.out.2.2.2 (range_app (fun c hc => nums_range T c hc) HC.out.2.2.2)
        · obtain rfl : i = l.length := by omega
          have hd' : decide ((l.length : Int) < (l.length : Int)) = false := by simp
          obtain ⟨S1, hS1⟩ : ∃ S1, S1 = strOfNums (40 :: (P ++ nums T)) := ⟨_, rfl⟩
          obtain ⟨S2, hS2⟩ : ∃ S2, S2 = strOfNums (40 :: (P ++ (nums T ++ [41]))) := ⟨_, rfl⟩
          have hPle : P.length ≤ 10392 := by
            have h1 := HP.out.2.2.1
            have h2 : l.length * (sB d + 6) ≤ 4 * (sB d + 6) := Nat.mul_le_mul_right _ hl4
            omega
          have h6 := sep_len HTT.out
          have hA : ∀ W, (Op.stringOp .add S T).run Tryd.prog W = .ok (.string S1) W := fun W => by
            have h := add_run Tryd.prog (40 :: P) (nums T) (40 :: (P ++ nums T)) rfl (by simp; omega) W
            rwa [strOf_nums, ← HP.out.1, ← hS1] at h
          have hA2 : ∀ W, (Op.stringOp .add S1 ⟨#[41]⟩).run Tryd.prog W = .ok (.string S2) W := fun W => by
            have h := add_run Tryd.prog (40 :: (P ++ nums T)) [41] (40 :: (P ++ (nums T ++ [41]))) (by simp) (by simp; omega) W
            rwa [← hS1, ← hS2] at h
          have HS2 := Lib.hid hS2
          clear hS1 hS2
          go_wp2_with fail
          go_region_held3 (fun W' => W'.cell? ⟨0, 0, none⟩ = some (.slice (some ⟨bq, oq, none⟩) 6 cq) ∧ W'.cell? ⟨bq, oq + r, none⟩ = some (.string T))
            (first
              | with_reducible exact ⟨keep_cell (kp_drew wr g) HTQ.out (by simp only; omega), keep_cell (kp_drew wr g) HCT.out (by simp only; omega)⟩
              | with_reducible exact ⟨keep_cell K1.out HTQ.out (by simp only; omega), keep_cell K1.out HCT.out (by simp only; omega)⟩)
            (((go_at_call 33; (with_reducible refine (next_any 6 (by omega) (by omega) (by exact HST.out.drew)).mono ?_); rintro e v1 ⟨he, hs1, hk1⟩; rw [← ER.out] at he; subst he; have K1 := Lib.hid (kp_tr (kp_drew wr g) hk1); have HS1 := Lib.hid hs1.stm; clear hs1 hk1)))
          go_wp2_with fail
          go_ret
          have hPP := HP.out.2.1
          rw [List.take_length, HKL.out] at hPP
          refine ⟨_, _, rfl, HS2.out, list_sp HX.out.1 HX.out.2 hPP ⟨T, HTT.out, rfl⟩, ?_, ?_, HS1.out, ?_⟩
          · have h1 := HP.out.2.2.1
            have h2 : l.length * (sB d + 6) ≤ 4 * (sB d + 6) := Nat.mul_le_mul_right _ hl4
            simp only [List.length_cons, List.length_append, List.length_nil, sB]
            omega
          · exact range_app (A := [40]) (by simp) (range_app HP.out.2.2.2 (range_app (fun c hc => nums_range T c hc) (by simp)))
          · exact kp_tr ((Kp.refl w fun b => b = g).alloc _) (kp_tr HKP.out K1.out)
end Go.Proofs.YtjpabigjmimogaaDoor
