/- Compiled codes that read; look-ups in sets; telref31.ValidIn. -/
import Derived.Test.YtadpfhoenjodeaaRefs
import Derived.Test.YtadpfhoenjodeaaActive
set_option linter.unusedVariables false
set_option linter.unusedSimpArgs false
namespace Go.Proofs.Ytadpfhoenjodeaa
open Go.RowKit Go.Maps

theorem zero_bool (w : World) : (zeroValue 4).run Try.prog w = .ok (.bool false) w := by kernel_rfl
/-- Is a number in a set of the call's own? -/
theorem ST.look {w : World} {B n : Nat} {p : Int → Prop} {x : Int} (h : ST w B n p) (hx : (Lit.int .i64 x).wf = true) : ∃ b : Bool, (Instr.lookup 85 (.map (some B)) (.int .i64 x) false).run Try.prog w = .ok (.bool b) w ∧ (b = true ↔ p x) := by
  obtain ⟨D, hown, hD⟩ := h
  obtain ⟨h1, h2⟩ := hD x hx
  obtain ⟨v, ps, hrun, hv⟩ := hown.lookup lawI Try.underlying85 (zero_bool w) (plainElem_bool Try.underlying4 false) (keyOf_int_mk Try.underlying3 hx)
  rw [h2] at hv
  obtain ⟨c, rfl⟩ := bool_inv hv
  have hc := plainElem_bool (H := Unit) Try.underlying4 c
  rw [hc] at hv
  simp at hv
  exact ⟨c, hrun, by rw [hv.1]; exact h1⟩

/-- A compiled code, its slices as they stand. -/
structure Cc where
  id : Int
  meth : Int
  kind : Int
  name : ByteArray
  idx : Int
  aa : Option Addr
  an : Nat
  ac : Nat
  frm : Int
  til : Int
  par : Int
  slo : Int
  ia : Option Addr
  in_ : Nat
  ic : Nat
  ea : Option Addr
  en : Nat
  ec : Nat
  da : Option Addr
  dn : Nat
  dc : Nat
  la : Option Addr
  ln : Nat
  lc : Nat
def Cc.vs (x : Cc) : List Value := [.int .i64 x.id, .int .i64 x.meth, .int .i64 x.kind, .string x.name, .int .i64 x.idx, .slice x.aa x.an x.ac, .int .i64 x.frm, .int .i64 x.til, .int .i64 x.par, .int .i64 x.slo, .slice x.ia x.in_ x.ic, .slice x.ea x.en x.ec, .slice x.da x.dn x.dc, .slice x.la x.ln x.lc]
@[reducible] def Cc.agg (x : Cc) : Value := .agg #[.int .i64 x.id, .int .i64 x.meth, .int .i64 x.kind, .string x.name, .int .i64 x.idx, .slice x.aa x.an x.ac, .int .i64 x.frm, .int .i64 x.til, .int .i64 x.par, .int .i64 x.slo, .slice x.ia x.in_ x.ic, .slice x.ea x.en x.ec, .slice x.da x.dn x.dc, .slice x.la x.ln x.lc]
def ccsTr (l : List Cc) : Tr := .sl 65 14 (l.flatMap fun x => x.vs.map Tr.sc)
theorem ccs_length (l : List Cc) : (l.flatMap fun x => x.vs.map Tr.sc).length = l.length * 14 := length_flatMap_row _ 14 (fun _ => rfl) l
theorem ccs_len {w : World} {ok : Nat → Prop} {A : Option Addr} {n c : Nat} {l : List Cc} (h : Rd w ok (.slice A n c) (ccsTr l)) : n = l.length ∧ n ≤ c ∧ c ≤ maxLen := by
  have := h.len
  rw [ccs_length] at this
  exact ⟨by omega, this.2⟩
theorem ccs_cell {w : World} {ok : Nat → Prop} {A : Option Addr} {n c i : Nat} {l : List Cc} {x : Cc} (h : Rd w ok (.slice A n c) (ccsTr l)) (hx : l[i]? = some x) :
    ∃ b o, A = some ⟨b, o, none⟩ ∧ ∀ k v, x.vs[k]? = some v → w.cell? ⟨b, o + i * 14 + k, none⟩ = some v := by
  have hi := (List.getElem?_eq_some_iff.1 hx).1
  have hn := (ccs_len h).1
  obtain ⟨b, o, rfl, -, -, hc⟩ := h.at_ (by omega)
  refine ⟨b, o, rfl, fun k v hv => ?_⟩
  have hk : k < 14 := (List.getElem?_eq_some_iff.1 hv).1
  obtain ⟨u, e, he, hu, hr⟩ := hc (i * 14 + k) (by omega)
  rw [getElem?_flatMap_row _ 14 (fun _ => rfl) l i k x hx hk, List.getElem?_map, hv] at he
  simp at he
  subst he
  have := hr.sc_inv
  subst this
  rw [Nat.add_assoc]
  exact hu
/-- Where a code can be freed. -/
def Free (active worlds : List Int) (x : Cc) : Prop := x.til ≠ 0 ∧ x.id ∉ active ∧ ∀ w ∈ worlds, w < x.frm ∨ x.til ≤ w
def FreeIds (all : List Cc) (active worlds : List Int) (n : Int) : Prop := ∃ x ∈ all, Free active worlds x ∧ x.id = n
theorem freeIds_nil (active worlds : List Int) (n : Int) : ¬ FreeIds [] active worlds n := by simp [FreeIds]
theorem freeIds_snoc {all : List Cc} {active worlds : List Int} {x : Cc} (h : Free active worlds x) (n : Int) : FreeIds all active worlds n ∨ n = x.id ↔ FreeIds (all ++ [x]) active worlds n := by
  simp only [FreeIds, List.mem_append, List.mem_singleton]
  constructor
  · rintro (⟨y, hy, e⟩ | h')
    · exact ⟨y, .inl hy, e⟩
    · exact ⟨x, .inr rfl, h, h'.symm⟩
  · rintro ⟨y, hy | rfl, e⟩
    · exact .inl ⟨y, hy, e⟩
    · exact .inr e.2.symm
theorem freeIds_skip {all : List Cc} {active worlds : List Int} {x : Cc} (h : ¬ Free active worlds x) (n : Int) : FreeIds all active worlds n ↔ FreeIds (all ++ [x]) active worlds n := by
  simp only [FreeIds, List.mem_append, List.mem_singleton]
  constructor
  · rintro ⟨y, hy, e⟩
    exact ⟨y, .inl hy, e⟩
  · rintro ⟨y, hy | rfl, e⟩
    · exact ⟨y, hy, e⟩
    · exact absurd e.1 h

def validIn (x : Cc) (world : Int) : Bool := decide (x.frm ≤ world) && (x.til == 0 || decide (world < x.til))
set_option maxRecDepth 100000 in
set_option maxHeartbeats 2000000 in
theorem validIn_any (x : Cc) (world : Int) (w : World) : Calls Try.prog 43 #[x.agg, .int .i64 world] w fun e w' => e = .returned (.bool (validIn x world)) ∧ Below w.heap.size w w' := by
  unfold validIn
  by_cases h1 : x.frm ≤ world
  · by_cases h2 : x.til = 0
    · have h2b : (x.til == 0) = true := by simpa using h2
      have h1b : decide (x.frm ≤ world) = true := by simpa using h1
      rw [h1b, h2b]
      go_enter Try.func43, Try.ntmps43
      go_wp2_with fail
      go_ret
      exact ⟨rfl, bel_alloc (Below.refl _ _) _⟩
    · have h2b : (x.til == 0) = false := by simpa using h2
      have h1b : decide (x.frm ≤ world) = true := by simpa using h1
      rw [h1b, h2b]
      go_enter Try.func43, Try.ntmps43
      go_wp2_with fail
      go_ret
      exact ⟨by simp, bel_alloc (Below.refl _ _) _⟩
  · have h1b : decide (x.frm ≤ world) = false := by simpa using h1
    rw [h1b]
    go_enter Try.func43, Try.ntmps43
    go_wp2_with fail
    go_ret
    exact ⟨by simp, bel_alloc (Below.refl _ _) _⟩
end Go.Proofs.Ytadpfhoenjodeaa
