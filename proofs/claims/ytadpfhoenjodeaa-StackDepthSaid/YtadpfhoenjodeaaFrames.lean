/- Stacks of frames that read; reclaim.LiveWorlds. -/
import Derived.Test.YtadpfhoenjodeaaSet
import Derived.Test.YtadpfhoenjodeaaSem
set_option linter.unusedVariables false
set_option linter.unusedSimpArgs false
namespace Go.Proofs.Ytadpfhoenjodeaa
open Go.RowKit Go.Maps

/-- A frame, its slots as they stand. -/
structure Fr where
  code : Int
  meth : Int
  world : Int
  pc : Int
  sa : Option Addr
  sn : Nat
  sc : Nat
def Fr.tr (f : Fr) : List Tr := [.sc (.int .i64 f.code), .sc (.int .i64 f.meth), .sc (.int .i64 f.world), .sc (.int .i64 f.pc), .sc (.slice f.sa f.sn f.sc)]
def frsTr (l : List Fr) : Tr := .sl 43 5 (l.flatMap Fr.tr)
def stTr (s : List (List Fr)) : Tr := .sl 25 1 (s.map frsTr)
theorem frs_length (l : List Fr) : (l.flatMap Fr.tr).length = l.length * 5 := by
  induction l with
  | nil => rfl
  | cons f l ih => rw [List.flatMap_cons, List.length_append, ih]; simp [Fr.tr]; omega
theorem frs_get (l : List Fr) : ∀ (i k : Nat) (f : Fr), l[i]? = some f → k < 5 → (l.flatMap Fr.tr)[i * 5 + k]? = f.tr[k]? := by
  induction l with
  | nil => intro i k f h; cases h
  | cons g l ih =>
    intro i k f h hk
    rw [List.flatMap_cons]
    have hg : g.tr.length = 5 := rfl
    cases i with
    | zero =>
      simp at h
      subst h
      rw [List.getElem?_append_left (by omega)]
      simp
    | succ i =>
      rw [List.getElem?_append_right (by omega), hg, show (i + 1) * 5 + k - 5 = i * 5 + k by omega]
      exact ih i k f (by simpa using h) hk
theorem frs_len {w : World} {ok : Nat → Prop} {A : Option Addr} {n c : Nat} {l : List Fr} (h : Rd w ok (.slice A n c) (frsTr l)) : n = l.length ∧ n ≤ c ∧ c ≤ maxLen := by
  have := h.len
  rw [frs_length] at this
  exact ⟨by omega, this.2⟩
theorem st_len {w : World} {ok : Nat → Prop} {A : Option Addr} {n c : Nat} {s : List (List Fr)} (h : Rd w ok (.slice A n c) (stTr s)) : n = s.length ∧ n ≤ c ∧ c ≤ maxLen := by
  have := h.len
  rw [List.length_map] at this
  exact ⟨by omega, this.2⟩
theorem frs_at {w : World} {ok : Nat → Prop} {A : Option Addr} {n c i : Nat} {l : List Fr} {f : Fr} (h : Rd w ok (.slice A n c) (frsTr l)) (hf : l[i]? = some f) :
    ∃ b o, A = some ⟨b, o, none⟩ ∧ w.cell? ⟨b, o + i * 5, none⟩ = some (.int .i64 f.code) ∧ w.cell? ⟨b, o + i * 5 + 1, none⟩ = some (.int .i64 f.meth) ∧ w.cell? ⟨b, o + i * 5 + 2, none⟩ = some (.int .i64 f.world) ∧
      w.cell? ⟨b, o + i * 5 + 3, none⟩ = some (.int .i64 f.pc) ∧ w.cell? ⟨b, o + i * 5 + 4, none⟩ = some (.slice f.sa f.sn f.sc) := by
  have hi := (List.getElem?_eq_some_iff.1 hf).1
  have hn := (frs_len h).1
  obtain ⟨b, o, rfl, -, -, hc⟩ := h.at_ (by omega)
  have g := fun (k : Nat) (hk : k < 5) => hc (i * 5 + k) (by omega)
  have e := fun (k : Nat) (hk : k < 5) => frs_get l i k f hf hk
  obtain ⟨u0, e0, q0, c0, r0⟩ := g 0 (by omega)
  obtain ⟨u1, e1, q1, c1, r1⟩ := g 1 (by omega)
  obtain ⟨u2, e2, q2, c2, r2⟩ := g 2 (by omega)
  obtain ⟨u3, e3, q3, c3, r3⟩ := g 3 (by omega)
  obtain ⟨u4, e4, q4, c4, r4⟩ := g 4 (by omega)
  have x0 := q0.symm.trans (e 0 (by omega)); have x1 := q1.symm.trans (e 1 (by omega)); have x2 := q2.symm.trans (e 2 (by omega)); have x3 := q3.symm.trans (e 3 (by omega)); have x4 := q4.symm.trans (e 4 (by omega))
  simp [Fr.tr] at x0 x1 x2 x3 x4
  subst x0 x1 x2 x3 x4
  have s0 := r0.sc_inv; have s1 := r1.sc_inv; have s2 := r2.sc_inv; have s3 := r3.sc_inv; have s4 := r4.sc_inv
  subst s0 s1 s2 s3 s4
  exact ⟨b, o, rfl, by simpa using c0, by simpa [Nat.add_assoc] using c1, by simpa [Nat.add_assoc] using c2, by simpa [Nat.add_assoc] using c3, by simpa [Nat.add_assoc] using c4⟩
theorem st_at {w : World} {ok : Nat → Prop} {A : Option Addr} {n c i : Nat} {s : List (List Fr)} {l : List Fr} (h : Rd w ok (.slice A n c) (stTr s)) (hl : s[i]? = some l) :
    ∃ b o A' n' c', A = some ⟨b, o, none⟩ ∧ w.cell? ⟨b, o + i, none⟩ = some (.slice A' n' c') ∧ Rd w ok (.slice A' n' c') (frsTr l) := by
  have hi := (List.getElem?_eq_some_iff.1 hl).1
  have hn := (st_len h).1
  obtain ⟨b, o, rfl, -, -, hc⟩ := h.at_ (by omega)
  obtain ⟨u, e, he, hu, hr⟩ := hc i (by omega)
  rw [List.getElem?_map, hl] at he
  simp at he
  subst he
  obtain ⟨A', n', c', rfl, -⟩ := hr.sl_inv
  exact ⟨b, o, A', n', c', rfl, hu, hr⟩
theorem ST.put {D : DataW Unit} {w : World} {B n : Nat} {p : Int → Prop} {x : Int} (hx : (Lit.int .i64 x).wf = true) (h : ∀ y, (Lit.int .i64 y).wf = true → ((Maps.has D (.int .i64 y) = true ↔ p y) ∧ D.atKey (.int .i64 y) (.lit (.bool false)) = .lit (.bool (Maps.has D (.int .i64 y))))) (hm : IsMap D)
    (ho : w.ownsMap Try.prog 3 (plainElem Try.prog 4) B n (D.put (.int .i64 x) (.lit (.bool true)))) : ST w B n (fun y => p y ∨ y = x) := by
  refine ⟨_, ho, fun y hy => ?_⟩
  by_cases e : y = x
  · subst e
    rw [has_put_same (k := .int .i64 y) hm trivial, atKey_put_same (k := .int .i64 y) hm trivial]
    simp
  · have hne : Lit.int .i64 y ≠ Lit.int .i64 x := by intro h; injection h with _ h; exact e h
    rw [has_put_other hne, atKey_put_other hne]
    refine ⟨?_, (h y hy).2⟩
    rw [(h y hy).1]
    simp [e]
theorem ST.mono {w : World} {B n : Nat} {p q : Int → Prop} (h : ST w B n p) (e : ∀ x, p x ↔ q x) : ST w B n q := let ⟨D, h1, h2⟩ := h; ⟨D, h1, fun x hx => ⟨(h2 x hx).1.trans (e x), (h2 x hx).2⟩⟩
theorem ST.made (w : World) : ST (w.alloc (.map #[] 0)) w.heap.size 0 (fun _ => False) := ⟨_, World.ownsMap_made w _ _ _, fun y _ => ⟨by simp [Maps.has], by simp [Maps.has, DataW.atKey]⟩⟩
theorem ST.kept {w w' : World} {B n : Nat} {p : Int → Prop} {row : Option Nat} (h : ST w B n p) (hg : w.grownBy w' row) (hne : some B ≠ row) : ST w' B n p := let ⟨D, h1, h2⟩ := h; ⟨D, h1.kept hg hne, h2⟩
theorem ST.alloc {w : World} {B n : Nat} {p : Int → Prop} (h : ST w B n p) (o : Obj) : ST (w.alloc o) B n p := let ⟨D, h1, h2⟩ := h; ⟨D, h1.alloc o, h2⟩

set_option maxRecDepth 100000 in
set_option maxHeartbeats 8000000 in
theorem liveWorlds_any (newest : Int) (s : List (List Fr)) (w : World) (ok : Nat → Prop) (A : Option Addr) (n c : Nat) (hw : (Lit.int .i64 newest).wf = true) (hf : ∀ l ∈ s, ∀ f ∈ l, (Lit.int .i64 f.world).wf = true) (hl : s.flatten.length ≤ 500000)
    (hr : Rd w ok (.slice A n c) (stTr s)) :
    Calls Try.prog 14 #[.int .i64 newest, .slice A n c] w fun e w' => ∃ A c Z, e = .returned (.slice A Z.length c) ∧ (∀ x ∈ Z, (Lit.int .i64 x).wf = true) ∧ Up Z ∧ (∀ x, (Lit.int .i64 x).wf = true → (x ∈ Z ↔ x = newest ∨ ∃ f ∈ s.flatten, f.world = x)) ∧ Rd w' (fun b => w.heap.size ≤ b) (.slice A Z.length c) (intsTr Z) ∧ Below w.heap.size w w' := by
  obtain ⟨w1, hrun, hown1, hg1⟩ := (World.ownsMap_made (H := Unit) w Try.prog 3 (plainElem Try.prog 4)).update lawI Try.underlying85 (by simp only [maxLen]; omega) (keyOf_int_mk Try.underlying3 hw) (plainElem_bool Try.underlying4 true)
  have hst1 := ST.put (p := fun _ => False) hw (fun y _ => ⟨by simp [Maps.has], by simp [Maps.has, DataW.atKey]⟩) isMap_empty hown1
  have hb1 : Below w.heap.size w w1 := ((Below.refl _ _).alloc (Nat.le_refl _) _).grown hg1 (by simp) (fun j hj => by cases hj; exact Nat.le_refl _)
  have hmm := @run_makeMap Try.prog
  obtain ⟨hn, hn1, hn2⟩ := st_len hr
  simp only [maxLen] at hn2
  have HR := Lib.hid hr
  have HF := Lib.hid hf
  have HN := Lib.hid hn
  have HST := Lib.hid hst1
  have HB1 := Lib.hid hb1
  clear hr hf hn hst1 hb1 hown1 hg1
  go_enter Try.func14, Try.ntmps14
  go_wp2_with fail
  go_loopg [15] n (fun q iv wr => ∃ (i : Nat), iv = .int .i64 (i : Int) ∧ Hid (i ≤ n ∧ q = n - i ∧ (∃ k, k ≤ 1 + (s.take i).flatten.length ∧ ST wr w.heap.size k (fun x => x = newest ∨ ∃ f ∈ (s.take i).flatten, f.world = x)) ∧ Below w.heap.size w wr))
  case atStart => exact ⟨0, rfl, Nat.zero_le _, rfl, ⟨0 + 1, by simp, HST.out.mono (fun x => by simp)⟩, HB1.out⟩
  case round =>
    obtain ⟨i, rfl, HH⟩ := hrel
    obtain ⟨q1, q2, q3, q4⟩ := HH.out
    have HQ := Lib.hid q2
    have HS := Lib.hid q3
    have HBR := Lib.hid q4
    clear HH q2 q3 q4
    by_cases hlt : i < n
    · have hi' : (i : Int) < (n : Int) := by omega
      have hi0 : (0 : Int) ≤ (i : Int) := by omega
      have hsl : i < s.length := by have := HN.out; omega
      obtain ⟨l, hle⟩ : ∃ l, l = s[i] := ⟨_, rfl⟩
      have hsi : s[i]? = some l := by rw [hle]; exact List.getElem?_eq_getElem hsl
      obtain ⟨b, o, A', n', c', rfl, hc0, hrl⟩ := st_at HR.out hsi
      have hcell := below_cell HBR.out hc0
      obtain ⟨hn', hn1', hn2'⟩ := frs_len hrl
      simp only [maxLen] at hn2'
      have htk : (s.take (i + 1)).flatten = (s.take i).flatten ++ l := by rw [List.take_add_one, hsi]; simp
      have htl : ((s.take i).flatten ++ l).length ≤ 500000 := by
        rw [← htk]
        refine Nat.le_trans ?_ hl
        have h9 := congrArg (fun z => z.flatten.length) (List.take_append_drop (i + 1) s)
        simp only [List.flatten_append, List.length_append] at h9
        omega
      have HTK := Lib.hid htk
      have HRL := Lib.hid hrl
      have HSI := Lib.hid hsi
      have HN' := Lib.hid hn'
      have HTL := Lib.hid htl
      clear hle hsi hrl hn' htk htl hc0
      go_wp2_with fail
      go_loopg [21] n' (fun q jv wr => ∃ (j : Nat), jv = .int .i64 (j : Int) ∧ Hid (j ≤ n' ∧ q = n' - j ∧ (∃ k, k ≤ 1 + ((s.take i).flatten ++ l.take j).length ∧ ST wr w.heap.size k (fun x => x = newest ∨ ∃ f ∈ (s.take i).flatten ++ l.take j, f.world = x)) ∧ Below w.heap.size w wr))
      case atStart =>
        obtain ⟨k, hk, hst⟩ := HS.out
        exact ⟨0, rfl, Nat.zero_le _, rfl, ⟨k, by simpa using hk, hst.mono (fun x => by simp)⟩, HBR.out⟩
      case round =>
        clear HBR HS hcell
        obtain ⟨j, rfl, HH⟩ := hrel
        obtain ⟨q1', q2, q3, q4⟩ := HH.out
        have HQ' := Lib.hid q2
        have HS := Lib.hid q3
        have HBR := Lib.hid q4
        clear HH q2 q3 q4
        by_cases hlt' : j < n'
        · have hj' : (j : Int) < (n' : Int) := by omega
          have hj0 : (0 : Int) ≤ (j : Int) := by omega
          have hjl : j < l.length := by have := HN'.out; omega
          obtain ⟨f, hfe⟩ : ∃ f, f = l[j] := ⟨_, rfl⟩
          have hfj : l[j]? = some f := by rw [hfe]; exact List.getElem?_eq_getElem hjl
          obtain ⟨b2, o2, rfl, p0, p1, p2, p3, p4⟩ := frs_at (HRL.out.bl HBR.out) hfj
          have hwf : (Lit.int .i64 f.world).wf = true := HF.out l (List.mem_of_getElem? HSI.out) f (List.mem_of_getElem? hfj)
          have htj : l.take (j + 1) = l.take j ++ [f] := by rw [List.take_add_one, hfj]; rfl
          have HTJ := Lib.hid htj
          obtain ⟨k, hk, D, hown, hD⟩ := HS.out
          have hkk : k ≤ 600000 := by
            have h1 := HTL.out
            have h2 : (l.take j).length ≤ l.length := by rw [List.length_take]; omega
            simp at h1 hk
            omega
          have HD := Lib.hid hD
          have HK := Lib.hid hk
          have hkey := keyOf_int_mk Try.underlying3 hwf
          clear hfe hfj htj hD hk
          go_wp2_with (first
            | (at_mapUpdate; refine wpList_mapUpdate_own _ rfl _ _ _ 85 rfl 3 4 lawI Try.underlying85 (plainElem (H := Unit) Try.prog 4) w.heap.size k D rfl (hown.alloc _) (by simp only [maxLen]; omega) _ _ _ rfl rfl hkey _ [] (plainElem_bool Try.underlying4 true) ?_; intro w2 hown2 hgrow2)
            | go_in)
          go_roundg (n' - (j + 1))
          case measure => have := HQ'.out; omega
          case rel =>
            have hst := ST.put hwf HD.out (hown.tidy lawI).isMap hown2
            refine ⟨j + 1, by simp, by omega, rfl, ⟨k + 1, ?_, hst.mono fun x => ?_⟩, (HBR.out.alloc HBR.out.size _).grown hgrow2 (by have := HBR.out.size; simp; omega) (fun z hz => by cases hz; exact Nat.le_refl _)⟩
            · have := HK.out; rw [HTJ.out]; simp at this ⊢; omega
            · rw [HTJ.out]; simp only [List.mem_append, List.mem_singleton]
              constructor
              · rintro ((h | ⟨g, hg, e⟩) | h)
                · exact .inl h
                · exact .inr ⟨g, hg.elim .inl (fun h => .inr (.inl h)), e⟩
                · exact .inr ⟨f, .inr (.inr rfl), h.symm⟩
              · rintro (h | ⟨g, hg | hg | rfl, e⟩)
                · exact .inl (.inl h)
                · exact .inl (.inr ⟨g, .inl hg, e⟩)
                · exact .inl (.inr ⟨g, .inr hg, e⟩)
                · exact .inr e.symm
        · obtain rfl : j = n' := by omega
          have hd : decide ((j : Int) < (j : Int)) = false := by simp
          go_wp2_with fail
          go_roundg (n - (i + 1))
          case measure => have := HQ.out; omega
          case rel =>
            obtain ⟨k, hk, hst⟩ := HS.out
            have e : l.take j = l := List.take_of_length_le (by have := HN'.out; omega)
            rw [e, ← HTK.out] at hk hst
            exact ⟨i + 1, by simp, by omega, rfl, ⟨k, hk, hst⟩, HBR.out⟩
    · obtain rfl : i = n := by omega
      have hd : decide ((i : Int) < (i : Int)) = false := by simp
      obtain ⟨k, hk, hst⟩ := HS.out
      have e : s.take i = s := List.take_of_length_le (by have := HN.out; omega)
      rw [e] at hk hst
      go_wp2_with (go_at_call 41; (with_reducible refine (sorted_any _ _ _ _ hst (by omega)).mono ?_); rintro e w2 ⟨A2, c2, Z, rfl, h1, h2, h3, h4, h5⟩; have HB2 := Lib.hid (below_call HBR.out h5); have HZ := Lib.hid (And.intro h1 (And.intro h2 h3)); have HRZ := Lib.hid h4; clear h1 h2 h3 h4 h5)
      go_ret
      exact ⟨A2, c2, Z, rfl, HZ.out.1, HZ.out.2.1, HZ.out.2.2, HRZ.out.mono (fun b hb _ => Nat.le_trans HBR.out.size hb), HB2.out⟩
end Go.Proofs.Ytadpfhoenjodeaa
