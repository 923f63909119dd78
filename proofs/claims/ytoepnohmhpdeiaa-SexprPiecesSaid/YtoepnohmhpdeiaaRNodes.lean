/- The reference parser: nodes. -/
import Derived.Test.YtoepnohmhpdeiaaRQuoted
import Derived.Test.YtoepnohmhpdeiaaRLaw
set_option linter.unusedVariables false
set_option linter.unusedSimpArgs false
namespace Go.Proofs.Ytoepnohmhpdeiaa
open Go.RowKit
attribute [local go_sem ↓] Go.wp_at_zero Go.wp_at_succ

theorem rnode_info : (Try.prog.info? 80).map (fun i => (i.zero, i.size, i.bytes)) = some (some (.agg #[.int .i64 0, .string ⟨#[]⟩, .slice none 0 0, .int .i64 0]), 4, 56) := by kernel_rfl

def okN (B : Nat) (v : Value) (b : Nat) : Prop := B ≤ b ∧ v.ownBlock ≠ some b
/-- The loop of nodes: the parser, and the nodes read so far in v. -/
structure NI (w wr : World) (g : Nat) (s : ByteArray) (k fk fo : Int) (v : Value) (l : List Nd) : Prop where
  rs : RS wr g s k fk fo
  kg : KG w wr g
  own : Own wr (okN w.heap.size v) w.heap.size 80 4 v l.length (ndsTr 80 l)
def NEnd (r : RR) (pos fk fo : Int) (l : List Nd) : Prop :=
  match r with
  | .bad a b => fk = a ∧ fo = b
  | .at_ e l' => fk = 0 ∧ fo = 0 ∧ l = l' ∧ pos = e
def NPost (w : World) (g : Nat) (s : ByteArray) (r : RR) (e : Ending) (w' : World) : Prop :=
  ∃ A C l pos fk fo, e = .returned (.slice A (List.length l) C) ∧ RS w' g s pos fk fo ∧ KG w w' g ∧ Rd w' (fun b => w.heap.size ≤ b) (.slice A (List.length l) C) (.sl 80 4 (ndsTr 80 l)) ∧ NEnd r pos fk fo l
section
variable {w wr w' W w1 w2 : World} {g g1 cap1 : Nat} {s : ByteArray} {k k' k2 fk fo pos : Int} {v kv : Value} {l kl : List Nd}
theorem NI.start (h : RS w g s k 0 0) : NI w w g s k 0 0 (.slice none 0 0) [] := ⟨h, KG.rfl' w g, Own.nil _ _ _ _ _⟩
theorem NI.far (h : NI w wr g s k fk fo v l) (hg : g < w.heap.size) : v.ownBlock ≠ some g := fun e => by have := (h.own.lt g e).1; omega
theorem NI.setPos (h : NI w wr g s k fk fo v l) (hg : g < w.heap.size) (e : k2 = k') : NI w (wr.setCell ⟨g, 1, none⟩ (.int .i64 k2)) g s k' fk fo v l :=
  ⟨h.rs.toPos e, h.kg.set _ _, h.own.setCell (p := ⟨g, 1, none⟩) (fun hb => by have := hb.1; dsimp only at this; omega) (h.far hg) _⟩
theorem NI.drewN (h : NI w wr g s k fk fo v l) (n : Nat) : NI w (wr.drewN n) g s k fk fo v l := ⟨h.rs.drewN n, h.kg.drewN n, h.own.drewN n⟩
theorem NI.call (h : NI w wr g s k fk fo v l) (hg : g < w.heap.size) {a b : Int} (q1 : RS w' g s k' a b) (q2 : KG wr w' g) : NI w w' g s k' a b v l :=
  ⟨q1, h.kg.trans q2 (fun _ _ h => h), h.own.kp q2 (fun b hb e => by have := hb.1; omega) (fun b hb e => h.far hg (e ▸ hb))⟩
theorem NI.child (h : NI w W g s k 0 0 v l) (hg : g < w.heap.size) (q1 : RS w2 g s pos fk fo) (q2 : KG W w2 g) (q3 : Rd w2 (fun b => W.heap.size ≤ b) kv (.sl 80 4 (ndsTr 80 kl))) (k2 k' : Int) (e : k2 = k') :
    NI w (w2.setCell ⟨g, 1, none⟩ (.int .i64 k2)) g s k' fk fo v l ∧ Rd (w2.setCell ⟨g, 1, none⟩ (.int .i64 k2)) (okN w.heap.size v) kv (.sl 80 4 (ndsTr 80 kl)) :=
  ⟨(h.call hg q1 q2).setPos hg e, (q3.mono (ok' := okN w.heap.size v) (fun b hb _ => ⟨Nat.le_trans h.kg.size hb, fun e => by have := (h.own.lt b e).2; omega⟩)).setCell (p := ⟨g, 1, none⟩) (fun hb => by have := hb.1; dsimp only at this; omega) _⟩
theorem NI.push {x : Nd} {xs : List Value} (h : NI w wr g s k fk fo v l) (hg : g < w.heap.size) (hW : Below wr.heap.size wr W) (hown : wr.ownsRow w.heap.size 80 4 v l.length xs)
    (hr : RdL wr (okN w.heap.size v) xs (ndsTr 80 l)) (hx : Rd wr (okN w.heap.size v) kv (.sl 80 4 (ndsTr 80 x.kids)))
    (h1 : w1.ownsRow w.heap.size 80 4 (.slice (some ⟨g1, 0, none⟩) (l.length + 1) cap1) (l.length + 1) (xs ++ [.int .i64 x.kind, .string x.text, kv, .int .i64 x.off])) (hgrow : W.grownBy w1 v.ownBlock)
    (hat : v.ownBlock = some g1 ∨ wr.heap.size ≤ g1) : NI w w1 g s k fk fo (.slice (some ⟨g1, 0, none⟩) (l.length + 1) cap1) (l ++ [x]) := by
  have hv := h.own.lt
  refine ⟨⟨(hgrow.block g (Nat.lt_of_lt_of_le h.rs.lt hW.size) (Ne.symm (h.far hg))).trans ((hW.block g h.rs.lt).trans h.rs.row)⟩, Kp.grown (Kp.call h.kg hW) hgrow (fun b hb => .inr (hv b hb).1), ?_⟩
  rw [ndsTr_append, ndsTr_one, List.length_append]
  refine ⟨_, h1, ?_⟩
  have hx' : RdL wr (okN w.heap.size v) [.int .i64 x.kind, .string x.text, kv, .int .i64 x.off] (x.tr 80) := by
    rw [Nd.tr_eq]
    exact .cons (.sc _) (.cons (.sc _) (.cons hx (.cons (.sc _) .nil)))
  refine (hr.append hx').step fun b hb hlt => ⟨⟨hb.1, fun e => ?_⟩, ?_⟩
  · simp [Value.ownBlock] at e
    rcases hat with hat | hat
    · exact hb.2 (by rw [hat, e])
    · omega
  · exact (hgrow.block b (Nat.lt_of_lt_of_le hlt hW.size) (Ne.symm hb.2)).trans (hW.block b hlt)
theorem NI.post {A : Option Addr} {C : Nat} {r : RR} (h : NI w wr g s k fk fo (.slice A (List.length l) C) l) (hm : NEnd r k fk fo l) : NPost w g s r (.returned (.slice A (List.length l) C)) wr := by
  refine ⟨A, C, l, k, fk, fo, rfl, h.rs, h.kg, ?_, hm⟩
  exact h.own.rd (fun b hb _ => hb.1) (fun b hb => (h.own.lt b hb).1)
end

set_option maxRecDepth 100000 in
set_option maxHeartbeats 8000000 in
theorem rnodes_any {s : ByteArray} (hs : s.size ≤ 65536) : ∀ (n : Nat) (w : World) (g k d : Nat) (di : Int) (r : RR), di = (d : Int) → RS w g s (k : Nat) 0 0 → k ≤ s.size → d ≤ 40 → refF s n d k [] = some r →
    Calls Try.prog 37 #[.pointer (some ⟨g, 0, none⟩), .int .i64 di] w (NPost w g s r) := by
  intro n
  induction n using Nat.strongRecOn with
  | _ n ih =>
  intro w g k d di r hdi h hk hd40 href
  have hgl := h.lt
  have IH := Lib.hid ih
  have HREF := Lib.hid href
  have HI := Lib.hid h
  obtain ⟨i0, hi, hz0, hz1, hz2⟩ := info_parts rnode_info
  clear ih href h
  subst hdi
  go_enter Try.func37, Try.ntmps37
  go_wp2_with fail
  go_loopg [5] n (fun q out wr => ∃ A C l pos fk fo, out = .slice A (List.length l) C ∧ Hid (NI w wr g s pos fk fo (.slice A (List.length l) C) l ∧
    ((∃ kn : Nat, pos = kn ∧ fk = 0 ∧ fo = 0 ∧ refF s q d kn l = some r ∧ q ≤ n ∧ kn ≤ s.size ∧ l.length ≤ kn) ∨ (r = .bad fk fo ∧ fk ≠ 0))))
  case atStart => exact ⟨none, 0, [], _, _, _, rfl, NI.start HI.out, .inl ⟨k, rfl, rfl, rfl, HREF.out, Nat.le_refl _, hk, by simp⟩⟩
  case round =>
    obtain ⟨A, C, l, pos, fk, fo, rfl, HR⟩ := hrel
    obtain ⟨hN, hcase⟩ := HR.out
    clear HR
    rcases hcase with ⟨kn, rfl, rfl, rfl, href, hqn, hkn, hln⟩ | ⟨hr, hne⟩
    · obtain ⟨m, hm, href2⟩ := refF_skip s (s.size - kn) kn (Nat.le_refl _) _ _ _ _ href
      obtain ⟨s1, s2, s3⟩ := sk_spec s (s.size - kn) kn (Nat.le_refl _) hkn
      obtain ⟨K, hK⟩ : ∃ K, K = sk s (s.size - kn) kn := ⟨_, rfl⟩
      rw [← hK] at s1 s2 s3 href2
      obtain ⟨c0, c1, c2, c3, f1, f2, f3⟩ := hN.rs.cells
      have HN := Lib.hid hN
      have HK := Lib.hid hK
      clear hN hK href
      go_wp2_with (go_at_call 62; refine (rskip_any (by exact HN.out.rs) hkn hs _ (Nat.le_refl _)).mono ?_; rintro e W ⟨rfl, hP⟩; rw [← HK.out] at hP; have hN2 := HN.out.call hgl hP.1 hP.2.1; clear hP c0 c1 c2 c3 f1 f2 f3; obtain ⟨c0, c1, c2, c3, f1, f2, f3⟩ := hN2.rs.cells; have HN2 := Lib.hid hN2; clear hN2)
      have hat := bat_at s K
      cases m with
      | zero => simp [refF] at href2
      | succ m =>
      rw [refF] at href2
      by_cases hlt : K < s.size
      · rw [if_pos hlt] at href2
        have bK : ((K : Int) == (s.size : Int)) = false := by simp; omega
        obtain ⟨t1, t2, t3⟩ := s3 hlt
        rw [if_neg (by omega), if_neg t3] at href2
        have hK' : (K : Int) < (s.size : Int) := by omega
        have hlK : l.length ≤ K := by omega
        have hmn : m < n := by omega
        clear t1 t2 t3 s3
        by_cases h41 : bat s K = 41
        · rw [if_pos h41] at href2
          have b41 : (bat s K == 41) = true := by simpa using h41
          clear h41
          by_cases hd : d = 0
          · rw [if_pos hd] at href2
            obtain rfl := (Option.some.inj href2).symm
            have bd : ((d : Int) == 0) = true := by simp; omega
            clear href2
            go_quiet (fail)
            go_wp2_with fail
            go_quiet (fail)
            go_wp2_with (go_at_call 63; refine (rfail_any (by exact (HN2.out.drewN _).rs) _ _).mono ?_; rintro e W3 ⟨rfl, hP⟩; have hN3 := (HN2.out.drewN _).call hgl hP.1 hP.2.1; clear hP)
            go_ret
            exact hN3.post ⟨rfl, rfl⟩
          · rw [if_neg hd] at href2
            obtain rfl := (Option.some.inj href2).symm
            have bd : ((d : Int) == 0) = false := by simp; omega
            clear href2
            go_quiet (fail)
            go_wp2_with fail
            go_quiet (fail)
            go_wp2_with fail
            go_ret
            exact (HN2.out.drewN _).post ⟨rfl, rfl, rfl, rfl⟩
        · rw [if_neg h41] at href2
          have b41 : (bat s K == 41) = false := by simpa using h41
          clear h41
          by_cases h40 : bat s K = 40
          · rw [if_pos h40] at href2
            have b40 : (bat s K == 40) = true := by simpa using h40
            clear h40
            by_cases hdd : 40 ≤ d
            · rw [if_pos hdd] at href2
              obtain rfl := (Option.some.inj href2).symm
              have bd : ((d : Int) == 40) = true := by simp; omega
              clear href2
              go_quiet (fail)
              go_wp2_with fail
              go_quiet (fail)
              go_wp2_with (go_at_call 63; refine (rfail_any (by exact (HN2.out.drewN _).rs) _ _).mono ?_; rintro e W3 ⟨rfl, hP⟩; have hN3 := (HN2.out.drewN _).call hgl hP.1 hP.2.1; clear hP)
              go_ret
              exact hN3.post ⟨rfl, rfl⟩
            · rw [if_neg hdd] at href2
              have bd : ((d : Int) == 40) = false := by simp; omega
              have hd2 : (d : Int) ≤ 40 := by omega
              obtain ⟨rc, hrc, hnx⟩ : ∃ rc, refF s m (d + 1) (K + 1) [] = some rc ∧ ∀ pos fk fo kl, NEnd rc pos fk fo kl → (∃ kn : Nat, wrap64 (pos + 1) = kn ∧ fk = 0 ∧ fo = 0 ∧ refF s m d kn (l ++ [.mk 3 ⟨#[]⟩ kl K]) = some r ∧ kn ≤ s.size ∧ l.length + 1 ≤ kn) ∨ (r = .bad fk fo ∧ fk ≠ 0) := by
                cases hc : refF s m (d + 1) (K + 1) [] with
                | none => rw [hc] at href2; simp at href2
                | some rc =>
                  rw [hc] at href2
                  refine ⟨rc, rfl, fun pos fk fo kl h => ?_⟩
                  cases rc with
                  | bad a b =>
                    obtain ⟨rfl, rfl⟩ := h
                    exact .inr ⟨(Option.some.inj href2).symm, refF_bad s _ _ _ _ _ _ hc⟩
                  | at_ e l2 =>
                    obtain ⟨rfl, rfl, rfl, rfl⟩ := h
                    have hb := refF_at s _ _ _ _ _ _ (by omega) hc
                    refine .inl ⟨e + 1, ?_, rfl, rfl, href2, by omega, by omega⟩
                    unfold wrap64
                    omega
              have HRC := Lib.hid hrc
              have HNX := Lib.hid hnx
              clear href2 hrc hnx
              go_quiet (fail)
              go_wp2_with fail
              go_quiet (fail)
              go_wp2_with (first | (go_at_call 37; refine (IH.out m hmn _ g (K + 1) (d + 1) _ _ (by simp) (by exact ((HN2.out.drewN _).setPos hgl (by simp)).rs) (by omega) (by omega) HRC.out).mono ?_; rintro e w2 ⟨KA, KC, kl, pos, fk2, fo2, rfl, q1, q2, q3, q4⟩; obtain ⟨v0, v1, v2, v3, v4, v5, v6⟩ := q1.cells; have Q1 := Lib.hid q1; have Q2 := Lib.hid q2; have Q3 := Lib.hid q3; have Q4 := Lib.hid q4; clear q1 q2 q3 q4 v2 v3 v5 v6) | (at_builtin; obtain ⟨hN3, hx3⟩ := NI.child ((HN2.out.drewN _).setPos hgl rfl) hgl Q1.out Q2.out Q3.out (wrap64 (pos + 1)) (wrap64 (pos + 1)) rfl; obtain ⟨xs, hown, hrl⟩ := hN3.own; refine wpList_append_lies _ rfl (.tmp 97) (.tmp 101) 28 rfl w.heap.size 80 i0 _ 4 56 Try.underlying28 hi hz0 hz1 hz2 rfl (by omega) (.slice A (List.length l) C) (List.length l) xs rfl (by exact hown.alloc _) ⟨_, 0, none⟩ 1 1 [.int .i64 3, .string ⟨#[]⟩, .slice KA kl.length KC, .int .i64 K] rfl rfl (World.news_of_block (cs := #[.int .i64 3, .string ⟨#[]⟩, .slice KA kl.length KC, .int .i64 K]) (t := 80) (fr := (0, 0)) (heap_alloc_at _ (by simp))) (by simp [Value.oneCell']) (by omega) (by simp only [maxLen]; omega) (by omega) (Nat.le_trans hN3.kg.size (by rw [World.size_alloc]; omega)) _ rfl ?_; intro g1 cap1 w1 hown2 hgrow hat2 hlt2; have HN4 := Lib.hid (hN3.push (x := .mk 3 ⟨#[]⟩ kl K) hgl ((Below.refl _ _).alloc (Nat.le_refl _) _) hown hrl hx3 hown2 hgrow (hat2.imp id (fun e => by rw [e, World.size_alloc]; omega)))))
              go_roundg m
              case measure => omega
              case rel =>
                refine ⟨some ⟨g1, 0, none⟩, cap1, l ++ [.mk 3 ⟨#[]⟩ kl K], wrap64 (pos + 1), fk2, fo2, by simp, by rw [List.length_append]; exact HN4.out, ?_⟩
                rcases HNX.out _ _ _ _ Q4.out with ⟨kn2, e1, e2, e3, e4, e5, e6⟩ | e1
                · exact .inl ⟨kn2, e1, e2, e3, e4, by omega, e5, by simp; omega⟩
                · exact .inr e1
          · rw [if_neg h40] at href2
            have b40 : (bat s K == 40) = false := by simpa using h40
            clear h40
            by_cases h34 : bat s K = 34
            · rw [if_pos h34] at href2
              have b34 : (bat s K == 34) = true := by simpa using h34
              clear h34
              obtain ⟨qr, hqr, hnx⟩ : ∃ qr, qScan s (s.size - K) (K + 1) [] = some qr ∧ ∀ t pos fk fo, RQR K qr t pos fk fo → (∃ kn : Nat, pos = kn ∧ fk = 0 ∧ fo = 0 ∧ refF s m d kn (l ++ [.mk 2 t [] K]) = some r ∧ kn ≤ s.size ∧ l.length + 1 ≤ kn) ∨ (r = .bad fk fo ∧ fk ≠ 0) := by
                cases hq : qScan s (s.size - K) (K + 1) [] with
                | none => rw [hq] at href2; simp at href2
                | some qr =>
                  rw [hq] at href2
                  refine ⟨qr, rfl, fun t pos fk fo h => ?_⟩
                  cases qr with
                  | bad p =>
                    obtain ⟨rfl, rfl⟩ := h
                    exact .inr ⟨(Option.some.inj href2).symm, by decide⟩
                  | done E a =>
                    have hb := qScan_done _ _ _ _ _ _ hq
                    unfold RQR at h
                    simp only at href2 h
                    split at href2
                    · rename_i c6
                      rw [if_pos c6] at h
                      obtain ⟨rfl, rfl⟩ := h
                      exact .inr ⟨(Option.some.inj href2).symm, by decide⟩
                    · rename_i c6
                      rw [if_neg c6] at h
                      obtain ⟨rfl, rfl, rfl, rfl⟩ := h
                      exact .inl ⟨E, rfl, rfl, rfl, href2, hb.2, by omega⟩
              have HQR := Lib.hid hqr
              have HNX := Lib.hid hnx
              clear href2 hqr hnx
              go_quiet (fail)
              go_wp2_with fail
              go_quiet (fail)
              go_wp2_with (first | (go_at_call 64; refine (rquoted_any (by exact (HN2.out.drewN _).rs) hlt hs _ _ HQR.out).mono ?_; rintro e w2 ⟨t, pos, fk2, fo2, rfl, q1, q2, q4⟩; have hN3 := (HN2.out.drewN _).call hgl q1 q2; have HN3 := Lib.hid hN3; have Q4 := Lib.hid q4; clear q1 q2 q4 hN3) | (at_builtin; have hN3 := HN3.out; obtain ⟨xs, hown, hrl⟩ := hN3.own; refine wpList_append_lies _ rfl (.tmp 106) (.tmp 109) 28 rfl w.heap.size 80 i0 _ 4 56 Try.underlying28 hi hz0 hz1 hz2 rfl (by omega) (.slice A (List.length l) C) (List.length l) xs rfl (by exact hown.alloc _) ⟨_, 0, none⟩ 1 1 [.int .i64 2, .string t, .slice none 0 0, .int .i64 K] rfl rfl (World.news_of_block (cs := #[.int .i64 2, .string t, .slice none 0 0, .int .i64 K]) (t := 80) (fr := (0, 0)) (heap_alloc_at _ (by first | rfl | simp))) (by intro u hu; simp at hu; rcases hu with rfl | rfl | rfl | rfl <;> rfl) (by omega) (by have h8 : maxLen = 2 ^ 63 - 1 := rfl; omega) (by omega) (Nat.le_trans hN3.kg.size (by rw [World.size_alloc]; omega)) _ rfl ?_; intro g1 cap1 w1 hown2 hgrow hat2 hlt2; have HN4 := Lib.hid (hN3.push (x := .mk 2 t [] K) hgl ((Below.refl _ _).alloc (Nat.le_refl _) _) hown hrl (Rd.nil _ _) hown2 hgrow (hat2.imp id (fun e => by rw [e, World.size_alloc]; omega)))))
              go_roundg m
              case measure => omega
              case rel =>
                refine ⟨some ⟨g1, 0, none⟩, cap1, l ++ [.mk 2 t [] K], pos, fk2, fo2, by simp, by rw [List.length_append]; exact HN4.out, ?_⟩
                rcases HNX.out _ _ _ _ Q4.out with ⟨kn2, e1, e2, e3, e4, e5, e6⟩ | e1
                · exact .inl ⟨kn2, e1, e2, e3, e4, by omega, e5, by simp; omega⟩
                · exact .inr e1
            · rw [if_neg h34] at href2
              have b34 : (bat s K == 34) = false := by simpa using h34
              clear h34
              by_cases hW : isW (bat s K) = true
              · rw [if_pos hW] at href2
                obtain ⟨E, hE⟩ : ∃ E, E = wEnd s (s.size - K) K := ⟨_, rfl⟩
                obtain ⟨p1, p2, p3, p4⟩ := wEnd_spec s (s.size - K) K (Nat.le_refl _) (by omega)
                have p5 := wEnd_after s K hlt hW
                rw [← hE] at href2 p1 p2 p3 p4 p5
                have P3 := Lib.hid p3
                have P4 := Lib.hid p4
                have HREF2 := Lib.hid href2
                clear href2 hE p3 p4
                go_quiet (fail)
                go_wp2_with fail
                go_quiet (fail)
                go_wp2_with (go_at_call 65; refine (risWordByte_any _ _).mono ?_; rintro e w' ⟨rfl, rfl⟩)
                clear c0 c1 c2 c3 f1 f2 f3
                go_loopg [] (E - K) (fun q2 wr2 => ∃ j, Hid (K ≤ j ∧ j ≤ E ∧ q2 = E - j ∧ NI w wr2 g s (j : Nat) 0 0 (.slice A (List.length l) C) l))
                case atStart => exact ⟨K, Nat.le_refl _, p1, rfl, HN2.out.drewN _⟩
                case round =>
                  obtain ⟨j, HR⟩ := hrel
                  obtain ⟨r1, r2, r3, r4⟩ := HR.out
                  obtain ⟨c0, c1, c2, c3, f1, f2, f3⟩ := r4.rs.cells
                  have H3 := Lib.hid r3
                  have HN4 := Lib.hid r4
                  clear HR r3 r4
                  have hat := bat_at s j
                  by_cases hj : j < E
                  · have hw := P3.out j r1 hj
                    have hjs : j < s.size := by omega
                    have hjs' : (j : Int) < (s.size : Int) := by omega
                    go_wp2_with fail
                    go_quiet (((go_at_call 65; first | exact quiet_left (risWordByte_any _ _) | exact quiet_add_left (risWordByte_any _ _))))
                    go_wp2_with fail
                    go_roundg (E - (j + 1))
                    case measure => have := H3.out; omega
                    case rel => exact ⟨j + 1, by omega, by omega, rfl, (HN4.out.drewN _).setPos hgl (by simp)⟩
                  · obtain rfl : j = E := by omega
                    have hb1 : (0 : Int) ≤ (K : Int) := by omega
                    have hb2 : (K : Int) ≤ (j : Int) := by omega
                    have hb3 : (j : Int) ≤ (s.size : Int) := by omega
                    have hb4 : (0 : Int) ≤ (j : Int) := by omega
                    by_cases hjs : j < s.size
                    · have hjs' : (j : Int) < (s.size : Int) := by omega
                      have hw := P4.out hjs
                      by_cases hlong : 24 < j - K
                      · have hlong' : (24 : Int) < (j : Int) - (K : Int) := by omega
                        have href2 := HREF2.out
                        rw [if_pos hlong] at href2
                        have HR2 := Lib.hid (Option.some.inj href2).symm
                        clear href2 HREF2
                        go_wp2_with fail
                        go_quiet (((go_at_call 65; first | exact quiet_left (risWordByte_any _ _) | exact quiet_add_left (risWordByte_any _ _))))
                        go_wp2_with (go_at_call 63; refine (rfail_any (by exact (HN4.out.drewN _).rs) _ _).mono ?_; rintro e W3 ⟨rfl, hP⟩; have hN5 := (HN4.out.drewN _).call hgl hP.1 hP.2.1; clear hP)
                        obtain ⟨xs, hown, hrl⟩ := hN5.own
                        obtain ⟨v0, v1, v2, v3, v4, v5, v6⟩ := hN5.rs.cells
                        have hgW := hN5.rs.lt
                        have hsW : w.heap.size ≤ W3.heap.size := hN5.kg.size
                        have k0' : ∀ y, (W3.alloc y).cell? ⟨g, 0, none⟩ = some (.string s) := fun y => (World.cell?_alloc_lt W3 y _ hgW).trans v0
                        have k1' : ∀ y, (W3.alloc y).cell? ⟨g, 1, none⟩ = some (.int .i64 j) := fun y => (World.cell?_alloc_lt W3 y _ hgW).trans v1
                        have HN5 := Lib.hid hN5
                        clear hN5 v2 v3 v4 v5 v6
                        go_region_law ((refine step_append_lies _ (by rfl) (.tmp 153) (.tmp 166) 28 (by rfl) w.heap.size 80 i0 _ 4 56 Try.underlying28 hi hz0 hz1 hz2 rfl (by omega) (.slice A (List.length l) C) (List.length l) xs (by rfl) (hown.alloc _) ⟨W3.heap.size, 0, none⟩ 1 1 [.int .i64 1, .string (s.extract K j), .slice none 0 0, .int .i64 K] (by rfl) rfl (World.news_of_block (cs := #[.int .i64 1, .string (s.extract K j), .slice none 0 0, .int .i64 K]) (t := 80) (fr := (0, 0)) (heap_alloc_new W3 _)) (by simp [Value.oneCell']) (by omega) (by simp only [maxLen]; omega) (by omega) (by simp; omega) (W3.heap.size + 1) (by simp) ?_; intro g1 cap1 w1 hown2 hgrow hat2 hlt2))
                        all_goals
                          have HN6 := Lib.hid (HN5.out.push (x := .mk 1 (s.extract K j) [] K) hgl (((Below.refl _ _).alloc (Nat.le_refl _) (.cells #[.int .i64 1, .string (s.extract K j), .slice none 0 0, .int .i64 K] 80)).drew) hown hrl (Rd.nil _ _) hown2 hgrow (hat2.imp id (fun e => by omega)))
                          try go_wp2_with fail
                          go_roundg m
                          case measure => omega
                          case rel =>
                            refine ⟨some ⟨g1, 0, none⟩, cap1, l ++ [.mk 1 (s.extract K j) [] K], (j : Nat), 4, K, by simp, by rw [List.length_append]; exact HN6.out, ?_⟩
                            exact .inr ⟨HR2.out, by decide⟩
                      · have hlong' : ¬ (24 : Int) < (j : Int) - (K : Int) := by omega
                        have href2 := HREF2.out
                        rw [if_neg hlong] at href2
                        have HR2 := Lib.hid href2
                        clear href2 HREF2
                        go_wp2_with fail
                        go_quiet (((go_at_call 65; first | exact quiet_left (risWordByte_any _ _) | exact quiet_add_left (risWordByte_any _ _))))
                        go_wp2_with fail
                        generalize hW3 : World.drewN wr _ = W3
                        have hN5 : NI w W3 g s (j : Nat) 0 0 (.slice A (List.length l) C) l := by rw [← hW3]; exact HN4.out.drewN _
                        clear hW3 c0 c1 c2 c3 f1 f2 f3
                        obtain ⟨xs, hown, hrl⟩ := hN5.own
                        obtain ⟨v0, v1, v2, v3, v4, v5, v6⟩ := hN5.rs.cells
                        have hgW := hN5.rs.lt
                        have hsW : w.heap.size ≤ W3.heap.size := hN5.kg.size
                        have k0' : ∀ y, (W3.alloc y).cell? ⟨g, 0, none⟩ = some (.string s) := fun y => (World.cell?_alloc_lt W3 y _ hgW).trans v0
                        have k1' : ∀ y, (W3.alloc y).cell? ⟨g, 1, none⟩ = some (.int .i64 j) := fun y => (World.cell?_alloc_lt W3 y _ hgW).trans v1
                        have HN5 := Lib.hid hN5
                        clear hN5 v2 v3 v4 v5 v6
                        go_region_law ((refine step_append_lies _ (by rfl) (.tmp 153) (.tmp 166) 28 (by rfl) w.heap.size 80 i0 _ 4 56 Try.underlying28 hi hz0 hz1 hz2 rfl (by omega) (.slice A (List.length l) C) (List.length l) xs (by rfl) (hown.alloc _) ⟨W3.heap.size, 0, none⟩ 1 1 [.int .i64 1, .string (s.extract K j), .slice none 0 0, .int .i64 K] (by rfl) rfl (World.news_of_block (cs := #[.int .i64 1, .string (s.extract K j), .slice none 0 0, .int .i64 K]) (t := 80) (fr := (0, 0)) (heap_alloc_new W3 _)) (by simp [Value.oneCell']) (by omega) (by simp only [maxLen]; omega) (by omega) (by simp; omega) (W3.heap.size + 1) (by simp) ?_; intro g1 cap1 w1 hown2 hgrow hat2 hlt2))
                        all_goals
                          have HN6 := Lib.hid (HN5.out.push (x := .mk 1 (s.extract K j) [] K) hgl (((Below.refl _ _).alloc (Nat.le_refl _) (.cells #[.int .i64 1, .string (s.extract K j), .slice none 0 0, .int .i64 K] 80)).drew) hown hrl (Rd.nil _ _) hown2 hgrow (hat2.imp id (fun e => by omega)))
                          try go_wp2_with fail
                          go_roundg m
                          case measure => omega
                          case rel =>
                            refine ⟨some ⟨g1, 0, none⟩, cap1, l ++ [.mk 1 (s.extract K j) [] K], (j : Nat), 0, 0, by simp, by rw [List.length_append]; exact HN6.out, ?_⟩
                            exact .inl ⟨j, rfl, rfl, rfl, HR2.out, by omega, by omega, by simp; omega⟩
                    · have hjd : decide ((j : Int) < (s.size : Int)) = false := by simp; omega
                      by_cases hlong : 24 < j - K
                      · have hlong' : (24 : Int) < (j : Int) - (K : Int) := by omega
                        have href2 := HREF2.out
                        rw [if_pos hlong] at href2
                        have HR2 := Lib.hid (Option.some.inj href2).symm
                        clear href2 HREF2
                        go_wp2_with fail
                        go_quiet (fail)
                        go_wp2_with (go_at_call 63; refine (rfail_any (by exact (HN4.out.drewN _).rs) _ _).mono ?_; rintro e W3 ⟨rfl, hP⟩; have hN5 := (HN4.out.drewN _).call hgl hP.1 hP.2.1; clear hP)
                        obtain ⟨xs, hown, hrl⟩ := hN5.own
                        obtain ⟨v0, v1, v2, v3, v4, v5, v6⟩ := hN5.rs.cells
                        have hgW := hN5.rs.lt
                        have hsW : w.heap.size ≤ W3.heap.size := hN5.kg.size
                        have k0' : ∀ y, (W3.alloc y).cell? ⟨g, 0, none⟩ = some (.string s) := fun y => (World.cell?_alloc_lt W3 y _ hgW).trans v0
                        have k1' : ∀ y, (W3.alloc y).cell? ⟨g, 1, none⟩ = some (.int .i64 j) := fun y => (World.cell?_alloc_lt W3 y _ hgW).trans v1
                        have HN5 := Lib.hid hN5
                        clear hN5 v2 v3 v4 v5 v6
                        go_region_law ((refine step_append_lies _ (by rfl) (.tmp 153) (.tmp 166) 28 (by rfl) w.heap.size 80 i0 _ 4 56 Try.underlying28 hi hz0 hz1 hz2 rfl (by omega) (.slice A (List.length l) C) (List.length l) xs (by rfl) (hown.alloc _) ⟨W3.heap.size, 0, none⟩ 1 1 [.int .i64 1, .string (s.extract K j), .slice none 0 0, .int .i64 K] (by rfl) rfl (World.news_of_block (cs := #[.int .i64 1, .string (s.extract K j), .slice none 0 0, .int .i64 K]) (t := 80) (fr := (0, 0)) (heap_alloc_new W3 _)) (by simp [Value.oneCell']) (by omega) (by simp only [maxLen]; omega) (by omega) (by simp; omega) (W3.heap.size + 1) (by simp) ?_; intro g1 cap1 w1 hown2 hgrow hat2 hlt2))
                        all_goals
                          have HN6 := Lib.hid (HN5.out.push (x := .mk 1 (s.extract K j) [] K) hgl (((Below.refl _ _).alloc (Nat.le_refl _) (.cells #[.int .i64 1, .string (s.extract K j), .slice none 0 0, .int .i64 K] 80)).drew) hown hrl (Rd.nil _ _) hown2 hgrow (hat2.imp id (fun e => by omega)))
                          try go_wp2_with fail
                          go_roundg m
                          case measure => omega
                          case rel =>
                            refine ⟨some ⟨g1, 0, none⟩, cap1, l ++ [.mk 1 (s.extract K j) [] K], (j : Nat), 4, K, by simp, by rw [List.length_append]; exact HN6.out, ?_⟩
                            exact .inr ⟨HR2.out, by decide⟩
                      · have hlong' : ¬ (24 : Int) < (j : Int) - (K : Int) := by omega
                        have href2 := HREF2.out
                        rw [if_neg hlong] at href2
                        have HR2 := Lib.hid href2
                        clear href2 HREF2
                        go_wp2_with fail
                        go_quiet (fail)
                        go_wp2_with fail
                        generalize hW3 : World.drewN wr _ = W3
                        have hN5 : NI w W3 g s (j : Nat) 0 0 (.slice A (List.length l) C) l := by rw [← hW3]; exact HN4.out.drewN _
                        clear hW3 c0 c1 c2 c3 f1 f2 f3
                        obtain ⟨xs, hown, hrl⟩ := hN5.own
                        obtain ⟨v0, v1, v2, v3, v4, v5, v6⟩ := hN5.rs.cells
                        have hgW := hN5.rs.lt
                        have hsW : w.heap.size ≤ W3.heap.size := hN5.kg.size
                        have k0' : ∀ y, (W3.alloc y).cell? ⟨g, 0, none⟩ = some (.string s) := fun y => (World.cell?_alloc_lt W3 y _ hgW).trans v0
                        have k1' : ∀ y, (W3.alloc y).cell? ⟨g, 1, none⟩ = some (.int .i64 j) := fun y => (World.cell?_alloc_lt W3 y _ hgW).trans v1
                        have HN5 := Lib.hid hN5
                        clear hN5 v2 v3 v4 v5 v6
                        go_region_law ((refine step_append_lies _ (by rfl) (.tmp 153) (.tmp 166) 28 (by rfl) w.heap.size 80 i0 _ 4 56 Try.underlying28 hi hz0 hz1 hz2 rfl (by omega) (.slice A (List.length l) C) (List.length l) xs (by rfl) (hown.alloc _) ⟨W3.heap.size, 0, none⟩ 1 1 [.int .i64 1, .string (s.extract K j), .slice none 0 0, .int .i64 K] (by rfl) rfl (World.news_of_block (cs := #[.int .i64 1, .string (s.extract K j), .slice none 0 0, .int .i64 K]) (t := 80) (fr := (0, 0)) (heap_alloc_new W3 _)) (by simp [Value.oneCell']) (by omega) (by simp only [maxLen]; omega) (by omega) (by simp; omega) (W3.heap.size + 1) (by simp) ?_; intro g1 cap1 w1 hown2 hgrow hat2 hlt2))
                        all_goals
                          have HN6 := Lib.hid (HN5.out.push (x := .mk 1 (s.extract K j) [] K) hgl (((Below.refl _ _).alloc (Nat.le_refl _) (.cells #[.int .i64 1, .string (s.extract K j), .slice none 0 0, .int .i64 K] 80)).drew) hown hrl (Rd.nil _ _) hown2 hgrow (hat2.imp id (fun e => by omega)))
                          try go_wp2_with fail
                          go_roundg m
                          case measure => omega
                          case rel =>
                            refine ⟨some ⟨g1, 0, none⟩, cap1, l ++ [.mk 1 (s.extract K j) [] K], (j : Nat), 0, 0, by simp, by rw [List.length_append]; exact HN6.out, ?_⟩
                            exact .inl ⟨j, rfl, rfl, rfl, HR2.out, by omega, by omega, by simp; omega⟩
              · rw [if_neg hW] at href2
                obtain rfl := (Option.some.inj href2).symm
                have hW' : isW (bat s K) = false := by simpa using hW
                clear href2 hW
                go_quiet (fail)
                go_wp2_with fail
                go_quiet (fail)
                go_wp2_with (first | (go_at_call 65; refine (risWordByte_any _ _).mono ?_; rintro e w' ⟨rfl, rfl⟩) | (go_at_call 63; refine (rfail_any (by exact (HN2.out.drewN _).rs) _ _).mono ?_; rintro e W3 ⟨rfl, hP⟩; have hN3 := (HN2.out.drewN _).call hgl hP.1 hP.2.1; clear hP))
                go_roundg m
                case measure => omega
                case rel => exact ⟨A, C, l, _, 2, K, rfl, hN3, .inr ⟨rfl, by decide⟩⟩
      · rw [if_neg hlt] at href2
        have bK : ((K : Int) == (s.size : Int)) = true := by simp; omega
        by_cases hd : 0 < d
        · rw [if_pos hd] at href2
          obtain rfl := (Option.some.inj href2).symm
          have hd' : (0 : Int) < (d : Int) := by omega
          clear href2
          go_quiet (fail)
          go_wp2_with (go_at_call 63; refine (rfail_any (by exact (HN2.out.drewN _).rs) _ _).mono ?_; rintro e w' ⟨rfl, hP⟩; have hN3 := (HN2.out.drewN _).call hgl hP.1 hP.2.1; clear hP)
          go_ret
          exact hN3.post ⟨rfl, by omega⟩
        · rw [if_neg hd] at href2
          obtain rfl := (Option.some.inj href2).symm
          have hd' : ¬ (0 : Int) < (d : Int) := by omega
          clear href2
          go_quiet (fail)
          go_wp2_with fail
          go_ret
          exact (HN2.out.drewN _).post ⟨rfl, rfl, rfl, rfl⟩
    · obtain ⟨c0, c1, c2, c3, f1, f2, f3⟩ := hN.rs.cells
      have bf : (fk == 0) = false := by simpa using hne
      have HN := Lib.hid hN
      have HR := Lib.hid hr
      clear hN hr hne
      go_wp2_with fail
      go_ret
      exact HN.out.post (by rw [HR.out]; exact ⟨rfl, rfl⟩)
end Go.Proofs.Ytoepnohmhpdeiaa
