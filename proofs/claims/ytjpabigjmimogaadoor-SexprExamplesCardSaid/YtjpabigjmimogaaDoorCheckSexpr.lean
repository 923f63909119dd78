/- The check of package tellaw1: the constant that is parsed. -/
import Derived.Test.YtjpabigjmimogaaDoorParse
set_option linter.unusedVariables false
set_option linter.unusedSimpArgs false
namespace Go.Proofs.YtjpabigjmimogaaDoor
open Go.RowKit

def exText : ByteArray := ⟨#[40, 97, 100, 100, 32, 120, 32, 34, 97, 32, 98, 34, 41, 32, 59, 32, 115, 117, 109]⟩
def exNodes : List Nd := [.mk 3 ⟨#[]⟩ [.mk 1 ⟨#[97, 100, 100]⟩ [] 1, .mk 1 ⟨#[120]⟩ [] 5, .mk 2 ⟨#[97, 32, 98]⟩ [] 7] 0]
theorem ex_parse : parseF exText 20 = some (.ok exNodes) := by kernel_rfl

set_option maxRecDepth 100000 in
set_option maxHeartbeats 2000000 in
theorem check_any (w : World) : Calls Tryd.prog 15 #[] w fun e w' => e = .returned (.bool true) ∧ Below w.heap.size w w' := by
  have HP := Lib.hid (fun W => parse_any exText (by decide) W 20 _ ex_parse)
  have HB := Lib.hid (Below.refl w.heap.size w)
  go_enter Tryd.func15, Tryd.ntmps15
  go_wp2_with (go_at_call 13; refine (HP.out _).mono ?_; rintro e w1 ⟨hbel, A, n, c, rfl, hrd⟩; obtain ⟨b, o, KA, KN, KC, rfl, hb, hlt, p0, p1, p2, p3, p4⟩ := nd_at (i := 0) (x := .mk 3 ⟨#[]⟩ [.mk 1 ⟨#[97, 100, 100]⟩ [] 1, .mk 1 ⟨#[120]⟩ [] 5, .mk 2 ⟨#[97, 32, 98]⟩ [] 7] 0) hrd rfl; obtain ⟨b1, o1, KA1, KN1, KC1, rfl, hb1, hlt1, r0, r1, r2, r3, r4⟩ := nd_at (i := 1) (x := .mk 1 ⟨#[120]⟩ [] 5) p3 rfl; obtain ⟨b2, o2, KA2, KN2, KC2, he, hb2, hlt2, q0, q1, q2, q3, q4⟩ := nd_at (i := 2) (x := .mk 2 ⟨#[97, 32, 98]⟩ [] 7) p3 rfl; obtain ⟨rfl, rfl⟩ : b1 = b2 ∧ o1 = o2 := (by simpa using he); obtain rfl : n = 1 := (by have := hrd.len.1; simp [exNodes, ndsTr, Nd.tr] at this; omega); obtain rfl : KN = 3 := (by have := p3.len.1; simp [ndsTr, Nd.tr, Nd.kids] at this; omega); have HBB := Lib.hid hbel; simp only [Nd.kind, Nd.text, Nd.kids, Nd.off, Nat.zero_mul, Nat.add_zero, Nat.one_mul, Nat.reduceMul] at p0 p1 p2 p4 r0 r1 r2 r4 q0 q1 q2 q4; clear hrd p3 r3 q3 hbel he)
  go_ret
  exact ⟨rfl, HBB.out.alloc HBB.out.size _⟩
end Go.Proofs.YtjpabigjmimogaaDoor
