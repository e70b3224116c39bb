/- The contract of the package's Sum. -/
import Derived.Test.YtogpecgbgfcdcaaSI
namespace Go.Proofs.Ytogpecgbgfcdcaa
open Go.RowKit

/-- The hash of bytes, as the program goes. -/
def shaF (bs : List UInt8) : List UInt8 := sumF (absk hwords bs (bs.length / 64)) (bs.drop (64 * (bs.length / 64))) bs.length

set_option maxRecDepth 100000 in
set_option maxHeartbeats 4000000 in
theorem sumb_any (w : World) (a : Option Addr) (cap : Nat) (bs : List UInt8) (hb : Bys 0 w a bs) (hcap : a = none → cap = 0) (hlt : ∀ x, a = some x → bs = [] ∨ x.block < w.heap.size) (hl : bs.length ≤ 1073741824) :
    Calls Try.prog 8 #[.slice a bs.length cap] w fun e w' => e = .returned (str (shaF bs)) ∧ Below w.heap.size w w' := by
  have h32 : w32 hwords := fun i => by
    by_cases h : i < 8
    · exact (by decide +kernel : ∀ i, i < 8 → hwords.getD i 0 < 4294967296) i h
    · rw [List.getD, List.getElem?_eq_none (by show 8 ≤ i; omega)]; decide
  unfold str
  go_enter Try.func8, Try.ntmps8
  go_wp2_with fail
  refine (new_any _).mono ?_
  rintro e w1 ⟨rfl, hP1, hb1, hsz1⟩
  have hW := write_any w1 w.heap.size w.heap.size (by omega) hwords (.slice none 0 0) 0 [] bs a cap hP1 rfl h32 (OwnB.nil _ _) (hb.below hb1) (fun x e => (hlt x e).imp id (fun h => by omega)) (fun x e => .inr (by simp [Value.ownBlock])) hcap (by simp; omega) (by omega)
  go_wp2_with fail
  refine hW.mono ?_
  rintro e w2 ⟨a2, c2, rfl, hP2, hO2, hT2⟩
  simp only [List.nil_append] at hP2 hO2
  have hS := sum_any w2 w.heap.size (absk hwords bs (bs.length / 64)) (.slice a2 (bs.length % 64) c2) bs.length (bs.drop (64 * (bs.length / 64))) (by simpa using hP2) (absk_length _ _ rfl _) (absk_lt _ _ h32 _) (hO2.from (by omega)) (by rw [List.length_drop]; omega) (by omega)
  go_wp2_with fail
  refine hS.mono ?_
  rintro e w3 ⟨rfl, hb3⟩
  have hb : Below w.heap.size w w3 := hb1.trans ((hT2.below (by omega) (Nat.le_refl _) (fun k e => by simp [Value.ownBlock] at e)).trans (hb3.mono (by have := hT2.size; omega)))
  go_wp2
  go_ret
  exact ⟨rfl, hb⟩

end Go.Proofs.Ytogpecgbgfcdcaa
