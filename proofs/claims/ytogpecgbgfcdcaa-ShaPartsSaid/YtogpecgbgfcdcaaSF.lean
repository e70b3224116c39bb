/- The contracts of slices.Clone at []byte, and of New. -/
import Derived.Test.YtogpecgbgfcdcaaSE
namespace Go.Proofs.Ytogpecgbgfcdcaa
open Go.RowKit

def RetB (w : World) (bs : List UInt8) (e : Ending) (w' : World) : Prop :=
  ∃ a' cap', e = .returned (.slice a' bs.length cap') ∧ OwnB w' w.heap.size (.slice a' bs.length cap') bs ∧ Below w.heap.size w w'

set_option maxHeartbeats 1000000 in
theorem clone_any (w : World) (a : Option Addr) (cap : Nat) (bs : List UInt8) (h : Bys 0 w a bs) (hl : bs.length ≤ 4294967296) :
    Calls Try.prog 21 #[.slice a bs.length cap] w (RetB w bs) := by
  have heq := fun (w : World) (l c : Nat) => Lib.run_eql_slice_nil (P := Try.prog) w 22 5 a l c 0 0 Try.underlying22
  cases a with
  | none =>
    have hb : bs = [] := by
      rcases h with h | ⟨b, off, e, _⟩
      · simpa [nums] using h
      · simp at e
    subst hb
    clear h
    go_enter Try.func21, Try.ntmps21
    go_wp2
    go_ret
    exact ⟨none, 0, rfl, OwnB.nil _ _, Below.refl _ _⟩
  | some ad =>
    have HH := Lib.hid h
    clear h
    go_enter Try.func21, Try.ntmps21
    go_wp2_with (at_builtin; refine append_bytes rfl _ _ rfl w.heap.size _ [] bs ad cap rfl rfl ?hown (HH.out.alloc _) (by simpa using hl) (by simp) ?_)
    case hown => exact ⟨by simp [byv], .inr ⟨w.heap.size, 0, #[], rfl, Nat.le_refl _, by show (w.heap.push _)[w.heap.size]? = _; simp, Nat.le_refl _, by decide, rfl, rfl⟩⟩
    intro a1 c1 w1 hO hg _
    go_wp2
    go_ret
    exact ⟨a1, c1, rfl, hO, (((Below.refl _ _).alloc (Nat.le_refl _) _).grown hg (by simp) (fun k e => by simp [Value.ownBlock] at e; omega))⟩

set_option maxHeartbeats 1000000 in
theorem new_any (w : World) : Calls Try.prog 11 #[] w fun e w' => e = .returned (.pointer (some ⟨w.heap.size, 0, none⟩)) ∧ Blk w' w.heap.size (wds hwords ++ [.slice none 0 0, .int .i64 0]) 46 ∧ Below w.heap.size w w' ∧ w'.heap.size = w.heap.size + 1 := by
  go_enter Try.func11, Try.ntmps11
  go_wp2
  go_ret
  exact ⟨rfl, Blk.new _ _ _, (Below.refl _ _).alloc (Nat.le_refl _) _, by simp⟩

end Go.Proofs.Ytogpecgbgfcdcaa
