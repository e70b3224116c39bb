/- A large region of FuseWays that only reads: whatever order it draws, it goes as the text does. (The kit's own check of it, in one piece, takes some 10 GB: here it is cut into parts.) -/
import Derived.Test.YtdccpnaolcpohaaA
import Derived.BigQuiet
import Derived.Deep.QuietTactic
namespace Go.Proofs.Ytdccpnaolcpohaa

def findR (n : Nat) : Code → Option (Array Oper)
  | .region k ops _ => if k = n then some ops else none
  | .seq a b => match findR n a with | some r => some r | none => findR n b
  | .cond _ a b => match findR n a with | some r => some r | none => findR n b
  | .block _ a => findR n a
  | .loop a => findR n a
  | _ => none
noncomputable def R11 : Array Oper := (Try.f9.body.bind (findR 11)).getD #[]
def upTo (n k : Nat) : Array Bool := (List.replicate k true ++ List.replicate (n - k) false).toArray
theorem upTo_zero (n : Nat) : upTo n 0 = Array.replicate n false := by simp [upTo]
theorem upTo_set (n k : Nat) (h : k < n) : (upTo n k).setIfInBounds k true = upTo n (k + 1) := by
  apply Array.ext'
  apply List.ext_getElem?
  intro i
  simp only [upTo, Array.toList_setIfInBounds, List.getElem?_set, List.getElem?_append, List.length_replicate, List.length_append, List.getElem?_replicate]
  by_cases h1 : k = i
  · subst h1
    simp [show k < k + (n - k) by omega]
  · rw [if_neg h1]
    by_cases h2 : i < k
    · simp [h2, show i < k + 1 by omega]
    · have h4 : ¬ i < k + 1 := by omega
      by_cases h3 : i < n
      · simp [h2, h4, show i - k < n - k by omega, show i - (k + 1) < n - (k + 1) by omega]
      · simp [h2, h4, show ¬ i - k < n - k by omega, show ¬ i - (k + 1) < n - (k + 1) by omega]
def okAt (ops : Array Oper) (n k : Nat) : Bool := (Region.ready .any ops (upTo n k)).contains k && Region.free .any ops (upTo n k) k
theorem lex_from (ops : Array Oper) (n : Nat) (h : ∀ k, k < n → okAt ops n k = true) (he : (Region.ready .any ops (upTo n n)).isEmpty = true) :
    ∀ d k, k + d = n → Region.lexFrom .any ops d k (upTo n k) = true := by
  intro d
  induction d with
  | zero =>
    intro k hk
    have : k = n := by omega
    rw [this, Region.lexFrom]
    exact he
  | succ d ih =>
    intro k hk
    have h1 := h k (by omega)
    simp only [okAt, Bool.and_eq_true] at h1
    rw [Region.lexFrom, h1.1, h1.2, upTo_set n k (by omega), ih (k + 1) (by omega)]
    rfl
theorem lex_of (ops : Array Oper) (n : Nat) (hn : ops.size = n) (hs : Region.noSelect ops = true) (h : ∀ k, k < n → okAt ops n k = true) (he : (Region.ready .any ops (upTo n n)).isEmpty = true) :
    Region.lexB .any ops = true := by
  unfold Region.lexB
  rw [hs, hn, ← upTo_zero, lex_from ops n h he n 0 (by omega)]
  rfl
theorem all_range {f : Nat → Bool} {a b : Nat} (h : (List.range' a b).all f = true) (k : Nat) (h1 : a ≤ k) (h2 : k < a + b) : f k = true := by
  rw [List.all_eq_true] at h
  exact h k (List.mem_range'_1.2 ⟨h1, h2⟩)

set_option maxRecDepth 1000000
theorem s11 : R11.size = 93 := by kernel_rfl
theorem n11 : Region.noSelect R11 = true := by kernel_rfl
theorem e11 : (Region.ready .any R11 (upTo 93 93)).isEmpty = true := by kernel_rfl
theorem g0 : (List.range' 0 10).all (okAt R11 93) = true := by kernel_rfl
theorem g1 : (List.range' 10 10).all (okAt R11 93) = true := by kernel_rfl
theorem g2 : (List.range' 20 10).all (okAt R11 93) = true := by kernel_rfl
theorem g3 : (List.range' 30 10).all (okAt R11 93) = true := by kernel_rfl
theorem g4 : (List.range' 40 10).all (okAt R11 93) = true := by kernel_rfl
theorem g5 : (List.range' 50 10).all (okAt R11 93) = true := by kernel_rfl
theorem g6 : (List.range' 60 10).all (okAt R11 93) = true := by kernel_rfl
theorem g7 : (List.range' 70 10).all (okAt R11 93) = true := by kernel_rfl
theorem g8 : (List.range' 80 13).all (okAt R11 93) = true := by kernel_rfl
theorem lex11 : Region.lexB .any R11 = true := by
  refine lex_of R11 93 s11 n11 (fun k hk => ?_) e11
  by_cases h0 : k < 10
  · exact all_range g0 k (by omega) (by omega)
  by_cases h1 : k < 20
  · exact all_range g1 k (by omega) (by omega)
  by_cases h2 : k < 30
  · exact all_range g2 k (by omega) (by omega)
  by_cases h3 : k < 40
  · exact all_range g3 k (by omega) (by omega)
  by_cases h4 : k < 50
  · exact all_range g4 k (by omega) (by omega)
  by_cases h5 : k < 60
  · exact all_range g5 k (by omega) (by omega)
  by_cases h6 : k < 70
  · exact all_range g6 k (by omega) (by omega)
  by_cases h7 : k < 80
  · exact all_range g7 k (by omega) (by omega)
  exact all_range g8 k (by omega) (by omega)

end Go.Proofs.Ytdccpnaolcpohaa
