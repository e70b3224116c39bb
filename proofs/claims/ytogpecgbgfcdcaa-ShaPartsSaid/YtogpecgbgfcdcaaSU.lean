/- A hash of what was written so far, in memory: Write and Sum told of the whole (for ShaParts). -/
import Derived.Test.YtogpecgbgfcdcaaSK
namespace Go.Proofs.Ytogpecgbgfcdcaa
open Go.RowKit

theorem absk_prefix (hs : List Nat) (a p : List UInt8) : ∀ k, 64 * k ≤ a.length → absk hs (a ++ p) k = absk hs a k := by
  intro k
  induction k with
  | zero => intro _; rfl
  | succ k ih =>
    intro hk
    rw [absk, absk, ih (by omega), List.drop_append_of_le_length (by omega), List.take_append_of_le_length (by rw [List.length_drop]; omega)]
theorem absk_more (hs : List Nat) (a p : List UInt8) (q : Nat) (hq : 64 * q ≤ a.length) : ∀ k, absk (absk hs a q) (a.drop (64 * q) ++ p) k = absk hs (a ++ p) (q + k) := by
  intro k
  induction k with
  | zero => exact (absk_prefix hs a p q hq).symm
  | succ k ih =>
    rw [absk, ih, show q + (k + 1) = (q + k) + 1 from rfl, absk, show 64 * (q + k) = 64 * q + 64 * k by omega, ← List.drop_drop, List.drop_append_of_le_length hq]

theorem parts_hs (all bs : List UInt8) :
    absk (absk hwords all (all.length / 64)) (all.drop (64 * (all.length / 64)) ++ bs) ((all.drop (64 * (all.length / 64)) ++ bs).length / 64) = absk hwords (all ++ bs) ((all ++ bs).length / 64) := by
  rw [absk_more hwords all bs _ (by omega)]
  congr 1
  rw [List.length_append, List.length_append, List.length_drop]
  omega
theorem parts_rest (all bs : List UInt8) :
    (all.drop (64 * (all.length / 64)) ++ bs).drop (64 * ((all.drop (64 * (all.length / 64)) ++ bs).length / 64)) = (all ++ bs).drop (64 * ((all ++ bs).length / 64)) := by
  rw [← List.drop_append_of_le_length (l₂ := bs) (show 64 * (all.length / 64) ≤ all.length by omega), List.drop_drop]
  congr 1
  rw [List.length_drop, List.length_append]
  omega
theorem hwords32 : w32 hwords := fun i => by
  by_cases h : i < 8
  · exact (by decide +kernel : ∀ i, i < 8 → hwords.getD i 0 < 4294967296) i h
  · rw [List.getD, List.getElem?_eq_none (by show 8 ≤ i; omega)]; decide

/-- At block p lies the hash of these bytes; its rest is the value v, of the call's own from block C on. -/
def HashIs (w : World) (p C : Nat) (v : Value) (all : List UInt8) : Prop :=
  Blk w p (wds (absk hwords all (all.length / 64)) ++ [v, .int .i64 ((all.length : Nat) : Int)]) 46 ∧ OwnB w C v (all.drop (64 * (all.length / 64)))

theorem hash_new {w : World} {p : Nat} (h : Blk w p (wds hwords ++ [.slice none 0 0, .int .i64 0]) 46) (C : Nat) : HashIs w p C (.slice none 0 0) [] := ⟨h, OwnB.nil _ _⟩

theorem hash_write (w : World) (p C : Nat) (hC : C ≤ w.heap.size) (v : Value) (all bs : List UInt8) (a : Option Addr) (cap : Nat) (h : HashIs w p C v all) (hb : Bys 0 w a bs)
    (hbp : ∀ x, a = some x → bs = [] ∨ x.block ≠ p) (hbv : ∀ x, a = some x → bs = [] ∨ v.ownBlock ≠ some x.block) (hcap : a = none → cap = 0) (hl : all.length + bs.length ≤ 1073741824) :
    Calls Try.prog 12 #[.pointer (some ⟨p, 0, none⟩), .slice a bs.length cap] w fun e w' => ∃ v', e = .returned (.tuple #[]) ∧ HashIs w' p w.heap.size v' (all ++ bs) ∧ Two p v.ownBlock w.heap.size w w' := by
  refine (write_any w p C hC _ v all.length _ bs a cap h.1 (absk_length _ _ rfl _) (absk_lt _ _ hwords32 _) h.2 hb hbp hbv hcap (by rw [List.length_drop]; omega) (by omega)).mono ?_
  rintro e w' ⟨a', c', rfl, h1, h2, h3⟩
  rw [parts_hs] at h1
  rw [parts_rest] at h2
  refine ⟨_, rfl, ⟨?_, h2⟩, h3⟩
  rw [List.length_append, Int.natCast_add, ← List.length_append]
  exact h1
theorem hash_sum (w : World) (p : Nat) (v : Value) (all : List UInt8) (C : Nat) (hC : p < C) (h : HashIs w p C v all) (hl : all.length ≤ 1073741824) :
    Calls Try.prog 13 #[.pointer (some ⟨p, 0, none⟩)] w fun e w' => e = .returned (str (shaF all)) ∧ Below w.heap.size w w' :=
  sum_any w p _ v all.length _ h.1 (absk_length _ _ rfl _) (absk_lt _ _ hwords32 _) (h.2.from hC) (by rw [List.length_drop]; omega) (by omega)

end Go.Proofs.Ytogpecgbgfcdcaa
