/- The contract of Read, and what a disk that there is not answers. -/
import Derived.Test.YtbnnjiaegoedoaaDE
namespace Go.Proofs.Ytbnnjiaegoedoaa
open Go.RowKit

theorem Bys.of_range {w : World} {b off : Nat} {bs : List UInt8} (h : w.rangeAt b off (byv bs)) (hb : b < w.heap.size) : Bys 0 w (some ⟨b, off, none⟩) bs :=
  .inr ⟨b, off, rfl, Nat.zero_le _, hb, fun j hj => by
    rw [nums_length] at hj
    exact h j _ (by simp [byv, nums, List.getD, hj])⟩

set_option maxHeartbeats 4000000 in
theorem read_any (w : World) (d B : Nat) (l : List Sec) (c : Int) (i : Nat) (s : Sec) (hD : DiskAt w d B l c) (hi : l[i]? = some s) (hl2 : l.length ≤ 24) :
    Calls Try.prog 13 #[.pointer (some ⟨d, 0, none⟩), .int .i64 i] w fun e w' => ∃ a cap, e = .returned (.tuple #[.slice a 64 cap, .int .i64 0]) ∧ OwnB w' w.heap.size (.slice a 64 cap) s.now ∧ Below w.heap.size w w' := by
  have d0 := hD.blk.cell 0 _ rfl
  have d3 := hD.blk.cell 3 _ rfl
  have hil : i < l.length := (List.getElem?_eq_some_iff.1 hi).1
  have hi0 : (0 : Int) ≤ (i : Int) := Int.natCast_nonneg _
  have hi1 : ¬ (i : Int) < 0 := by omega
  have hi2 : (i : Int) < (l.length : Int) := by omega
  have hi3 : ¬ (l.length : Int) ≤ (i : Int) := by omega
  obtain ⟨so, sa1, sa2, sa3⟩ := hD.secs.2 i s hi
  have HB := Bys.of_range sa1 hD.lt
  have HC := clone_any w (some ⟨B, i * 129, none⟩) 64 s.now HB (by rw [so.1]; omega)
  rw [so.1] at HC
  go_enter Try.func13, Try.ntmps13
  go_wp2_with (go_at_call 21; refine HC.mono ?_; rintro e w1 ⟨a1, c1, rfl, hO, hb1⟩)
  refine bodyPost_ret (v := .tuple #[.slice a1 s.now.length c1, .int .i64 0]) (by simp [results, Try.results13, go_sem]) rfl ⟨a1, c1, ?_, ?_, hb1⟩
  · rw [so.1]
  · rw [so.1] at hO; exact hO

theorem nil_fall (w : World) (v : Value) (hv : v = .agg #[.int .i64 0, .int .i64 0, .slice none 0 0]) : Calls Try.prog 11 #[.pointer none, v] w fun e w' => e = .returned (.tuple #[]) ∧ Below w.heap.size w w' := by
  subst hv
  go_enter Try.func11, Try.ntmps11
  go_wp2
  refine bodyPost_ret (results_none rfl _ _ _) rfl ?_
  exact ⟨rfl, (Below.refl _ _).alloc (Nat.le_refl _) _⟩
theorem nil_read (w : World) (x : Int) : Calls Try.prog 13 #[.pointer none, .int .i64 x] w fun e w' => e = .returned (.tuple #[.slice none 0 0, .int .i64 2]) ∧ w = w' := by
  go_enter Try.func13, Try.ntmps13
  go_wp2
  exact bodyPost_ret (v := .tuple #[.slice none 0 0, .int .i64 2]) (by simp [results, Try.results13, go_sem]) rfl ⟨rfl, rfl⟩
theorem nil_write (w : World) (x : Int) (v : Value) (a : Option Addr) (n m : Nat) (hv : v = .slice a n m) : Calls Try.prog 7 #[.pointer none, .int .i64 x, v] w fun e w' => e = .returned (.int .i64 2) ∧ Below w.heap.size w w' := by
  subst hv
  go_enter Try.func7, Try.ntmps7
  go_wp2
  go_ret
  exact ⟨rfl, (((Below.refl _ _).alloc (Nat.le_refl _) _).alloc (by simp) _).alloc (by simp; omega) _⟩
theorem nil_sync (w : World) : Calls Try.prog 9 #[.pointer none] w fun e w' => e = .returned (.int .i64 2) ∧ w = w' := by
  go_enter Try.func9, Try.ntmps9
  go_wp2
  go_ret
  exact ⟨rfl, rfl⟩
theorem nil_sectors (w : World) : Calls Try.prog 14 #[.pointer none] w fun e w' => e = .returned (.int .i64 0) ∧ w = w' := by
  go_enter Try.func14, Try.ntmps14
  go_wp2
  go_ret
  exact ⟨rfl, rfl⟩
theorem nil_down (w : World) : Calls Try.prog 15 #[.pointer none] w fun e w' => e = .returned (.bool false) ∧ w = w' := by
  go_enter Try.func15, Try.ntmps15
  go_wp2
  go_ret
  exact ⟨rfl, rfl⟩
theorem nil_calls (w : World) : Calls Try.prog 16 #[.pointer none] w fun e w' => e = .returned (.int .i64 0) ∧ w = w' := by
  go_enter Try.func16, Try.ntmps16
  go_wp2
  go_ret
  exact ⟨rfl, rfl⟩
theorem nil_loose (w : World) : Calls Try.prog 10 #[.pointer none] w fun e w' => e = .returned (.int .i64 0) ∧ w = w' := by
  go_enter Try.func10, Try.ntmps10
  go_wp2
  go_ret
  exact ⟨rfl, rfl⟩
theorem nil_copy (w : World) : Calls Try.prog 17 #[.pointer none] w fun e w' => e = .returned (.pointer none) ∧ w = w' := by
  go_enter Try.func17, Try.ntmps17
  go_wp2
  go_ret
  exact ⟨rfl, rfl⟩
end Go.Proofs.Ytbnnjiaegoedoaa
