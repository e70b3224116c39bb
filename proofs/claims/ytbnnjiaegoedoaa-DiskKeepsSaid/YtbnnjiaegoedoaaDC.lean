/- The contract of New. -/
import Derived.Test.YtbnnjiaegoedoaaDB
namespace Go.Proofs.Ytbnnjiaegoedoaa
open Go.RowKit

theorem bel_alloc {W w : World} (h : Below W.heap.size W w) (o : Obj) : Below W.heap.size W (w.alloc o) := h.alloc h.size o

set_option maxHeartbeats 2000000 in
theorem new_any (w : World) (n : Nat) (hn : n ≤ 24) (hp : 0 < n) : Calls Try.prog 6 #[.agg #[.int .i64 n, .int .i64 0, .slice none 0 0]] w fun e w' => ∃ d B, e = .returned (.pointer (some ⟨d, 0, none⟩)) ∧
    DiskAt w' d B (List.replicate n Sec.zero) 0 ∧ Below w.heap.size w w' ∧ w.heap.size ≤ d ∧ w.heap.size ≤ B := by
  obtain ⟨i0, hi, hz, hs, hb⟩ := info_parts Try.info47
  have hmk : ∀ w : World, (Instr.makeSlice 41 (.int .i64 n) (.int .i64 n)).run Try.prog w = .ok (.slice (some ⟨w.heap.size, 0, none⟩) n n) (w.alloc (.cells (madeCells zeroCells (n * 129)) 47)) := fun w => by
    have := run_make (P := Try.prog) w 41 47 i0 (.agg zeroCells) Try.underlying41 hi hz .i64 .i64 n n (by omega) (by omega) (by rw [hb]; omega) (by omega)
    rw [hs] at this; exact this
  clear hi hz hs hb
  have n0 : (0 : Int) < (n : Int) := by omega
  have n1 : ¬ (16384 : Int) < (n : Int) := by omega
  go_enter Try.func6, Try.ntmps6
  go_wp2_with fail
  generalize hW : w.alloc (.cells #[.int .i64 n, .int .i64 0, .slice none 0 0] 28) = W
  have hWs : W.heap.size = w.heap.size + 1 := by subst hW; simp
  have HK : Hid (∀ w', Below W.heap.size W w' → Below W.heap.size W w' ∧ w'.cell? ⟨w.heap.size, 0, none⟩ = some (.int .i64 n) ∧ w'.cell? ⟨w.heap.size, 1, none⟩ = some (.int .i64 0)) := fun w' h => by
    refine ⟨h, ?_, ?_⟩
    · rw [h.cell (p := ⟨w.heap.size, 0, none⟩) (by show w.heap.size < _; omega)]; subst hW; rw [World.cell?_alloc_new]; rfl
    · rw [h.cell (p := ⟨w.heap.size, 1, none⟩) (by show w.heap.size < _; omega)]; subst hW; rw [World.cell?_alloc_new]; rfl
  have hd := (Below.refl W.heap.size W).drew
  go_region_held3 (fun w' => Below W.heap.size W w' ∧ w'.cell? ⟨w.heap.size, 0, none⟩ = some (.int .i64 n) ∧ w'.cell? ⟨w.heap.size, 1, none⟩ = some (.int .i64 0))
    (((refine HK.out _ ?_); (repeat (first
       | with_reducible exact hd
       | with_reducible exact Below.refl _ _
       | with_reducible refine Below.drew ?_
       | with_reducible refine bel_alloc ?_ _)))) (fail)
  go_wp2
  go_ret
  have hS := Secs.made W n
  have hb1 := (Below.refl (W.alloc (.cells (madeCells zeroCells (n * 129)) 47)).heap.size (W.alloc (.cells (madeCells zeroCells (n * 129)) 47))).alloc (Nat.le_refl _) (.cells #[Value.slice (some ⟨w.heap.size + 1, 0, none⟩) n n, Value.int .i64 0, Value.int .i64 0, Value.bool false] 43)
  have hS2 := (hS.keep hb1 (by simp)).drew
  rw [hWs] at hS2
  refine ⟨w.heap.size + 1 + 1, w.heap.size + 1, rfl, ⟨?_, hS2, by omega, ?_⟩, ?_, by omega, by omega⟩
  · rw [List.length_replicate]
    exact (Blk.made (by simp; omega) [Value.slice (some ⟨w.heap.size + 1, 0, none⟩) n n, Value.int .i64 0, Value.int .i64 0, Value.bool false] 43).drew
  · show w.heap.size + 1 < (World.alloc _ _).heap.size
    simp; omega
  · subst hW
    exact ((((Below.refl w.heap.size w).alloc (Nat.le_refl _) _).alloc (by simp) _).alloc (by simp; omega) _).drew
end Go.Proofs.Ytbnnjiaegoedoaa
