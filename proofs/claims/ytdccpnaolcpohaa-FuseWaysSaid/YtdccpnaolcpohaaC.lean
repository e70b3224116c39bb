/- The contracts of maps.Same, Ins, Del: what made makes of a function of places. -/
import Derived.Test.YtdccpnaolcpohaaB
namespace Go.Proofs.Ytdccpnaolcpohaa
open Go.RowKit

theorem sizeF_le (n : Int) : sizeF n ≤ 1048576 := by unfold sizeF; omega

theorem cf44 (args : Array Value) (W : World) : Sem.run Try.prog (callFunc 44 args) W = .ok (.enter 44 args) W := by simp [go_sem]
theorem cf41 (args : Array Value) (W : World) : Sem.run Try.prog (callFunc 41 args) W = .ok (.enter 41 args) W := by simp [go_sem]

set_option maxHeartbeats 400000 in
theorem same1_any (w : World) (i : Int) : Calls Try.prog 44 #[.int .i64 i] w fun e w' => e = .returned (.int .i64 i) ∧ Below w.heap.size w w' := by
  go_enter Try.func44, Try.ntmps44
  go_wp2
  go_ret
  exact ⟨rfl, Below.refl _ _⟩

def behindF (p i : Int) : Int := if i < p then i else i + 1
def aheadF (p i : Int) : Int := if i < p then i else if i = p then -1 else i - 1

set_option maxHeartbeats 400000 in
theorem behind_any (w : World) (p i : Int) (h : i ≤ 4294967296) (h0 : 0 ≤ i) : Calls Try.prog 41 #[.int .i64 p, .int .i64 i] w fun e w' => e = .returned (.int .i64 (behindF p i)) ∧ Below w.heap.size w w' := by
  by_cases hp : i < p
  · have HR := Lib.hid (show behindF p i = i from if_pos hp)
    go_enter Try.func41, Try.ntmps41
    go_wp2
    go_ret
    exact ⟨ret_int HR.out.symm, Below.refl _ _⟩
  · have HR := Lib.hid (show behindF p i = i + 1 from if_neg hp)
    go_enter Try.func41, Try.ntmps41
    go_wp2
    go_ret
    exact ⟨ret_int HR.out.symm, Below.refl _ _⟩

set_option maxHeartbeats 400000 in
theorem ahead_any (w : World) (p i : Int) (h : i ≤ 4294967296) (h0 : 0 ≤ i) : Calls Try.prog 42 #[.int .i64 p, .int .i64 i] w fun e w' => e = .returned (.int .i64 (aheadF p i)) ∧ Below w.heap.size w w' := by
  by_cases hp : i < p
  · have HR := Lib.hid (show aheadF p i = i from if_pos hp)
    go_enter Try.func42, Try.ntmps42
    go_wp2
    go_ret
    exact ⟨ret_int HR.out.symm, Below.refl _ _⟩
  · by_cases he : i = p
    · have HR := Lib.hid (show aheadF p i = -1 by rw [aheadF, if_neg hp, if_pos he])
      subst he
      go_enter Try.func42, Try.ntmps42
      go_wp2
      go_ret
      exact ⟨ret_int HR.out.symm, Below.refl _ _⟩
    · have HR := Lib.hid (show aheadF p i = i - 1 by rw [aheadF, if_neg hp, if_neg he])
      go_enter Try.func42, Try.ntmps42
      go_wp2
      go_ret
      exact ⟨ret_int HR.out.symm, Below.refl _ _⟩

def idx (i : Nat) : Int := i

/-- A result's own block, still there behind a callee. -/
theorem res_blk {w w1 : World} (hb : Below (w.alloc (.cells #[.slice none 0 0, .int .i64 0] 26)).heap.size (w.alloc (.cells #[.slice none 0 0, .int .i64 0] 26)) w1) : Blk w1 w.heap.size [.slice none 0 0, .int .i64 0] 26 :=
  (Blk.made rfl [.slice none 0 0, .int .i64 0] 26).below hb (by simp)

theorem res_below {w w1 : World} {o : Obj} (hb : Below (w.alloc o).heap.size (w.alloc o) w1) : Below w.heap.size w w1 :=
  ((Below.refl _ _).alloc (Nat.le_refl _) _).trans (hb.mono (by simp))

/-- The end of a function that answers a map that a callee made. -/
theorem res_end {w w1 : World} {a : Option Addr} {cap : Nat} {xs : List Int} {new : Int}
    (hb : Below (w.alloc (.cells #[.slice none 0 0, .int .i64 0] 26)).heap.size (w.alloc (.cells #[.slice none 0 0, .int .i64 0] 26)) w1)
    (hR : Row (w.alloc (.cells #[.slice none 0 0, .int .i64 0] 26)).heap.size w1 a xs) :
    RetMap w xs new (.returned (.agg #[.slice a xs.length cap, .int .i64 new])) ((w1.setCell ⟨w.heap.size, 0, none⟩ (.slice a xs.length cap)).setCell ⟨w.heap.size, 1, none⟩ (.int .i64 new)) :=
  ⟨a, cap, rfl, ((hR.set (by simp) _).set (by simp) _).from (by simp), ((res_below hb).setCell (Nat.le_refl _) _).setCell (Nat.le_refl _) _⟩

theorem res_cells {w w1 : World} {a : Option Addr} {len cap : Nat} {new : Int}
    (hb : Below (w.alloc (.cells #[.slice none 0 0, .int .i64 0] 26)).heap.size (w.alloc (.cells #[.slice none 0 0, .int .i64 0] 26)) w1) :
    ((w1.setCell ⟨w.heap.size, 0, none⟩ (.slice a len cap)).setCell ⟨w.heap.size, 1, none⟩ (.int .i64 new)).cell? ⟨w.heap.size, 0, none⟩ = some (.slice a len cap) ∧
    ((w1.setCell ⟨w.heap.size, 0, none⟩ (.slice a len cap)).setCell ⟨w.heap.size, 1, none⟩ (.int .i64 new)).cell? ⟨w.heap.size, 1, none⟩ = some (.int .i64 new) := by
  have hB := ((res_blk hb).set 0 (.slice a len cap)).set 1 (.int .i64 new)
  exact ⟨hB.cell 0 _ rfl, hB.cell 1 _ rfl⟩

set_option maxHeartbeats 400000 in
theorem same_any (w : World) (n : Int) : Calls Try.prog 21 #[.int .i64 n] w (RetMap w (tab idx (sizeF n)) (sizeF n)) := by
  have hs := sizeF_le n
  go_enter Try.func21, Try.ntmps21
  go_wp2_with (go_at_call 40; refine (size_any _ _).mono ?_; rintro e w1 ⟨rfl, rfl⟩)
  refine (made_any _ (sizeF n) _ 44 #[] #[] idx (by omega) cf44 (fun i W _ _ => same1_any W i)).mono ?_
  rintro e w1 ⟨a, cap, rfl, hR, hb⟩
  have hB := res_blk hb
  have hr0 := hB.cell 0 _ rfl
  have hr1 := hB.cell 1 _ rfl
  have hf0 := hB.free 0
  have hf1 := hB.free 1
  go_wp2
  obtain ⟨c0, c1⟩ := res_cells (a := a) (len := (tab idx (sizeF n)).length) (cap := cap) (new := sizeF n) hb
  exact bodyPost_ret (by simp [results, Try.results21, go_sem, c0, c1]) rfl (res_end hb hR)

set_option maxHeartbeats 400000 in
theorem ins_in (w : World) (n at_ : Int) (h0 : 0 ≤ at_) (h1 : at_ ≤ sizeF n) : Calls Try.prog 18 #[.int .i64 n, .int .i64 at_] w (RetMap w (tab (fun i => behindF at_ i) (sizeF n)) (sizeF n + 1)) := by
  have hs := sizeF_le n
  go_enter Try.func18, Try.ntmps18
  go_wp2_with (go_at_call 40; refine (size_any _ _).mono ?_; rintro e w1 ⟨rfl, rfl⟩)
  refine (made_any _ (sizeF n) _ 41 #[.int .i64 at_] #[] (fun i => behindF at_ i) (by omega) cf41 (fun i W _ _ => behind_any W at_ i (by omega) (by omega))).mono ?_
  rintro e w1 ⟨a, cap, rfl, hR, hb⟩
  have hB := res_blk hb
  have hr0 := hB.cell 0 _ rfl
  have hr1 := hB.cell 1 _ rfl
  have hf0 := hB.free 0
  have hf1 := hB.free 1
  go_wp2
  obtain ⟨c0, c1⟩ := res_cells (a := a) (len := (tab (fun i => behindF at_ i) (sizeF n)).length) (cap := cap) (new := sizeF n + 1) hb
  exact bodyPost_ret (by simp [results, Try.results18, go_sem, c0, c1]) rfl (res_end hb hR)

set_option maxHeartbeats 400000 in
theorem ins_out (w : World) (n at_ : Int) (h : at_ < 0 ∨ at_ > sizeF n) : Calls Try.prog 18 #[.int .i64 n, .int .i64 at_] w (RetMap w (tab idx (sizeF n)) (sizeF n)) := by
  have hs := sizeF_le n
  have hss : sizeF (sizeF n) = sizeF n := by unfold sizeF; omega
  have fin : ∀ e w1, RetMap (w.alloc (.cells #[.slice none 0 0, .int .i64 0] 26)) (tab idx (sizeF (sizeF n))) (sizeF (sizeF n)) e w1 → RetMap (w.alloc (.cells #[.slice none 0 0, .int .i64 0] 26)) (tab idx (sizeF n)) (sizeF n) e w1 := by rw [hss]; exact fun _ _ h => h
  clear hss
  have FIN := Lib.hid fin
  clear fin
  rcases h with h | h
  all_goals
    go_enter Try.func18, Try.ntmps18
    go_wp2_with (go_at_call 40; refine (size_any _ _).mono ?_; rintro e w1 ⟨rfl, rfl⟩)
    refine (same_any _ (sizeF n)).mono ?_
    intro e w1 hr
    obtain ⟨a, cap, rfl, hR, hb⟩ := FIN.out e w1 hr
    clear hr
    have hB := res_blk hb
    have hr0 := hB.cell 0 _ rfl
    have hr1 := hB.cell 1 _ rfl
    have hf0 := hB.free 0
    have hf1 := hB.free 1
    go_wp2
    obtain ⟨c0, c1⟩ := res_cells (a := a) (len := (tab idx (sizeF n)).length) (cap := cap) (new := sizeF n) hb
    exact bodyPost_ret (by simp [results, Try.results18, go_sem, c0, c1]) rfl (res_end hb hR)
end Go.Proofs.Ytdccpnaolcpohaa
