/- The contracts of the references' Same, Ins, Del. -/
import Derived.Test.YtdccpnaolcpohaaZ
namespace Go.Proofs.Ytdccpnaolcpohaa
open Go.RowKit

theorem idx_succ (k : Nat) : tab idx (k + 1) = tab idx k ++ [(k : Int)] := by simp [tab, idx, List.range_succ]

set_option maxHeartbeats 4000000 in
theorem rsame_own (w : World) (n : Int) : Calls Try.prog 32 #[.int .i64 n] w (RetOwn w (tab idx (sizeF n)) (sizeF n)) := by
  have hmb : sizeF n ≤ 1048576 := by unfold sizeF; omega
  have H := Lib.hid (show (sizeF n : Int) = max 0 (min n 1048576) by unfold sizeF; omega)
  generalize sizeF n = m at *
  go_enter Try.func32, Try.ntmps32
  go_upto_region 1 with fail
  go_cut [3] (fun s wx => s = .int .i64 m ∧ wx = w.alloc (.cells #[.slice none 0 0, .int .i64 0] 26))
  case first =>
    by_cases h0 : n ≤ 0
    · have h1 : n ≤ 1048576 := by omega
      go_wp2_with fail
      go_meet
      exact ⟨congrArg _ (by have := H.out; omega), rfl⟩
    · by_cases h1 : n ≤ 1048576
      · go_wp2_with fail
        go_meet
        exact ⟨congrArg _ (by have := H.out; omega), rfl⟩
      · go_wp2_with fail
        go_meet
        exact ⟨congrArg _ (by have := H.out; omega), rfl⟩
  case rest =>
    obtain ⟨rfl, rfl⟩ := hcut
    clear H
    go_wp2_with fail
    go_loopg [5] m (fun g c wr => ∃ (k : Nat) (v : Option Addr) (cv : Nat), k ≤ m ∧ g = m - k ∧ c = .int .i64 k ∧ Blk wr w.heap.size [.slice none 0 0, .int .i64 0] 26 ∧
        Blk wr (w.heap.size + 1) [.slice v (tab idx k).length cv, .int .i64 m] 26 ∧ Own wr (w.heap.size + 1 + 1) (.slice v (tab idx k).length cv) (tab idx k) ∧ Below w.heap.size w wr)
    case atStart =>
      refine ⟨0, none, 0, Nat.zero_le _, rfl, rfl, ?_, ?_, ?_, ?_⟩
      · exact (Blk.made rfl _ _).alloc _
      · exact Blk.made (by simp) [.slice none 0 0, .int .i64 m] 26
      · exact Own.nil _ _
      · exact ((Below.refl _ _).alloc (Nat.le_refl _) _).alloc (by simp) _
    case round =>
      obtain ⟨k, v, cv, hk, rfl, rfl, hR, hM, hO, hbel⟩ := hrel
      have HG := Lib.hid (tab_length idx k)
      have HS := Lib.hid (idx_succ k)
      have m0 := hM.cell 0 _ rfl
      by_cases hlt : k < m
      · have hzl : (tab idx k).length ≤ 4294967296 := by have := HG.out; omega
        generalize tab idx k = zs at *
        go_wp2_with (at_builtin; refine append_int rfl _ _ rfl (w.heap.size + 1 + 1) _ zs k wr.heap.size _ rfl rfl (hO.alloc _) ((Blk.made rfl [.int .i64 k] 3).cell 0 _ rfl) (by omega) (by have := hM.lt; simp <;> omega) ?_)
        intro a' c' w2 hO2 hg2
        have hM2 := (hM.alloc (.cells #[.int .i64 k] 3)).grown hg2 (own_ne hO hM (by decide))
        have hR2 := (hR.alloc (.cells #[.int .i64 k] 3)).grown hg2 (own_ne hO hR (by decide))
        have hbl := below_grown (hbel.alloc hbel.size (.cells #[.int .i64 k] 3)) (hO.alloc _) hg2 (by omega) (by have := hM.lt; simp <;> omega)
        have k0 := hM2.cell 0 _ rfl
        have k1 := hM2.free 0
        clear m0
        go_wp2
        go_roundg (m - (k + 1))
        case measure => omega
        case rel =>
          refine ⟨k + 1, a', c', by omega, rfl, by go_num, hR2.set_other (by simp <;> omega) _, ?_, ?_, hbl.setCell (by simp <;> omega) _⟩
          · rw [HS.out, List.length_append, List.length_singleton]; exact hM2.set 0 _
          · rw [HS.out, List.length_append, List.length_singleton]; exact hO2.set_blk hM2 (by decide) 0 _
      · have hkm : k = m := by omega
        have HZ := Lib.hid (show tab idx k = tab idx m by rw [hkm])
        clear hkm
        generalize tab idx k = zs at *
        have m1 := hM.cell 1 _ rfl
        have f0 := hR.free 0
        have f1 := hR.free 1
        have r0 := hR.cell 0 _ rfl
        have r1 := hR.cell 1 _ rfl
        go_wp2
        have hR' := (hR.set 0 (.slice v zs.length cv)).set 1 (.int .i64 m)
        have c0 := hR'.cell 0 _ rfl
        have c1 := hR'.cell 1 _ rfl
        refine bodyPost_ret (v := .agg #[.slice v zs.length cv, .int .i64 m]) (by simp [results, Try.results32, go_sem, c0, c1]) rfl ?_
        rw [← HZ.out]
        exact ⟨_, rfl, ((hO.set (by simp <;> omega) _).set (by simp <;> omega) _).from (by omega), (hbel.setCell (by simp <;> omega) _).setCell (by simp <;> omega) _⟩

theorem RetOwn.map {w : World} {xs : List Int} {new : Int} {e : Ending} {w' : World} (h : RetOwn w xs new e w') : RetMap w xs new e w' := by
  obtain ⟨v, rfl, hO, hb⟩ := h
  obtain ⟨a, c, rfl, hr⟩ := hO.row
  exact ⟨a, c, rfl, hr, hb⟩
theorem rsame_any (w : World) (n : Int) : Calls Try.prog 32 #[.int .i64 n] w (RetMap w (tab idx (sizeF n)) (sizeF n)) := (rsame_own w n).mono fun _ _ h => h.map

theorem tab_set2 (f f' : Nat → Int) (m j : Nat) (x : Int) (h : f' j = x) (ho : ∀ i, i ≠ j → f' i = f i) : (tab f m).set j x = tab f' m := by
  apply List.ext_getElem (by simp [tab])
  intro i h1 h2
  simp only [List.getElem_set, tab, List.getElem_map, List.getElem_range]
  split
  · next e => subst e; exact h.symm
  · next e => exact (ho i (fun e' => e e'.symm)).symm

def insL (p k : Nat) (j : Nat) : Int := if p ≤ j ∧ j < p + k then j + 1 else j
theorem insL_step (p k m : Nat) : (tab (insL p k) m).set (p + k) ((p + k : Nat) + 1 : Int) = tab (insL p (k + 1)) m := by
  refine tab_set2 _ _ _ _ _ ?_ ?_
  · unfold insL; rw [if_pos (by omega)]
  · intro i hi; unfold insL
    by_cases h : p ≤ i ∧ i < p + k
    · rw [if_pos h, if_pos (by omega)]
    · rw [if_neg h, if_neg (by omega)]
theorem insL_zero (p m : Nat) : tab (insL p 0) m = tab idx m := by apply tab_ext; intro j _; unfold insL idx; rw [if_neg (by omega)]
theorem insL_end (p m k : Nat) (hk : k = m - p) : tab (insL p k) m = tab (bhd p) m := by
  apply tab_ext; intro j hj; unfold insL bhd behindF
  by_cases h : p ≤ j ∧ j < p + k
  · rw [if_pos h, if_neg (by omega)]
  · rw [if_neg h, if_pos (by omega)]
theorem insL_at (p k m : Nat) (h : p + k < m) : (tab (insL p k) m).getD (p + k) 0 = ((p + k : Nat) : Int) := by
  rw [tab_getD _ _ _ h]; unfold insL; rw [if_neg (by omega)]

set_option maxHeartbeats 4000000 in
theorem rins_out (w : World) (n at_ : Int) (h : at_ < 0 ∨ at_ > sizeF n) : Calls Try.prog 36 #[.int .i64 n, .int .i64 at_] w (RetMap w (tab idx (sizeF n)) (sizeF n)) := by
  have HC := Lib.hid (fun W => rsame_any W n)
  generalize sizeF n = m at *
  generalize tab idx m = xs at *
  go_enter Try.func36, Try.ntmps36
  go_wp2_with fail
  refine (HC.out _).mono ?_
  rintro e w1 ⟨a, c, rfl, hr, hb⟩
  have hbel := res_below hb
  have hR := (res_blk hb).alloc (.cells #[.slice a xs.length c, .int .i64 m] 26)
  have hM := Blk.made (w := w1) rfl [.slice a xs.length c, .int .i64 m] 26
  have hlt := (res_blk hb).lt
  have hr1 : Row (w.heap.size + 1) _ a xs := (hr.alloc (.cells #[.slice a xs.length c, .int .i64 m] 26)).from (by simp)
  have hb2 := hbel.alloc hbel.size (.cells #[.slice a xs.length c, .int .i64 m] 26)
  go_upto_region 2 with fail
  clear hr hb hbel
  generalize w1.alloc (.cells #[.slice a xs.length c, .int .i64 m] 26) = W at *
  generalize w1.heap.size = M at *
  have m0 := hM.cell 0 _ rfl
  have m1 := hM.cell 1 _ rfl
  have r0 := hR.cell 0 _ rfl
  have r1 := hR.cell 1 _ rfl
  have f0 := hR.free 0
  have f1 := hR.free 1
  have hR' := (hR.set 0 (.slice a xs.length c)).set 1 (.int .i64 m)
  have c0 := hR'.cell 0 _ rfl
  have c1 := hR'.cell 1 _ rfl
  have hne : M ≠ w.heap.size := by omega
  have HEND := Lib.hid (show RetMap w xs m (.returned (.agg #[.slice a xs.length c, .int .i64 m])) ((W.setCell ⟨w.heap.size, 0, none⟩ (.slice a xs.length c)).setCell ⟨w.heap.size, 1, none⟩ (.int .i64 m)) from
    ⟨a, c, rfl, (hr1.set (p := ⟨w.heap.size, 0, none⟩) (by simp) _).set (p := ⟨w.heap.size, 1, none⟩) (by simp) _ |>.from (by omega), (hb2.setCell (Nat.le_refl _) _).setCell (Nat.le_refl _) _⟩)
  clear hr1 hb2
  rcases h with h | h
  · go_wp2_with fail
    exact bodyPost_ret (v := .agg #[.slice a xs.length c, .int .i64 m]) (by simp [results, Try.results36, go_sem, c0, c1]) rfl HEND.out
  · by_cases h0 : at_ < 0
    · omega
    · go_wp2_with fail
      exact bodyPost_ret (v := .agg #[.slice a xs.length c, .int .i64 m]) (by simp [results, Try.results36, go_sem, c0, c1]) rfl HEND.out

end Go.Proofs.Ytdccpnaolcpohaa
