/- The contracts of the references' Ins, Del, where they do something. -/
import Derived.Test.YtdccpnaolcpohaaAA
namespace Go.Proofs.Ytdccpnaolcpohaa
open Go.RowKit

set_option maxHeartbeats 4000000 in
theorem rdel_out (w : World) (n at_ : Int) (h : at_ < 0 ∨ at_ ≥ sizeF n) : Calls Try.prog 37 #[.int .i64 n, .int .i64 at_] w (RetMap w (tab idx (sizeF n)) (sizeF n)) := by
  have HC := Lib.hid (fun W => rsame_any W n)
  generalize sizeF n = m at *
  generalize tab idx m = xs at *
  go_enter Try.func37, Try.ntmps37
  go_wp2_with fail
  refine (HC.out _).mono ?_
  rintro e w1 ⟨a, c, rfl, hr, hb⟩
  have hbel := res_below hb
  have hR := (res_blk hb).alloc (.cells #[.slice a xs.length c, .int .i64 m] 26)
  have hM := Blk.made (w := w1) rfl [.slice a xs.length c, .int .i64 m] 26
  have hlt := (res_blk hb).lt
  have hr1 : Row (w.heap.size + 1) _ a xs := (hr.alloc (.cells #[.slice a xs.length c, .int .i64 m] 26)).from (by simp)
  have hb2 := hbel.alloc hbel.size (.cells #[.slice a xs.length c, .int .i64 m] 26)
  go_upto_region 2 with fail
  clear hr hb hbel
  generalize w1.alloc (.cells #[.slice a xs.length c, .int .i64 m] 26) = W at *
  generalize w1.heap.size = M at *
  have m0 := hM.cell 0 _ rfl
  have m1 := hM.cell 1 _ rfl
  have r0 := hR.cell 0 _ rfl
  have r1 := hR.cell 1 _ rfl
  have f0 := hR.free 0
  have f1 := hR.free 1
  have hR' := (hR.set 0 (.slice a xs.length c)).set 1 (.int .i64 m)
  have c0 := hR'.cell 0 _ rfl
  have c1 := hR'.cell 1 _ rfl
  have hne : M ≠ w.heap.size := by omega
  have HEND := Lib.hid (show RetMap w xs m (.returned (.agg #[.slice a xs.length c, .int .i64 m])) ((W.setCell ⟨w.heap.size, 0, none⟩ (.slice a xs.length c)).setCell ⟨w.heap.size, 1, none⟩ (.int .i64 m)) from
    ⟨a, c, rfl, (hr1.set (p := ⟨w.heap.size, 0, none⟩) (by simp) _).set (p := ⟨w.heap.size, 1, none⟩) (by simp) _ |>.from (by omega), (hb2.setCell (Nat.le_refl _) _).setCell (Nat.le_refl _) _⟩)
  clear hr1 hb2
  rcases h with h | h
  · go_wp2_with fail
    exact bodyPost_ret (v := .agg #[.slice a xs.length c, .int .i64 m]) (by simp [results, Try.results37, go_sem, c0, c1]) rfl HEND.out
  · by_cases h0 : at_ < 0
    · omega
    · go_wp2_with fail
      exact bodyPost_ret (v := .agg #[.slice a xs.length c, .int .i64 m]) (by simp [results, Try.results37, go_sem, c0, c1]) rfl HEND.out

set_option maxHeartbeats 4000000 in
theorem rins_in (w : World) (n : Int) (p : Nat) (hp : p ≤ sizeF n) : Calls Try.prog 36 #[.int .i64 n, .int .i64 p] w (RetMap w (tab (bhd p) (sizeF n)) (sizeF n + 1)) := by
  have hmb : sizeF n ≤ 1048576 := by unfold sizeF; omega
  have HC := Lib.hid (fun W => rsame_own W n)
  generalize sizeF n = m at *
  go_enter Try.func36, Try.ntmps36
  go_wp2_with fail
  refine (HC.out _).mono ?_
  rintro e w1 ⟨v, rfl, hO, hb⟩
  obtain ⟨a, c, rfl, -⟩ := hO.row
  rw [tab_length] at hO
  rw [tab_length]
  have hbel := res_below hb
  have hlt := (res_blk hb).lt
  have hR := (res_blk hb).alloc (.cells #[.slice a m c, .int .i64 m] 26)
  have hM := Blk.made (w := w1) rfl [.slice a m c, .int .i64 m] 26
  have hO1 : Own _ (w.heap.size + 1) (.slice a m c) (tab idx m) := (hO.alloc (.cells #[.slice a m c, .int .i64 m] 26)).from (by simp)
  have hb2 := hbel.alloc hbel.size (.cells #[.slice a m c, .int .i64 m] 26)
  go_upto_region 2 with fail
  clear hO hb hbel HC
  generalize w1.alloc (.cells #[.slice a m c, .int .i64 m] 26) = W at *
  generalize w1.heap.size = M at *
  have m0 := hM.cell 0 _ rfl
  have m1 := hM.cell 1 _ rfl
  have f1 := hM.free 1
  have hne : M ≠ w.heap.size := by omega
  have hp0 : ¬ ((p : Int) < 0) := by omega
  have hp1 : ¬ ((p : Int) > (m : Int)) := by omega
  go_upto_region 5 with fail
  have hM2 := hM.set 1 (.int .i64 ((m : Int) + 1))
  have hR2 := hR.set_other (a := ⟨M, 1, none⟩) hne (.int .i64 ((m : Int) + 1))
  have hO2 := hO1.set_blk hM (by decide) 1 (.int .i64 ((m : Int) + 1))
  have hb3 := hb2.setCell (p := ⟨M, 1, none⟩) (by show w.heap.size ≤ M; omega) (.int .i64 ((m : Int) + 1))
  clear hM hR hO1 hb2 m0 m1 f1
  simp only [List.set_cons_succ, List.set_cons_zero] at hM2
  generalize W.setCell ⟨M, 1, none⟩ (.int .i64 ((m : Int) + 1)) = W2 at *
  go_wp2_with fail
  go_loopg [6] (m - p) (fun G vi wr => ∃ k : Nat, k ≤ m - p ∧ G = m - p - k ∧ vi = .int .i64 ((p + k : Nat) : Int) ∧ Blk wr w.heap.size [.slice none 0 0, .int .i64 0] 26 ∧ Blk wr M [.slice a m c, .int .i64 ((m : Int) + 1)] 26 ∧
      Own wr (w.heap.size + 1) (.slice a m c) (tab (insL p k) m) ∧ Below w.heap.size w wr)
  case atStart => exact ⟨0, Nat.zero_le _, rfl, rfl, hR2, hM2, by rw [insL_zero]; exact hO2, hb3⟩
  case round =>
    clear hR2 hM2 hO2 hb3
    obtain ⟨k, hk, rfl, rfl, hR, hM, hO, hbel⟩ := hrel
    have m0 := hM.cell 0 _ rfl
    have HST := Lib.hid (insL_step p k m)
    have HEN := Lib.hid (insL_end p m k)
    have HAT := Lib.hid (insL_at p k m)
    have HLN := Lib.hid (tab_length (insL p k) m)
    by_cases hlt2 : p + k < m
    · obtain ⟨g, cv, e, hBg, hgl, hgf, hgc⟩ := hO.place (by rw [HLN.out]; omega)
      simp only [Value.slice.injEq] at e
      obtain ⟨rfl, -, rfl⟩ := e
      have hcg := hgc (p + k) (by rw [HLN.out]; exact hlt2)
      rw [HAT.out hlt2] at hcg
      have hfg := hgf (p + k)
      clear hgc hgf
      generalize hq : p + k = q at *
      have HQ := Lib.hid hq
      clear hq
      have HO := Lib.hid hO
      have hgM : g ≠ M := by
        intro e
        obtain ⟨_, ⟨e', _⟩ | ⟨g', cap, cur, e', _, hh, _⟩⟩ := hO
        · simp at e'
        · simp at e'
          obtain ⟨rfl, _⟩ := e'
          subst e
          have h2 := hM
          unfold Blk at h2
          rw [h2] at hh
          simp at hh
      clear hO
      have hqm : (q : Int) < (m : Int) := by omega
      have hqb : q ≤ 1048576 := by omega
      go_wp2_with fail
      go_roundg (m - p - (k + 1))
      case measure => have := HQ.out; omega
      case rel =>
        have hQ := HQ.out
        refine ⟨k + 1, by omega, rfl, by go_num, hR.set_other (by show g ≠ w.heap.size; omega) _, hM.set_other hgM _, ?_, hbel.setCell (by show w.heap.size ≤ g; omega) _⟩
        rw [← HST.out]
        exact HO.out.set_at q ((q : Int) + 1)
    · have hkm : k = m - p := by omega
      have hEND := HEN.out hkm
      rw [hEND] at hO
      clear hEND HST HAT HLN
      have HX := Lib.hid (tab_length (bhd p) m)
      generalize tab (bhd p) m = xs at *
      have m1 := hM.cell 1 _ rfl
      have r0 := hR.cell 0 _ rfl
      have r1 := hR.cell 1 _ rfl
      have f0 := hR.free 0
      have f1 := hR.free 1
      have hR' := (hR.set 0 (.slice a m c)).set 1 (.int .i64 ((m : Int) + 1))
      have c0 := hR'.cell 0 _ rfl
      have c1 := hR'.cell 1 _ rfl
      have HEND := Lib.hid (show RetMap w xs ((m : Int) + 1) (.returned (.agg #[.slice a m c, .int .i64 ((m : Int) + 1)])) ((wr.setCell ⟨w.heap.size, 0, none⟩ (.slice a m c)).setCell ⟨w.heap.size, 1, none⟩ (.int .i64 ((m : Int) + 1))) from
        ⟨a, c, by rw [HX.out], (((hO.set (a := ⟨w.heap.size, 0, none⟩) (by simp) _).set (a := ⟨w.heap.size, 1, none⟩) (by simp) _).row').from (by omega), (hbel.setCell (Nat.le_refl _) _).setCell (Nat.le_refl _) _⟩)
      have hlt3 : ¬ ((p + k : Nat) : Int) < (m : Int) := by omega
      clear hO hbel
      go_wp2_with fail
      exact bodyPost_ret (v := .agg #[.slice a m c, .int .i64 ((m : Int) + 1)]) (by simp [results, Try.results36, go_sem, c0, c1]) rfl HEND.out

theorem own_apart {w : World} {B M g n c : Nat} {xs : List Int} {vs : List Value} {t : TypeId} (hO : Own w B (.slice (some ⟨g, 0, none⟩) n c) xs) (hM : Blk w M vs t) (ht : t ≠ 3) : g ≠ M := by
  have h := own_ne hO hM ht
  simp only [Value.ownBlock, ne_eq, Option.some.injEq] at h
  exact fun e => h e.symm

def delL (p k : Nat) (j : Nat) : Int := if j = p then -1 else if p + 1 ≤ j ∧ j < p + 1 + k then j - 1 else j
theorem delL_step (p k m : Nat) : (tab (delL p k) m).set (p + 1 + k) ((p + 1 + k : Nat) - 1 : Int) = tab (delL p (k + 1)) m := by
  refine tab_set2 _ _ _ _ _ ?_ ?_
  · unfold delL; rw [if_neg (by omega), if_pos (by omega)]
  · intro i hi; unfold delL
    by_cases h0 : i = p
    · rw [if_pos h0, if_pos h0]
    · rw [if_neg h0, if_neg h0]
      by_cases h : p + 1 ≤ i ∧ i < p + 1 + k
      · rw [if_pos h, if_pos (by omega)]
      · rw [if_neg h, if_neg (by omega)]
theorem delL_zero (p m : Nat) : (tab idx m).set p (-1) = tab (delL p 0) m := by
  refine tab_set2 _ _ _ _ _ ?_ ?_
  · unfold delL; rw [if_pos rfl]
  · intro i hi; unfold delL idx; rw [if_neg hi, if_neg (by omega)]
theorem delL_end (p m k : Nat) (hk : k = m - (p + 1)) : tab (delL p k) m = tab (ahd p) m := by
  apply tab_ext; intro j hj; unfold delL ahd aheadF
  by_cases h0 : j = p
  · rw [if_pos h0, if_neg (by omega), if_pos (by omega)]
  · rw [if_neg h0]
    by_cases h : p + 1 ≤ j ∧ j < p + 1 + k
    · rw [if_pos h, if_neg (by omega), if_neg (by omega)]
    · rw [if_neg h, if_pos (by omega)]
theorem delL_at (p k m : Nat) (h : p + 1 + k < m) : (tab (delL p k) m).getD (p + 1 + k) 0 = ((p + 1 + k : Nat) : Int) := by
  rw [tab_getD _ _ _ h]; unfold delL; rw [if_neg (by omega), if_neg (by omega)]

set_option maxHeartbeats 4000000 in
theorem rdel_in (w : World) (n : Int) (p : Nat) (hp : p < sizeF n) : Calls Try.prog 37 #[.int .i64 n, .int .i64 p] w (RetMap w (tab (ahd p) (sizeF n)) ((sizeF n : Int) - 1)) := by
  have hmb : sizeF n ≤ 1048576 := by unfold sizeF; omega
  have HC := Lib.hid (fun W => rsame_own W n)
  generalize sizeF n = m at *
  go_enter Try.func37, Try.ntmps37
  go_wp2_with fail
  refine (HC.out _).mono ?_
  rintro e w1 ⟨v, rfl, hO, hb⟩
  obtain ⟨a, c, rfl, -⟩ := hO.row
  rw [tab_length] at hO
  rw [tab_length]
  have hbel := res_below hb
  have hlt := (res_blk hb).lt
  have hR := (res_blk hb).alloc (.cells #[.slice a m c, .int .i64 m] 26)
  have hM := Blk.made (w := w1) rfl [.slice a m c, .int .i64 m] 26
  have hO1 : Own _ (w.heap.size + 1) (.slice a m c) (tab idx m) := (hO.alloc (.cells #[.slice a m c, .int .i64 m] 26)).from (by simp)
  have hb2 := hbel.alloc hbel.size (.cells #[.slice a m c, .int .i64 m] 26)
  go_upto_region 2 with fail
  clear hO hb hbel HC
  generalize w1.alloc (.cells #[.slice a m c, .int .i64 m] 26) = W at *
  generalize w1.heap.size = M at *
  have m0 := hM.cell 0 _ rfl
  have m1 := hM.cell 1 _ rfl
  have f1 := hM.free 1
  have hne : M ≠ w.heap.size := by omega
  have hp0 : ¬ ((p : Int) < 0) := by omega
  have hp1 : ¬ ((p : Int) ≥ (m : Int)) := by omega
  go_upto_region 5 with fail
  have hM2 := hM.set 1 (.int .i64 ((m : Int) - 1))
  have hR2 := hR.set_other (a := ⟨M, 1, none⟩) hne (.int .i64 ((m : Int) - 1))
  have hO2 := hO1.set_blk hM (by decide) 1 (.int .i64 ((m : Int) - 1))
  have hb3 := hb2.setCell (p := ⟨M, 1, none⟩) (by show w.heap.size ≤ M; omega) (.int .i64 ((m : Int) - 1))
  clear hM hR hO1 hb2 m0 m1 f1
  simp only [List.set_cons_succ, List.set_cons_zero] at hM2
  generalize W.setCell ⟨M, 1, none⟩ (.int .i64 ((m : Int) - 1)) = W2 at *
  have m0 := hM2.cell 0 _ rfl
  obtain ⟨g, cv, e, hBg, hgl, hgf, hgc⟩ := hO2.place (by rw [tab_length]; omega)
  simp only [Value.slice.injEq] at e
  obtain ⟨rfl, -, rfl⟩ := e
  have hcg := hgc p (by rw [tab_length]; exact hp)
  have hfg := hgf p
  clear hgc hgf
  have hgM := own_apart hO2 hM2 (by decide)
  have hpm : (p : Int) < (m : Int) := by omega
  go_upto_region 6 with fail
  have hM3 := hM2.set_other (a := ⟨g, p, none⟩) hgM (.int .i64 (-1))
  have hR3 := hR2.set_other (a := ⟨g, p, none⟩) (by show g ≠ w.heap.size; omega) (.int .i64 (-1))
  have hO3 := hO2.set_at p (-1)
  have hb4 := hb3.setCell (p := ⟨g, p, none⟩) (by show w.heap.size ≤ g; omega) (.int .i64 (-1))
  clear hM2 hR2 hO2 hb3 m0 hcg hfg hgl
  generalize W2.setCell ⟨g, p, none⟩ (.int .i64 (-1)) = W3 at *
  generalize (some ⟨g, 0, none⟩ : Option Addr) = a at *
  go_wp2_with fail
  go_loopg [6] (m - (p + 1)) (fun G vi wr => ∃ k : Nat, k ≤ m - (p + 1) ∧ G = m - (p + 1) - k ∧ vi = .int .i64 ((p + 1 + k : Nat) : Int) ∧ Blk wr w.heap.size [.slice none 0 0, .int .i64 0] 26 ∧ Blk wr M [.slice a m c, .int .i64 ((m : Int) - 1)] 26 ∧
      Own wr (w.heap.size + 1) (.slice a m c) (tab (delL p k) m) ∧ Below w.heap.size w wr)
  case atStart => exact ⟨0, Nat.zero_le _, rfl, by go_num, hR3, hM3, by rw [← delL_zero]; exact hO3, hb4⟩
  case round =>
    clear hR3 hM3 hO3 hb4 hBg hgM
    obtain ⟨k, hk, rfl, rfl, hR, hM, hO, hbel⟩ := hrel
    have m0 := hM.cell 0 _ rfl
    have HST := Lib.hid (delL_step p k m)
    have HEN := Lib.hid (delL_end p m k)
    have HAT := Lib.hid (delL_at p k m)
    have HLN := Lib.hid (tab_length (delL p k) m)
    by_cases hlt2 : p + 1 + k < m
    · obtain ⟨g, cv, e, hBg, hgl, hgf, hgc⟩ := hO.place (by rw [HLN.out]; omega)
      simp only [Value.slice.injEq] at e
      obtain ⟨rfl, -, rfl⟩ := e
      have hcg := hgc (p + 1 + k) (by rw [HLN.out]; exact hlt2)
      rw [HAT.out hlt2] at hcg
      have hfg := hgf (p + 1 + k)
      clear hgc hgf
      generalize hq : p + 1 + k = q at *
      have HQ := Lib.hid hq
      clear hq
      have HO := Lib.hid hO
      have hgM := own_apart hO hM (by decide)
      clear hO
      have hqm : (q : Int) < (m : Int) := by omega
      have hqb : q ≤ 1048576 := by omega
      go_wp2_with fail
      go_roundg (m - (p + 1) - (k + 1))
      case measure => have := HQ.out; omega
      case rel =>
        have hQ := HQ.out
        refine ⟨k + 1, by omega, rfl, by go_num, hR.set_other (by show g ≠ w.heap.size; omega) _, hM.set_other hgM _, ?_, hbel.setCell (by show w.heap.size ≤ g; omega) _⟩
        rw [← HST.out]
        exact HO.out.set_at q ((q : Int) - 1)
    · have hkm : k = m - (p + 1) := by omega
      have hEND := HEN.out hkm
      rw [hEND] at hO
      clear hEND HST HAT HLN
      have HX := Lib.hid (tab_length (ahd p) m)
      generalize tab (ahd p) m = xs at *
      have m1 := hM.cell 1 _ rfl
      have r0 := hR.cell 0 _ rfl
      have r1 := hR.cell 1 _ rfl
      have f0 := hR.free 0
      have f1 := hR.free 1
      have hR' := (hR.set 0 (.slice a m c)).set 1 (.int .i64 ((m : Int) - 1))
      have c0 := hR'.cell 0 _ rfl
      have c1 := hR'.cell 1 _ rfl
      have HEND := Lib.hid (show RetMap w xs ((m : Int) - 1) (.returned (.agg #[.slice a m c, .int .i64 ((m : Int) - 1)])) ((wr.setCell ⟨w.heap.size, 0, none⟩ (.slice a m c)).setCell ⟨w.heap.size, 1, none⟩ (.int .i64 ((m : Int) - 1))) from
        ⟨a, c, by rw [HX.out], (((hO.set (a := ⟨w.heap.size, 0, none⟩) (by simp) _).set (a := ⟨w.heap.size, 1, none⟩) (by simp) _).row').from (by omega), (hbel.setCell (Nat.le_refl _) _).setCell (Nat.le_refl _) _⟩)
      have hlt3 : ¬ ((p + 1 + k : Nat) : Int) < (m : Int) := by omega
      clear hO hbel
      go_wp2_with fail
      exact bodyPost_ret (v := .agg #[.slice a m c, .int .i64 ((m : Int) - 1)]) (by simp [results, Try.results37, go_sem, c0, c1]) rfl HEND.out

end Go.Proofs.Ytdccpnaolcpohaa
