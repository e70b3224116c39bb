/- The contracts of the references' Image, MayMap, Then. -/
import Derived.Test.YtdccpnaolcpohaaN
import Derived.Deep.AppendLies
import Derived.Deep.RegionLaw
import Derived.BigRegion
namespace Go.Proofs.Ytdccpnaolcpohaa
open Go.RowKit

/-- 'append(s, z)' in a region that draws its order: the law at this program's []int. -/
theorem step_append_int {w : World} {ops : Array Oper} {o : Oper} {a : Act} {K : Act → World → Prop} {Q : Exit → Act → World → Prop} {E : Prop} (hgd : o.guard = none) (s x : Operand)
    (ho : o.op = .call { callee := .builtin .append, args := #[s, x], argTypes := #[24, 24] }) (B : Nat) (v : Value) (xs : List Int) (z : Int) (g c : Nat)
    (hs : a.eval s = v) (hx : a.eval x = .slice (some ⟨g, 0, none⟩) 1 c) (hown : Own w B v xs) (hz : w.cell? ⟨g, 0, none⟩ = some (.int .i64 z)) (hl : xs.length ≤ 4294967296) (hB : B ≤ w.heap.size)
    (h : ∀ a' cap' w', Own w' B (.slice a' (xs.length + 1) cap') (xs ++ [z]) → w.grownBy w' v.ownBlock → K (a.put o.dst (.slice a' (xs.length + 1) cap')) w') :
    if Region.wanted o (yielded ops a.tmps) = true then Oper.wp Try.prog o a w K Q else E := by
  obtain ⟨i0, hi, hz0, hz1, hz2⟩ := info_parts Try.info3
  refine step_append_lies (P := Try.prog) w hgd s x 24 ho B 3 i0 (.int .i64 0) 1 8 Try.underlying24 hi hz0 hz1 hz2 rfl (by decide) v xs.length (ints xs) hs hown ⟨g, 0, none⟩ 1 c [.int .i64 z] hx rfl ?_ ?_ (by decide) (by unfold maxLen; omega) (by omega) hB _ rfl ?_
  · intro j u hj
    match j, hj with
    | 0, hj =>
      simp at hj; subst hj
      simpa [Addr.add] using hz
    | j + 1, hj => simp at hj
  · intro u hu; simp at hu; subst hu; rfl
  · intro g' cap' w' hown' hg _ _
    refine h (some ⟨g', 0, none⟩) cap' w' ?_ hg
    unfold Own; simpa [ints] using hown'

set_option maxHeartbeats 400000 in
theorem rimage_any (w : World) (a : Option Addr) (cap : Nat) (xs : List Int) (new i : Int) (h : Row 0 w a xs) (hl : xs.length ≤ 4294967296) (hn0 : -4294967296 ≤ new) (hn : new ≤ 4294967296) (hi : i ≤ 2199023255552) :
    Calls Try.prog 34 #[.agg #[.slice a xs.length cap, .int .i64 new], .int .i64 i] w fun e w' => e = .returned (.int .i64 (imageF xs new i)) ∧ Below w.heap.size w w' := by
  by_cases h0 : i < 0
  · have HR := Lib.hid (imageF_neg xs new i h0)
    go_enter Try.func34, Try.ntmps34
    go_wp2
    go_ret
    exact ⟨ret_int HR.out.symm, (Below.refl _ _).alloc (Nat.le_refl _) _⟩
  · by_cases h1 : i < xs.length
    · have HR := Lib.hid (imageF_in xs new i h0 h1)
      rcases h with h | ⟨b, off, rfl, _, hb, hc⟩
      · subst h; simp at h1; omega
      · have hci := hc i.toNat (by omega)
        clear hc
        generalize xs.getD i.toNat 0 = x at *
        go_enter Try.func34, Try.ntmps34
        go_wp2
        go_ret
        exact ⟨ret_int HR.out.symm, (Below.refl _ _).alloc (Nat.le_refl _) _⟩
    · have HR := Lib.hid (imageF_out xs new i h1)
      go_enter Try.func34, Try.ntmps34
      go_wp2
      go_ret
      exact ⟨ret_int HR.out.symm, (Below.refl _ _).alloc (Nat.le_refl _) _⟩

theorem then_take (xs ys : List Int) (nb : Int) (k : Nat) (h : k < xs.length) : thenF (xs.take (k + 1)) ys nb = thenF (xs.take k) ys nb ++ [imageF ys nb (xs.getD k 0)] := by
  have e : xs.take (k + 1) = xs.take k ++ [xs.getD k 0] := by rw [List.take_succ_eq_append_getElem h]; simp [List.getD, h]
  rw [e]; simp only [thenF, List.map_append, List.map_cons, List.map_nil]

set_option maxHeartbeats 4000000 in
theorem rthen_any (w : World) (ab aa : Option Addr) (capb capa : Nat) (ys xs : List Int) (nb na : Int)
    (hb : Row 0 w ab ys) (ha : Row 0 w aa xs)
    (hl : ys.length ≤ 4294967296) (hn0 : -4294967296 ≤ nb) (hn : nb ≤ 4294967296) (hx : ∀ i, xs.getD i 0 ≤ 2199023255552) (hla : xs.length ≤ 4294967296) :
    Calls Try.prog 35 #[.agg #[.slice aa xs.length capa, .int .i64 na], .agg #[.slice ab ys.length capb, .int .i64 nb]] w (RetMap w (thenF xs ys nb) nb) := by
  have HX := Lib.hid hx
  clear hx
  go_enter Try.func35, Try.ntmps35
  go_wp2_with fail
  go_loopg [6] xs.length (fun g c wr => ∃ (k : Nat) (v : Option Addr) (cv : Nat), k ≤ xs.length ∧ g = xs.length - k ∧ c = .int .i64 k ∧ Blk wr w.heap.size [.slice aa xs.length capa, .int .i64 na] 26 ∧ Blk wr (w.heap.size + 1) [.slice ab ys.length capb, .int .i64 nb] 26 ∧
      Blk wr (w.heap.size + 1 + 1) [.slice none 0 0, .int .i64 0] 26 ∧ Blk wr (w.heap.size + 1 + 1 + 1) [.slice v (thenF (xs.take k) ys nb).length cv, .int .i64 nb] 26 ∧ Own wr (w.heap.size + 1 + 1 + 1 + 1) (.slice v (thenF (xs.take k) ys nb).length cv) (thenF (xs.take k) ys nb) ∧ Below w.heap.size w wr)
  case atStart =>
    refine ⟨0, none, 0, Nat.zero_le _, rfl, rfl, ?_, ?_, ?_, ?_, ?_, ?_⟩
    · exact (((Blk.made rfl _ _).alloc _).alloc _).alloc _
    · exact ((Blk.made (by simp) _ _).alloc _).alloc _
    · exact (Blk.made (by simp) _ _).alloc _
    · exact Blk.made (by simp) [.slice none 0 0, .int .i64 nb] 26
    · exact Own.nil _ _
    · exact ((((Below.refl _ _).alloc (Nat.le_refl _) _).alloc (by simp) _).alloc (by simp <;> omega) _).alloc (by simp <;> omega) _
  case round =>
    obtain ⟨k, v, cv, hk, rfl, rfl, hA, hB, hR, hM, hO, hbel⟩ := hrel
    by_cases hlt : k < xs.length
    · obtain ⟨b, off, rfl, _, hbb, hc⟩ := (ha.below hbel).at k hlt
      have hrb := hb.below hbel
      have HS := Lib.hid (then_take xs ys nb k hlt)
      have HI := Lib.hid (fun W h => rimage_any W ab capb ys nb (xs.getD k 0) h hl hn0 hn (HX.out k))
      generalize imageF ys nb (xs.getD k 0) = y at *
      generalize xs.getD k 0 = x at *
      have hzl : (thenF (xs.take k) ys nb).length ≤ 4294967296 := by simp [thenF]; omega
      generalize thenF (xs.take k) ys nb = zs at *
      have a0 := hA.cell 0 _ rfl
      have b0 := hB.cell 0 _ rfl
      have b1 := hB.cell 1 _ rfl
      have m0 := hM.cell 0 _ rfl
      have hk0 : (0 : Int) ≤ (k : Int) := Int.natCast_nonneg _
      have hk1 : (k : Int) < (xs.length : Int) := by omega
      go_wp2_with fail
      go_region_law (first
        | (refine step_append_int (by rfl) _ _ (by rfl) (w.heap.size + 1 + 1 + 1 + 1) _ zs y w1.heap.size 1 (by rfl) (by rfl) (hO1.alloc _) ((Blk.made rfl [.int .i64 y] 3).cell 0 _ rfl) hzl (by have := hM1.lt; simp <;> omega) ?_
           intro a' c' w2 hO2 hg2
           have hM2 := (hM1.alloc (.cells #[.int .i64 y] 3)).grown hg2 (own_ne hO1 hM1 (by decide))
           have k0 := hM2.cell 0 _ rfl
           have k1 := hM2.free 0)
        | (go_simp; go_at_call 34; refine (HI.out _ hrb.drew).mono ?_; rintro e w1 ⟨rfl, hb1⟩
           have hO1 := Own.keep (show Own wr.drew _ _ _ from hO) (Nat.le_refl _) hb1
           have hM1 := (Blk.drew hM).below hb1 hM.lt
           have hA1 := (Blk.drew hA).below hb1 hA.lt
           have hB1 := (Blk.drew hB).below hb1 hB.lt
           have hR1 := (Blk.drew hR).below hb1 hR.lt
           have m1 := hM1.cell 0 _ rfl
           have l1 := hM1.lt))
      all_goals
        go_wp2
        go_roundg (xs.length - (k + 1))
        case measure => omega
        case rel =>
          have hA2 := (hA1.alloc (.cells #[.int .i64 y] 3)).grown hg2 (own_ne hO1 hA1 (by decide))
          have hB2 := (hB1.alloc (.cells #[.int .i64 y] 3)).grown hg2 (own_ne hO1 hB1 (by decide))
          have hR2 := (hR1.alloc (.cells #[.int .i64 y] 3)).grown hg2 (own_ne hO1 hR1 (by decide))
          have hbl := below_grown ((hbel.drew.trans (hb1.mono hbel.size)).alloc (by have := hbel.size; have := hb1.size; simp at this; omega) (.cells #[.int .i64 y] 3)) (hO1.alloc _) hg2 (by omega) (by have := hM1.lt; simp <;> omega)
          refine ⟨k + 1, a', c', by omega, rfl, by go_num, hA2.set_other (by simp <;> omega) _, hB2.set_other (by simp <;> omega) _, hR2.set_other (by simp <;> omega) _, ?_, ?_, hbl.setCell (by simp <;> omega) _⟩
          · rw [HS.out, List.length_append, List.length_singleton]; exact hM2.set 0 _
          · rw [HS.out, List.length_append, List.length_singleton]; exact hO2.set_blk hM2 (by decide) 0 _
    · have hk' : k = xs.length := by omega
      rw [hk', List.take_length] at hM hO
      clear hk'
      generalize thenF xs ys nb = zs at *
      have m0 := hM.cell 0 _ rfl
      have m1 := hM.cell 1 _ rfl
      have r0 := hR.cell 0 _ rfl
      have r1 := hR.cell 1 _ rfl
      have f0 := hR.free 0
      have f1 := hR.free 1
      have a0 := hA.cell 0 _ rfl
      go_wp2
      have hR' := (hR.set 0 (.slice v zs.length cv)).set 1 (.int .i64 nb)
      have c0 := hR'.cell 0 _ rfl
      have c1 := hR'.cell 1 _ rfl
      refine bodyPost_ret (v := .agg #[.slice v zs.length cv, .int .i64 nb]) (by simp [results, Try.results35, go_sem, c0, c1]) rfl ?_
      exact ⟨v, cv, rfl, (((hO.set (by simp <;> omega) _).set (by simp <;> omega) _).row').from (by omega), (hbel.setCell (by simp <;> omega) _).setCell (by simp <;> omega) _⟩

end Go.Proofs.Ytdccpnaolcpohaa
