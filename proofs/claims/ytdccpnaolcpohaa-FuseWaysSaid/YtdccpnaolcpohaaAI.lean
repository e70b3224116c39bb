/- The contract of the law's Two. -/
import Derived.Test.YtdccpnaolcpohaaAH
import Derived.Deep.LoopGhost
import Derived.Deep.DeepCutAuto
namespace Go.Proofs.Ytdccpnaolcpohaa
open Go.RowKit

/-- Two maps of the call's own, and its two results' places. -/
structure TMem (w wr : World) (A : Nat) (va vb : Value) (na nb : Int) (xs ys : List Int) : Prop where
  ha : Blk wr A [va, .int .i64 na] 26
  hb : Blk wr (A + 1) [vb, .int .i64 nb] 26
  r0 : Blk wr w.heap.size [.slice none 0 0, .int .i64 0] 26
  r1 : Blk wr (w.heap.size + 1) [.slice none 0 0, .int .i64 0] 26
  oa : Own wr (w.heap.size + 1 + 1) va xs
  ob : Own wr (w.heap.size + 1 + 1) vb ys
  ap : ∀ g, va.ownBlock = some g → vb.ownBlock ≠ some g
  bel : Below w.heap.size w wr
  lt : w.heap.size + 1 + 1 ≤ A

theorem Own.ownBlock_lt {w : World} {B : Nat} {v : Value} {xs : List Int} (h : Own w B v xs) {g : Nat} (e : v.ownBlock = some g) : B ≤ g ∧ g < w.heap.size := World.ownsRow.lt h g e

theorem TMem.growA {w wr w3 : World} {A g n c : Nat} {va vb : Value} {na nb : Int} {xs ys zs : List Int} {o : Obj} (h : TMem w wr A va vb na nb xs ys) (hO : Own w3 (w.heap.size + 1 + 1) (.slice (some ⟨g, 0, none⟩) n c) zs)
    (hg : (wr.alloc o).grownBy w3 va.ownBlock) (hw : va.ownBlock = some g ∨ g = wr.heap.size + 1) (na' : Int) :
    TMem w ((w3.setCell ⟨A, 0, none⟩ (.slice (some ⟨g, 0, none⟩) n c)).setCell ⟨A, 1, none⟩ (.int .i64 na')) A (.slice (some ⟨g, 0, none⟩) n c) vb na' nb zs ys := by
  have q0 := (h.ha.alloc o).grown hg (own_ne h.oa h.ha (by decide))
  have q1 := (h.hb.alloc o).grown hg (own_ne h.oa h.hb (by decide))
  have q2 := (h.r0.alloc o).grown hg (own_ne h.oa h.r0 (by decide))
  have q3 := (h.r1.alloc o).grown hg (own_ne h.oa h.r1 (by decide))
  have hsz := h.bel.size
  have hlt := h.lt
  have hsz2 := h.ha.lt
  have qb := below_grown (h.bel.alloc hsz o) (h.oa.alloc o) hg (by omega) (by simp <;> omega)
  have ob := (h.ob.alloc o).grown hg (fun k hk e => h.ap k e.symm hk)
  refine ⟨(q0.set 0 _).set 1 _, (q1.set_other (by simp) _).set_other (by simp) _, (q2.set_other (by simp <;> omega) _).set_other (by simp <;> omega) _, (q3.set_other (by simp <;> omega) _).set_other (by simp <;> omega) _,
    (hO.set_blk q0 (by decide) 0 _).set_blk (q0.set 0 _) (by decide) 1 _, (ob.set_blk q0 (by decide) 0 _).set_blk (q0.set 0 _) (by decide) 1 _, fun k hk e => ?_, (qb.setCell (by simp <;> omega) _).setCell (by simp <;> omega) _, hlt⟩
  simp only [Value.ownBlock, Option.some.injEq] at hk
  subst hk
  rcases hw with hw | hw
  · exact h.ap _ hw e
  · have := (h.ob.ownBlock_lt e).2
    omega

theorem TMem.growB {w wr w3 : World} {A g n c : Nat} {va vb : Value} {na nb : Int} {xs ys zs : List Int} {o : Obj} (h : TMem w wr A va vb na nb xs ys) (hO : Own w3 (w.heap.size + 1 + 1) (.slice (some ⟨g, 0, none⟩) n c) zs)
    (hg : (wr.alloc o).grownBy w3 vb.ownBlock) (hw : vb.ownBlock = some g ∨ g = wr.heap.size + 1) (nb' : Int) :
    TMem w ((w3.setCell ⟨A + 1, 0, none⟩ (.slice (some ⟨g, 0, none⟩) n c)).setCell ⟨A + 1, 1, none⟩ (.int .i64 nb')) A va (.slice (some ⟨g, 0, none⟩) n c) na nb' xs zs := by
  have q0 := (h.ha.alloc o).grown hg (own_ne h.ob h.ha (by decide))
  have q1 := (h.hb.alloc o).grown hg (own_ne h.ob h.hb (by decide))
  have q2 := (h.r0.alloc o).grown hg (own_ne h.ob h.r0 (by decide))
  have q3 := (h.r1.alloc o).grown hg (own_ne h.ob h.r1 (by decide))
  have hsz := h.bel.size
  have hlt := h.lt
  have hsz2 := h.ha.lt
  have qb := below_grown (h.bel.alloc hsz o) (h.ob.alloc o) hg (by omega) (by simp <;> omega)
  have oa := (h.oa.alloc o).grown hg (fun k hk e => h.ap k hk e.symm)
  refine ⟨(q0.set_other (by simp) _).set_other (by simp) _, (q1.set 0 _).set 1 _, (q2.set_other (by simp <;> omega) _).set_other (by simp <;> omega) _, (q3.set_other (by simp <;> omega) _).set_other (by simp <;> omega) _,
    (oa.set_blk q1 (by decide) 0 _).set_blk (q1.set 0 _) (by decide) 1 _, (hO.set_blk q1 (by decide) 0 _).set_blk (q1.set 0 _) (by decide) 1 _, fun k hk e => ?_, (qb.setCell (by simp <;> omega) _).setCell (by simp <;> omega) _, hlt⟩
  simp only [Value.ownBlock, Option.some.injEq] at e
  subst e
  rcases hw with hw | hw
  · exact h.ap _ hk hw
  · have := (h.oa.ownBlock_lt hk).2
    omega

set_option maxRecDepth 100000 in
set_option maxHeartbeats 8000000 in
theorem two_walk (w : World) (a0 a1 : Option Addr) (cap0 cap1 : Nat) (ns ms xs ys : List Int) (na nb : Nat) (h0 : RowK .u8 0 w a0 ns) (h1 : RowK .u8 0 w a1 ms)
    (M0 : Hid (∀ W, RowK .u8 0 W a0 ns → Calls Try.prog 14 #[.slice a0 ns.length cap0] W (RetOwn W xs na))) (M1 : Hid (∀ W, RowK .u8 0 W a1 ms → Calls Try.prog 14 #[.slice a1 ms.length cap1] W (RetOwn W ys nb)))
    (hlx : xs.length ≤ 1048576) (hly : ys.length ≤ 1048576) (hna : na ≤ 1048576) (hnb : nb ≤ 1048576) :
    Calls Try.prog 28 #[.slice a0 ns.length cap0, .slice a1 ms.length cap1] w
      (RetTwo w (padF xs na (ys.length - xs.length)) (padF ys nb (xs.length - ys.length)) ((na + (ys.length - xs.length) : Nat) : Int) ((nb + (xs.length - ys.length) : Nat) : Int)) := by
  go_enter Try.func28, Try.ntmps28
  go_wp2_with fail
  have B2 : Below w.heap.size w ((w.alloc (.cells #[.slice none 0 0, .int .i64 0] 26)).alloc (.cells #[.slice none 0 0, .int .i64 0] 26)) := ((Below.refl _ _).alloc (Nat.le_refl _) _).alloc (by simp) _
  refine (M0.out _ (h0.below B2)).mono ?_
  rintro e w1 ⟨va, rfl, hO1, hb1⟩
  obtain ⟨a, ca, rfl, -⟩ := hO1.row
  go_wp2_with fail
  refine (M1.out _ ((h1.below B2).below hb1)).mono ?_
  rintro e w2 ⟨vb, rfl, hO2, hb2⟩
  obtain ⟨b, cb, rfl, -⟩ := hO2.row
  have hsz1 := hb1.size
  have hsz2 := hb2.size
  simp only [World.alloc, Array.size_push] at hsz1
  have hr0 : Blk w2 w.heap.size [.slice none 0 0, .int .i64 0] 26 := ((Blk.made rfl _ _).alloc _ |>.below hb1 (by simp <;> omega)).below hb2 (by omega)
  have hr1 : Blk w2 (w.heap.size + 1) [.slice none 0 0, .int .i64 0] 26 := ((Blk.made (by simp) _ _) |>.below hb1 (by simp <;> omega)).below hb2 (by omega)
  have hoa : Own w2 (w.heap.size + 1 + 1) (.slice a xs.length ca) xs := (hO1.keep (Nat.le_refl _) hb2).from (by simp)
  have hob : Own w2 (w.heap.size + 1 + 1) (.slice b ys.length cb) ys := hO2.from (by omega)
  have hap : ∀ g, (Value.slice a xs.length ca).ownBlock = some g → (Value.slice b ys.length cb).ownBlock ≠ some g := fun g h h' => by
    have h1 := (hO1.ownBlock_lt h).2
    have h2 := (hO2.ownBlock_lt h').1
    omega
  have hbel : Below w.heap.size w w2 := B2.trans ((hb1.trans (hb2.mono (by simp only [World.alloc, Array.size_push]; omega))).mono (by simp <;> omega))
  have T : TMem w ((w2.alloc (.cells #[.slice a xs.length ca, .int .i64 na] 26)).alloc (.cells #[.slice b ys.length cb, .int .i64 nb] 26)) w2.heap.size (.slice a xs.length ca) (.slice b ys.length cb) na nb xs ys :=
    ⟨(Blk.made rfl _ _).alloc _, Blk.made (by simp) _ _, (hr0.alloc _).alloc _, (hr1.alloc _).alloc _, (hoa.alloc _).alloc _, (hob.alloc _).alloc _, hap, (hbel.alloc hbel.size _).alloc (by have := hbel.size; simp <;> omega) _, by omega⟩
  clear hr0 hr1 hoa hob hap hbel hO1 hO2 hb1 hb2 B2 hsz1 hsz2 h0 h1 M0 M1
  go_upto_region 2 with fail
  generalize (w2.alloc (.cells #[.slice a xs.length ca, .int .i64 na] 26)).alloc (.cells #[.slice b ys.length cb, .int .i64 nb] 26) = W at *
  generalize w2.heap.size = A at *
  go_loopg [] (ys.length - xs.length) (fun G wr => ∃ (j : Nat) (v : Option Addr) (c : Nat), G = ys.length - xs.length - j ∧ Hid (j ≤ ys.length - xs.length) ∧ TMem w wr A (.slice v (padF xs na j).length c) (.slice b ys.length cb) ((na + j : Nat) : Int) nb (padF xs na j) ys)
  case atStart => exact ⟨0, a, ca, rfl, Nat.zero_le _, by rw [pad_zero]; exact T⟩
  case round =>
    clear T
    obtain ⟨j, v, c, rfl, hj, T⟩ := hrel
    have HP := Lib.hid (pad_length xs na j)
    have HS := Lib.hid (pad_succ xs na j)
    have hjj := hj.out
    by_cases hlt : xs.length + j < ys.length
    · have hzl : (padF xs na j).length ≤ 4294967296 := by have := HP.out; omega
      have hlt1 : (padF xs na j).length < ys.length := by have := HP.out; omega
      have hmb : na + j ≤ 4194304 := by omega
      generalize padF xs na j = zs at *
      generalize hnj : na + j = m at *
      have HNJ := Lib.hid hnj
      clear hnj
      have a0 := T.ha.cell 0 _ rfl
      have a1 := T.ha.cell 1 _ rfl
      have b0 := T.hb.cell 0 _ rfl
      have hlt1' : ((zs.length : Nat) : Int) < ((ys.length : Nat) : Int) := by omega
      go_wp2_with (at_builtin; refine append_int2 rfl _ _ rfl (w.heap.size + 1 + 1) _ zs m wr.heap.size _ rfl rfl (T.oa.alloc _) ((Blk.made rfl [.int .i64 m] 3).cell 0 _ rfl) (by omega) (by have := T.ha.lt; have := T.lt; simp <;> omega) ?_)
      intro g' c' w3 hO3 hg3 hw3
      have T3 := T.growA hO3 hg3 hw3
      have q0 := (T.ha.alloc (.cells #[.int .i64 m] 3)).grown hg3 (own_ne T.oa T.ha (by decide))
      have k0 := q0.cell 0 _ rfl
      have k1 := q0.cell 1 _ rfl
      have f0 := q0.free 0
      have f1 := q0.free 1
      clear a0 a1 b0 T hO3 hg3 hw3 q0
      go_wp2
      go_roundg (ys.length - xs.length - (j + 1))
      case measure => omega
      case rel =>
        have hn := HNJ.out
        refine ⟨j + 1, some ⟨g', 0, none⟩, c', rfl, by show j + 1 ≤ ys.length - xs.length; omega, ?_⟩
        rw [HS.out, List.length_append, List.length_singleton, show ((na + (j + 1) : Nat) : Int) = (m : Int) + 1 from by omega, show (na : Int) + (j : Int) = (m : Int) from by omega]
        exact T3 _
    · have hje : j = ys.length - xs.length := by omega
      have HZ := Lib.hid (show padF xs na j = padF xs na (ys.length - xs.length) by rw [hje])
      have HM := Lib.hid (show na + j = na + (ys.length - xs.length) by rw [hje])
      have hzb : (padF xs na j).length ≤ 4194304 := by have := HP.out; omega
      have hd : xs.length - ys.length = (padF xs na j).length - ys.length := by have := HP.out; omega
      have hge : ¬ (((padF xs na j).length : Nat) : Int) < ((ys.length : Nat) : Int) := by have := HP.out; omega
      have hmb : na + j ≤ 4194304 := by omega
      have HD := Lib.hid hd
      clear hje hd HS HP
      generalize padF xs na j = zs at *
      generalize na + j = m at *
      have a0 := T.ha.cell 0 _ rfl
      have b0 := T.hb.cell 0 _ rfl
      go_upto_region 5 with fail
      have HA0 := Lib.hid T
      clear a0 b0
      obtain ⟨wo, rfl⟩ : ∃ wo : World, wo = wr := ⟨_, rfl⟩
      go_loopg [] (zs.length - ys.length) (fun G ws => ∃ (i : Nat) (u : Option Addr) (d : Nat), G = zs.length - ys.length - i ∧ Hid (i ≤ zs.length - ys.length) ∧ TMem w ws A (.slice v zs.length c) (.slice u (padF ys nb i).length d) m ((nb + i : Nat) : Int) zs (padF ys nb i))
      case atStart => exact ⟨0, b, cb, rfl, Nat.zero_le _, by rw [pad_zero]; exact HA0.out⟩
      case round =>
        clear T HA0
        obtain ⟨i, u, d, rfl, hi, T⟩ := hrel
        have HP := Lib.hid (pad_length ys nb i)
        have HS := Lib.hid (pad_succ ys nb i)
        have hii := hi.out
        by_cases hlt2 : ys.length + i < zs.length
        · have hul : (padF ys nb i).length ≤ 4294967296 := by have := HP.out; omega
          have hlt1 : (padF ys nb i).length < zs.length := by have := HP.out; omega
          have hmb2 : nb + i ≤ 8388608 := by omega
          generalize padF ys nb i = us at *
          generalize hnj : nb + i = q at *
          have HNJ := Lib.hid hnj
          clear hnj
          have a0 := T.ha.cell 0 _ rfl
          have b0 := T.hb.cell 0 _ rfl
          have b1 := T.hb.cell 1 _ rfl
          have hlt1' : ((us.length : Nat) : Int) < ((zs.length : Nat) : Int) := by omega
          go_wp2_with (at_builtin; refine append_int2 rfl _ _ rfl (w.heap.size + 1 + 1) _ us q wr.heap.size _ rfl rfl (T.ob.alloc _) ((Blk.made rfl [.int .i64 q] 3).cell 0 _ rfl) (by omega) (by have := T.ha.lt; have := T.lt; simp <;> omega) ?_)
          intro g' c' w3 hO3 hg3 hw3
          have T3 := T.growB hO3 hg3 hw3
          have q0 := (T.hb.alloc (.cells #[.int .i64 q] 3)).grown hg3 (own_ne T.ob T.hb (by decide))
          have k0 := q0.cell 0 _ rfl
          have k1 := q0.cell 1 _ rfl
          have f0 := q0.free 0
          have f1 := q0.free 1
          clear a0 b0 b1 T hO3 hg3 hw3 q0
          go_wp2
          go_roundg (zs.length - ys.length - (i + 1))
          case measure => omega
          case rel =>
            have hn := HNJ.out
            refine ⟨i + 1, some ⟨g', 0, none⟩, c', rfl, by show i + 1 ≤ zs.length - ys.length; omega, ?_⟩
            rw [HS.out, List.length_append, List.length_singleton, show ((nb + (i + 1) : Nat) : Int) = (q : Int) + 1 from by omega, show (nb : Int) + (i : Int) = (q : Int) from by omega]
            exact T3 _
        · have hie : i = zs.length - ys.length := by omega
          have hie2 : i = xs.length - ys.length := by have := HD.out; omega
          have HY := Lib.hid (show padF ys nb i = padF ys nb (xs.length - ys.length) by rw [hie2])
          have HM2 := Lib.hid (show nb + i = nb + (xs.length - ys.length) by rw [hie2])
          have hge2 : ¬ (((padF ys nb i).length : Nat) : Int) < ((zs.length : Nat) : Int) := by have := HP.out; omega
          clear hie hie2 HS HP
          generalize padF ys nb i = us at *
          generalize nb + i = q at *
          have a0 := T.ha.cell 0 _ rfl
          have b0 := T.hb.cell 0 _ rfl
          go_upto_region 8 with fail
          clear a0 b0
          have a0 := T.ha.cell 0 _ rfl
          have a1 := T.ha.cell 1 _ rfl
          have b0 := T.hb.cell 0 _ rfl
          have b1 := T.hb.cell 1 _ rfl
          have e0 := T.r0.cell 0 _ rfl
          have e1 := T.r0.cell 1 _ rfl
          have e2 := T.r1.cell 0 _ rfl
          have e3 := T.r1.cell 1 _ rfl
          have f0 := T.r0.free 0
          have f1 := T.r0.free 1
          have f2 := T.r1.free 0
          have f3 := T.r1.free 1
          have n1 : w.heap.size ≠ A := by have := T.lt; omega
          have n2 : w.heap.size ≠ A + 1 := by have := T.lt; omega
          have n3 : w.heap.size + 1 ≠ A := by have := T.lt; omega
          have n4 : w.heap.size + 1 ≠ A + 1 := by have := T.lt; omega
          have HT := Lib.hid T
          clear T
          go_region_held3 (fun w' => w'.cell? ⟨A, 0, none⟩ = some (.slice v zs.length c) ∧ w'.cell? ⟨A, 1, none⟩ = some (.int .i64 m) ∧ w'.cell? ⟨A + 1, 0, none⟩ = some (.slice u us.length d) ∧ w'.cell? ⟨A + 1, 1, none⟩ = some (.int .i64 q)) (go_keep) (fail)
          all_goals go_wp2_with fail
          all_goals refine bodyPost_ret (v := .tuple #[.agg #[.slice v zs.length c, .int .i64 m], .agg #[.slice u us.length d, .int .i64 q]]) (by simp [results, Try.results28, go_sem, e0, e1, e2, e3]) rfl ?_
          all_goals
            have r := HT.out
            have E1 := HZ.out
            have E2 := HM.out
            have E3 := HY.out
            have E4 := HM2.out
            subst E1 E2 E3 E4
            have hv := ((((r.oa.row'.set (p := ⟨w.heap.size, 0, none⟩) (by simp <;> omega) (.slice v (padF xs na (ys.length - xs.length)).length c)).set (p := ⟨w.heap.size, 1, none⟩) (by simp <;> omega) (.int .i64 ((na + (ys.length - xs.length) : Nat) : Int))).set (p := ⟨w.heap.size + 1, 0, none⟩) (by simp) (.slice u (padF ys nb (xs.length - ys.length)).length d)).set (p := ⟨w.heap.size + 1, 1, none⟩) (by simp) (.int .i64 ((nb + (xs.length - ys.length) : Nat) : Int))).drew
            have hu := ((((r.ob.row'.set (p := ⟨w.heap.size, 0, none⟩) (by simp <;> omega) (.slice v (padF xs na (ys.length - xs.length)).length c)).set (p := ⟨w.heap.size, 1, none⟩) (by simp <;> omega) (.int .i64 ((na + (ys.length - xs.length) : Nat) : Int))).set (p := ⟨w.heap.size + 1, 0, none⟩) (by simp) (.slice u (padF ys nb (xs.length - ys.length)).length d)).set (p := ⟨w.heap.size + 1, 1, none⟩) (by simp) (.int .i64 ((nb + (xs.length - ys.length) : Nat) : Int))).drew
            have hb := ((((r.bel.setCell (p := ⟨w.heap.size, 0, none⟩) (by simp) (.slice v (padF xs na (ys.length - xs.length)).length c)).setCell (p := ⟨w.heap.size, 1, none⟩) (by simp) (.int .i64 ((na + (ys.length - xs.length) : Nat) : Int))).setCell (p := ⟨w.heap.size + 1, 0, none⟩) (by simp) (.slice u (padF ys nb (xs.length - ys.length)).length d)).setCell (p := ⟨w.heap.size + 1, 1, none⟩) (by simp) (.int .i64 ((nb + (xs.length - ys.length) : Nat) : Int))).drew
            exact ⟨v, c, u, d, by simp only [Int.natCast_add], hv.from (Nat.zero_le _), hu.from (Nat.zero_le _), hb⟩

end Go.Proofs.Ytdccpnaolcpohaa
