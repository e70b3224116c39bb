/- The walk of the law MapsThen. -/
import Derived.Test.YtdccpnaolcpohaaP
import Derived.Deep.LoopGhost
namespace Go.Proofs.Ytdccpnaolcpohaa
open Go.RowKit

theorem own_ne {w : World} {B M : Nat} {v : Value} {xs : List Int} {vs : List Value} {t : TypeId} (hO : Own w B v xs) (hM : Blk w M vs t) (ht : t ≠ 3) : some M ≠ v.ownBlock := by
  obtain ⟨_, ⟨e, _⟩ | ⟨g, cap, cur, e, _, hh, _⟩⟩ := hO
  · subst e; simp [Value.ownBlock]
  · subst e
    intro h
    simp only [Value.ownBlock, Option.some.injEq] at h
    subst h
    unfold Blk at hM
    rw [hM] at hh
    simp at hh
    exact ht hh.2

theorem below_grown {w0 w w1 : World} {B C : Nat} {v : Value} {xs : List Int} (h : Below C w0 w) (hO : Own w B v xs) (hg : w.grownBy w1 v.ownBlock) (hC : C ≤ B) (hw : C ≤ w.heap.size) : Below C w0 w1 :=
  h.grown hg hw (fun b e => by have := (World.ownsRow.lt hO b e).1; omega)

theorem Own.set_blk {w : World} {B M : Nat} {v : Value} {xs : List Int} {vs : List Value} {t : TypeId} (hO : Own w B v xs) (hM : Blk w M vs t) (ht : t ≠ 3) (j : Nat) (u : Value) : Own (w.setCell ⟨M, j, none⟩ u) B v xs :=
  ownsRow_setCell_other hO (own_ne hO hM ht).symm u

theorem Own.cap {w : World} {B : Nat} {a : Option Addr} {n c : Nat} {xs : List Int} (h : Own w B (.slice a n c) xs) : n ≤ c := by
  obtain ⟨_, ⟨e, _⟩ | ⟨g, cap, cur, e, _, _, hle, _⟩⟩ := h
  · simp at e; omega
  · simp at e; omega

theorem Own.row' {w : World} {B : Nat} {a : Option Addr} {n c : Nat} {xs : List Int} (h : Own w B (.slice a n c) xs) : Row B w a xs := by
  obtain ⟨a', c', e, hr⟩ := h.row
  simp only [Value.slice.injEq] at e
  rw [e.1]; exact hr

theorem RowK.take {K : IntKind} {w : World} {B : Nat} {a : Option Addr} {xs : List Int} (h : RowK K B w a xs) (n : Nat) : RowK K B w a (xs.take n) := by
  rcases h with h | ⟨b, off, e, hB, hb, hc⟩
  · subst h; exact .inl (by simp)
  · refine .inr ⟨b, off, e, hB, hb, fun j hj => ?_⟩
    simp only [List.length_take] at hj
    rw [hc j (by omega)]
    simp [List.getD, List.getElem?_take, show j < n by omega]

theorem held_step {W4 W w5 : World} (h : Below W4.heap.size W4 W) (hb : Below W.heap.size W w5) : Below W4.heap.size W4 w5 := h.trans (hb.mono h.size)

theorem image_le (xs : List Int) (n : Nat) (k : Int) (h : UpP (-1) n xs) (h0 : 0 ≤ k) : imageF xs n k ≤ n + k := by
  by_cases hk : k < xs.length
  · have := image_some xs n k h0 hk
    by_cases e : imageF xs n k = -1
    · omega
    · have := (h.1 _ _ this e).2; omega
  · rw [imageF_out _ _ _ hk]; omega

set_option maxHeartbeats 2000000 in
theorem mapsThen_walk (w : World) (a0 a1 : Option Addr) (cap0 cap1 : Nat) (ns ms : List Int) (k : Int) (h0 : RowK .u8 0 w a0 ns) (h1 : RowK .u8 0 w a1 ms)
    (hl0 : ns.length ≤ 9223372036854775807) (hl1 : ms.length ≤ 9223372036854775807) (hb0 : ∀ i, 0 ≤ ns.getD i 0 ∧ ns.getD i 0 ≤ 255) (hb1 : ∀ i, 0 ≤ ms.getD i 0 ∧ ms.getD i 0 ≤ 255) (hk0 : 0 ≤ k) (hk1 : k ≤ 255) :
    Calls Try.prog 3 #[.slice a0 ns.length cap0, .slice a1 ms.length cap1, .int .u8 k] w fun e w' => e = .returned (.bool true) ∧ Below w.heap.size w w' := by
  by_cases c0 : ns.length > 60
  · have c0' : (ns.length : Int) > 60 := by omega
    clear hb0 hb1
    go_enter Try.func3, Try.ntmps3
    go_wp2_with (go_at_call 13; refine (awake_any _).mono ?_; rintro e w1 ⟨rfl, hb⟩)
    go_ret
    exact ⟨rfl, hb⟩
  · have c0' : ¬ (ns.length : Int) > 60 := by omega
    by_cases c1 : ms.length > 60
    · have c1' : (ms.length : Int) > 60 := by omega
      clear hb0 hb1
      go_enter Try.func3, Try.ntmps3
      go_wp2_with (go_at_call 13; refine (awake_any _).mono ?_; rintro e w1 ⟨rfl, hb⟩)
      go_ret
      exact ⟨rfl, hb⟩
    · have c1' : ¬ (ms.length : Int) > 60 := by omega
      obtain ⟨up0, np0⟩ := make_up ns (fun i => (hb0 i).1) ns.length (Nat.le_refl _)
      obtain ⟨up1, np1⟩ := make_up ms (fun i => (hb1 i).1) ms.length (Nat.le_refl _)
      obtain ⟨bl0, _, bn0⟩ := make_bd ns ns.length (Nat.le_refl _)
      obtain ⟨bl1, _, bn1⟩ := make_bd ms ms.length (Nat.le_refl _)
      have M0 := Lib.hid (fun W h => make_any W a0 cap0 ns h (by omega) hb0)
      have M1 := Lib.hid (fun W h => make_any W a1 cap1 ms h (by omega) hb1)
      clear hb0 hb1
      generalize makeTo ns ns.length = xs at *
      generalize makeTo ms ms.length = ys at *
      generalize makeNew ns ns.length = nx at *
      generalize makeNew ms ms.length = ny at *
      obtain ⟨n, rfl⟩ := Int.eq_ofNat_of_zero_le np0
      have UP0 := Lib.hid up0
      have UP1 := Lib.hid up1
      clear up0 up1
      go_enter Try.func3, Try.ntmps3
      go_wp2_with fail
      refine (M0.out _ h0).mono ?_
      rintro e w1 ⟨va, rfl, hO1, hb1⟩
      go_wp2_with fail
      refine (M1.out _ (h1.below hb1)).mono ?_
      rintro e w2 ⟨vb, rfl, hO2, hb2⟩
      obtain ⟨aa, ca, rfl, hRa⟩ := hO1.row
      obtain ⟨ab, cb, rfl, _⟩ := hO2.row
      go_wp2_with fail
      go_loopg [] (n - ys.length) (fun g wr => ∃ (j : Nat) (a : Option Addr) (c : Nat), g = n - ys.length - j ∧ Hid (j ≤ n - ys.length) ∧ Blk wr w2.heap.size [.slice aa xs.length ca, .int .i64 n] 26 ∧
        Blk wr (w2.heap.size + 1) [.slice a (padF ys ny j).length c, .int .i64 (ny + j)] 26 ∧ Own wr w1.heap.size (.slice a (padF ys ny j).length c) (padF ys ny j) ∧ Below w1.heap.size w1 wr)
      case atStart =>
        refine ⟨0, ab, cb, rfl, Nat.zero_le _, (Blk.made rfl _ _).alloc _, ?_, ?_, ?_⟩
        · rw [pad_zero]; simpa using Blk.made (by simp) [.slice ab ys.length cb, .int .i64 ny] 26
        · rw [pad_zero]; exact (hO2.alloc _).alloc _
        · exact (hb2.alloc hb2.size _).alloc (by have := hb2.size; simp <;> omega) _
      case round =>
        obtain ⟨j, a, c, rfl, hj, hA, hM, hO, hbel⟩ := hrel
        have HP := Lib.hid (pad_length ys ny j)
        have HS := Lib.hid (pad_succ ys ny j)
        have HU := Lib.hid (pad_up ys ny UP1.out np1 j)
        have hjj := hj.out
        have hm0 := hM.cell 0 _ rfl
        have hm1 := hM.cell 1 _ rfl
        have ha0 := hA.cell 0 _ rfl
        have ha1 := hA.cell 1 _ rfl
        have hf0 := hM.free 0
        have hf1 := hM.free 1
        have hlen : (padF ys ny j).length ≤ 60 + n := by have := HP.out; omega
        generalize padF ys ny j = zs at *
        by_cases hlt : zs.length < n
        · have hj1 : j + 1 ≤ n - ys.length := by have := HP.out; omega
          go_wp2_with (at_builtin; refine append_int rfl _ _ rfl w1.heap.size _ zs (ny + j) wr.heap.size _ rfl rfl (hO.alloc _) ((Blk.made rfl [.int .i64 (ny + j)] 3).cell 0 _ rfl) (by omega) (by have := hbel.size; simp <;> omega) ?_)
          intro a' c' w3 hO3 hg3
          have q1 := (hM.alloc (.cells #[.int .i64 (ny + j)] 3)).grown hg3 (own_ne hO hM (by decide))
          have q0 := (hA.alloc (.cells #[.int .i64 (ny + j)] 3)).grown hg3 (own_ne hO hA (by decide))
          have qb := below_grown (hbel.alloc hbel.size _) (hO.alloc _) hg3 (Nat.le_refl _) (by have := hbel.size; simp <;> omega)
          have k0 := q1.cell 0 _ rfl
          have k1 := q1.free 0
          have k2 := q1.cell 1 _ rfl
          have k3 := q1.free 1
          clear hm0 hm1 hf0 hf1 ha0 ha1
          go_wp2
          go_roundg (n - ys.length - (j + 1))
          case measure => omega
          case rel =>
            refine ⟨j + 1, a', c', rfl, hj1, (q0.set_other (by simp) _).set_other (by simp) _, ?_, ?_, (qb.setCell (by simp; have := hb2.size; omega) _).setCell (by simp; have := hb2.size; omega) _⟩
            · rw [HS.out, List.length_append, List.length_singleton, show ny + ((j + 1 : Nat) : Int) = ny + j + 1 from by omega]
              exact (q1.set 0 _).set 1 _
            · rw [HS.out, List.length_append, List.length_singleton]
              exact (hO3.set_blk q1 (by decide) 0 _).set_blk (q1.set 0 _) (by decide) 1 _
        · have hnc : n ≤ c := by have := hO.cap; omega
          have htl : (zs.take n).length = n := by simp; omega
          have hRb := ((hO.set_blk hM (by decide) 0 (.slice a n c)).row'.take n).from (Nat.zero_le _)
          have hWb := hbel.setCell (p := ⟨w2.heap.size + 1, 0, none⟩) (by simp; have := hb2.size; omega) (.slice a n c)
          have hRa' := (hRa.keep (Nat.le_refl _) hWb).from (Nat.zero_le _)
          have hM' := hM.set 0 (.slice a n c)
          have hA' := hA.set_other (a := ⟨w2.heap.size + 1, 0, none⟩) (by simp) (.slice a n c)
          have hub := HU.out.take n
          have hnb : 0 ≤ ny + j ∧ ny + j ≤ 1000 := by omega
          have TC := then_any _ a aa c ca (zs.take n) xs (ny + j) n hRb hRa' (by omega) (by omega) (by omega) (fun i => by
            by_cases hi : i < xs.length
            · by_cases e : xs.getD i 0 = -1
              · omega
              · have := (UP0.out.1 i _ (by simp [List.getD, hi]) e).2; omega
            · simp [List.getD, List.getElem?_eq_none (Nat.le_of_not_lt hi)]) (by omega)
          have hmay := mayF_up _ _ (then_up xs (zs.take n) n (ny + j) UP0.out hub htl) hnb.1 (by omega) (by simp [thenF]; omega)
          obtain ⟨kk, rfl⟩ := Int.eq_ofNat_of_zero_le hk0
          have him := then_image xs (zs.take n) n (ny + j) kk htl
          have hile := image_le xs n kk UP0.out hk0
          have hcl : (thenF xs (zs.take n) (ny + j)).length ≤ 60 := by simp [thenF]; omega
          have HIB := Lib.hid (fun W h => image_any W a c (zs.take n) (ny + j) (imageF xs n kk) h (by omega) (by omega) (by omega) (by omega))
          rw [htl] at TC HIB
          rw [← him] at HIB
          have HTC := Lib.hid TC
          have HMAY := Lib.hid hmay
          clear TC hmay him
          go_wp2_with fail
          refine (HTC.out).mono ?_
          rintro e w4 ⟨ac, cc, rfl, hRc, hb4⟩
          have HIA := Lib.hid (fun W h => image_any W aa ca xs n kk h (by omega) (by omega) (by omega) (by omega))
          have HIC := Lib.hid (fun W h => image_any W ac cc (thenF xs (zs.take n) (ny + j)) (ny + j) kk h (by omega) (by omega) (by omega) (by omega))
          have HM := Lib.hid (fun W h => may_any W ac cc (thenF xs (zs.take n) (ny + j)) (ny + j) h (by omega))
          rw [HMAY.out] at HM
          generalize imageF xs n kk = u at *
          generalize imageF (thenF xs (zs.take n) (ny + j)) (ny + j) kk = v at *
          generalize thenF xs (zs.take n) (ny + j) = cs at *
          have hRa4 := hRa'.below hb4
          have hRb4 := hRb.below hb4
          have hM4 := hM'.below hb4 hM'.lt
          have hA4 := hA'.below hb4 hA'.lt
          have hW4 := hWb.trans (hb4.mono hWb.size)
          go_wp2_with fail
          have hC5 := Blk.made (w := w4) rfl [.slice ac cs.length cc, .int .i64 (ny + j)] 26
          have hM5 := hM4.alloc (.cells #[.slice ac cs.length cc, .int .i64 (ny + j)] 26)
          have hA5 := hA4.alloc (.cells #[.slice ac cs.length cc, .int .i64 (ny + j)] 26)
          have hRc5 := (hRc.alloc (.cells #[.slice ac cs.length cc, .int .i64 (ny + j)] 26)).from (Nat.zero_le _)
          have hRa5 := hRa4.alloc (.cells #[.slice ac cs.length cc, .int .i64 (ny + j)] 26)
          have hRb5 := hRb4.alloc (.cells #[.slice ac cs.length cc, .int .i64 (ny + j)] 26)
          have hW5 := hW4.alloc hW4.size (.cells #[.slice ac cs.length cc, .int .i64 (ny + j)] 26)
          have hlast := held_step hb1 hW5
          clear hW4 hRb4 hRa4 hA4 hM4 hRc hb4 hM' hA' hRa' hRb hWb hm0 hm1 ha0 ha1 hf0 hf1 hO hM hA hbel
          generalize w4.alloc (.cells #[.slice ac cs.length cc, .int .i64 (ny + j)] 26) = W5 at *
          generalize w4.heap.size = p9 at *
          have hcells : ∀ w', Below W5.heap.size W5 w' → w'.cell? ⟨p9, 0, none⟩ = some (.slice ac cs.length cc) ∧ w'.cell? ⟨p9, 1, none⟩ = some (.int .i64 (ny + j)) ∧
              w'.cell? ⟨w2.heap.size, 0, none⟩ = some (.slice aa xs.length ca) ∧ w'.cell? ⟨w2.heap.size, 1, none⟩ = some (.int .i64 n) ∧
              w'.cell? ⟨w2.heap.size + 1, 0, none⟩ = some (.slice a n c) ∧ w'.cell? ⟨w2.heap.size + 1, 1, none⟩ = some (.int .i64 (ny + j)) := fun w' h =>
            ⟨(hC5.below h hC5.lt).cell 0 _ rfl, (hC5.below h hC5.lt).cell 1 _ rfl, (hA5.below h hA5.lt).cell 0 _ rfl, (hA5.below h hA5.lt).cell 1 _ rfl, (hM5.below h hM5.lt).cell 0 _ rfl, (hM5.below h hM5.lt).cell 1 _ rfl⟩
          have HCELLS := Lib.hid hcells
          clear hcells hC5 hM5 hA5
          go_region_held3 (fun w' => Below W5.heap.size W5 w' ∧ w'.cell? ⟨p9, 0, none⟩ = some (.slice ac cs.length cc) ∧ w'.cell? ⟨p9, 1, none⟩ = some (.int .i64 (ny + j)) ∧
              w'.cell? ⟨w2.heap.size, 0, none⟩ = some (.slice aa xs.length ca) ∧ w'.cell? ⟨w2.heap.size, 1, none⟩ = some (.int .i64 n) ∧
              w'.cell? ⟨w2.heap.size + 1, 0, none⟩ = some (.slice a n c) ∧ w'.cell? ⟨w2.heap.size + 1, 1, none⟩ = some (.int .i64 (ny + j)))
            (first
              | exact ⟨held_step hnow hbn, HCELLS.out _ (held_step hnow hbn)⟩
              | exact ⟨(Below.refl _ _).drew, HCELLS.out _ (Below.refl _ _).drew⟩
              | go_keep)
            (first
              | (go_at_call 16; have hnow : Below W5.heap.size W5 _ := (by go_split_ands; assumption); refine (HM.out _ (hRc5.below hnow)).mono ?_; rintro e wn ⟨rfl, hbn⟩)
              | (go_at_call 13; have hnow : Below W5.heap.size W5 _ := (by go_split_ands; assumption); refine (awake_any _).mono ?_; rintro e wn ⟨rfl, hbn⟩)
              | (go_at_call 17; have hnow : Below W5.heap.size W5 _ := (by go_split_ands; assumption); with_reducible refine (HIC.out _ (hRc5.below hnow)).mono ?_; rintro e wn ⟨rfl, hbn⟩)
              | (go_at_call 17; have hnow : Below W5.heap.size W5 _ := (by go_split_ands; assumption); with_reducible refine (HIA.out _ (hRa5.below hnow)).mono ?_; rintro e wn ⟨rfl, hbn⟩)
              | (go_at_call 17; have hnow : Below W5.heap.size W5 _ := (by go_split_ands; assumption); with_reducible refine (HIB.out _ (hRb5.below hnow)).mono ?_; rintro e wn ⟨rfl, hbn⟩))
          go_wp2
          go_ret
          exact ⟨rfl, hlast.trans ((held_step hnow hbn).mono hlast.size)⟩

end Go.Proofs.Ytdccpnaolcpohaa
