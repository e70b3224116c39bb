/- DiskKeeps's walk. -/
import Derived.Test.YtbnnjiaegoedoaaDJ
namespace Go.Proofs.Ytbnnjiaegoedoaa
open Go.RowKit

theorem RowK.at {K : IntKind} {w : World} {B : Nat} {a : Option Addr} {xs : List Int} (h : RowK K B w a xs) (k : Nat) (hk : k < xs.length) : ∃ b off, a = some ⟨b, off, none⟩ ∧ b < w.heap.size ∧ w.cell? ⟨b, off + k, none⟩ = some (.int K (xs.getD k 0)) := by
  rcases h with h | ⟨b, off, e, _, hb, hc⟩
  · subst h; simp at hk
  · exact ⟨b, off, e, hb, hc k hk⟩
theorem cell_keep {w w' : World} {a : Addr} {v : Value} (h : w.cell? a = some v) (hb : Below w.heap.size w w') : w'.cell? a = some v := by
  rw [hb.cell (World.block_lt_of_cell? w a h)]; exact h
theorem RowB.at {N : Nat} {w : World} {a : Option Addr} {ks : List Bool} (h : RowB N w a ks) (k : Nat) (hk : k < ks.length) : ∃ b off, a = some ⟨b, off, none⟩ ∧ w.cell? ⟨b, off + k, none⟩ = some (.bool (ks.getD k false)) := by
  rcases h with h | ⟨b, off, e, _, hc⟩
  · subst h; simp at hk
  · exact ⟨b, off, e, hc k hk⟩
theorem Bys.blk {w : World} {g : Nat} {bs : List UInt8} (h : Blk w g (byv bs) 5) : Bys 0 w (some ⟨g, 0, none⟩) bs :=
  RowK.of_blk (rest := []) (by rw [List.append_nil, byv_nums]; exact h) (Nat.zero_le _)

theorem conv64 {w : World} {a : Option Addr} {cap : Nat} {bs : List UInt8} (h : Bys 0 w a bs) (hl : bs.length = 64) : (convert 22 9 (.slice a 64 cap)).run Try.prog w = .ok (.string ⟨bs.toArray⟩) w := by
  have := conv_bys (cap := cap) h; rw [hl] at this; exact this
theorem OwnB.bys {w : World} {B : Nat} {a : Option Addr} {cap : Nat} {bs : List UInt8} (h : OwnB w B (.slice a 64 cap) bs) (hl : bs.length = 64) : Bys 0 w a bs := by
  obtain ⟨a', cap', e, _, hB⟩ := h.row
  simp only [Value.slice.injEq] at e
  obtain ⟨rfl, _, rfl⟩ := e
  exact hB.from (Nat.zero_le _)

set_option maxRecDepth 100000 in
set_option maxHeartbeats 40000000 in
theorem diskKeeps_walk (w : World) (a0 a1 a2 : Option Addr) (cap0 cap1 cap2 : Nat) (ns ms : List Int) (ks : List Bool) (h0 : RowK .u8 0 w a0 ns) (h1 : RowK .u8 0 w a1 ms) (h2 : RowB w.heap.size w a2 ks)
    (hb0 : ∀ i, 0 ≤ ns.getD i 0 ∧ ns.getD i 0 ≤ 255) (hb1 : ∀ i, 0 ≤ ms.getD i 0 ∧ ms.getD i 0 ≤ 255) :
    Calls Try.prog 3 #[.slice a0 ns.length cap0, .slice a1 ms.length cap1, .slice a2 ks.length cap2] w fun e w' => e = .returned (.bool true) ∧ Below w.heap.size w w' := by
  have HB0 := Lib.hid hb0
  have HB1 := Lib.hid hb1
  have HR0 := Lib.hid h0
  have HR1 := Lib.hid h1
  have HR2 := Lib.hid h2
  clear hb0 hb1 h0 h1 h2
  by_cases c0 : ns.length > 20
  · have c0' : (ns.length : Int) > 20 := by omega
    go_enter Try.func3, Try.ntmps3
    go_wp2_with (go_at_call 5; refine (awake_any _).mono ?_; rintro e w1 ⟨rfl, hb⟩)
    go_ret
    exact ⟨rfl, hb⟩
  have c0' : ¬ (ns.length : Int) > 20 := by omega
  by_cases c1 : ms.length > 20
  · have c1' : (ms.length : Int) > 20 := by omega
    go_enter Try.func3, Try.ntmps3
    go_wp2_with (go_at_call 5; refine (awake_any _).mono ?_; rintro e w1 ⟨rfl, hb⟩)
    go_ret
    exact ⟨rfl, hb⟩
  have c1' : ¬ (ms.length : Int) > 20 := by omega
  by_cases c2 : ks.length > 30
  · have c2' : (ks.length : Int) > 30 := by omega
    go_enter Try.func3, Try.ntmps3
    go_wp2_with (go_at_call 5; refine (awake_any _).mono ?_; rintro e w1 ⟨rfl, hb⟩)
    go_ret
    exact ⟨rfl, hb⟩
  have c2' : ¬ (ks.length : Int) > 30 := by omega
  have HN : ∀ w : World, Calls Try.prog 6 #[.agg #[.int .i64 24, .int .i64 0, .slice none 0 0]] w fun e w' => ∃ d B, e = .returned (.pointer (some ⟨d, 0, none⟩)) ∧
    DiskAt w' d B (List.replicate 24 Sec.zero) 0 ∧ Below w.heap.size w w' ∧ w.heap.size ≤ d ∧ w.heap.size ≤ B := fun w => new_any w 24 (by omega) (by omega)
  go_enter Try.func3, Try.ntmps3
  go_wp2_with (go_at_call 6; refine (HN _).mono ?_; rintro e w1 ⟨d, B, rfl, hD1, hb1, hd, hB⟩)
  clear HN
  go_loopg [8] ns.length (fun G x wr => ∃ (k : Nat) (c : Int), k ≤ ns.length ∧ G = ns.length - k ∧ x = .int .i64 k ∧ DiskAt wr d B (mk (f1 ns k)) c ∧ Below w.heap.size w wr)
  case atStart => exact ⟨0, 0, Nat.zero_le _, rfl, rfl, by rw [f1_zero]; exact hD1, hb1⟩
  case round =>
    clear hD1 hb1
    obtain ⟨k, c, hk, rfl, rfl, hD, hbel⟩ := hrel
    by_cases hlt : k < ns.length
    · have hk0 : (0 : Int) ≤ (k : Int) := Int.natCast_nonneg _
      have hk1 : (k : Int) < (ns.length : Int) := by omega
      obtain ⟨b, off, rfl, _, hc⟩ := (HR0.out.keep (Nat.le_refl _) hbel).at k hlt
      have HST := Lib.hid (f1_step ns k)
      have HAT := Lib.hid (f1_at ns k (by omega))
      have HLE := Lib.hid (mk_length (f1 ns k))
      have HZB := Lib.hid (HB0.out k)
      have HNE : Hid (∀ x, some (⟨wr.heap.size, 0, none⟩ : Addr) = some x → x.block ≠ d ∧ x.block ≠ B) := fun x hx => by
        have e1 := hD.blk.lt
        have e2 := hD.lt
        simp only [Option.some.injEq] at hx; subst hx
        exact ⟨by show wr.heap.size ≠ d; omega, by show wr.heap.size ≠ B; omega⟩
      generalize mk (f1 ns k) = l at *
      generalize ns.getD k 0 = z at *
      go_wp2_with (first
        | (go_at_call 8; refine (sector_any _ z HZB.out.1 HZB.out.2).mono ?_; rintro e w2 ⟨rfl, hS, hb2⟩)
        | (go_at_call 7; refine (write_any w2 d B w.heap.size _ c k Sec.zero _ 64 (secB z) (hD.below hb2) HAT.out (secB_length z) (Nat.le_of_eq HLE.out) (Bys.blk hS) hd hB HNE.out).mono ?_; rintro e w3 ⟨rfl, c3, hD3, hb3⟩))
      go_roundg (ns.length - (k + 1))
      case measure => omega
      case rel => exact ⟨k + 1, c3, by omega, rfl, by go_num, by rw [← HST.out]; exact hD3, hbel.trans ((hb2.mono hbel.size).trans hb3)⟩
    · have hk1 : ¬ (k : Int) < (ns.length : Int) := by omega
      have e : k = ns.length := by omega
      subst e
      clear hlt hk
      go_wp2_with (go_at_call 9; refine (sync_any _ d B w.heap.size _ c hD (Nat.le_of_eq (mk_length _)) hd hB).mono ?_; rintro e w4 ⟨rfl, c4, hD4, hb4⟩)
      rw [f2_settled] at hD4
      replace hb4 := hbel.trans hb4
      clear hD hbel
      go_loopg [10] ms.length (fun G x wr => ∃ (k : Nat) (c : Int), k ≤ ms.length ∧ G = ms.length - k ∧ x = .int .i64 k ∧ DiskAt wr d B (mk (f3 ns ms ns.length k)) c ∧ Below w.heap.size w wr)
      case atStart => exact ⟨0, c4, Nat.zero_le _, rfl, rfl, by rw [f3_zero]; exact hD4, hb4⟩
      case round =>
        clear hD4 hb4
        obtain ⟨k, c, hk, rfl, rfl, hD, hbel⟩ := hrel
        by_cases hlt : k < ms.length
        · have hk0 : (0 : Int) ≤ (k : Int) := Int.natCast_nonneg _
          have hk1 : (k : Int) < (ms.length : Int) := by omega
          obtain ⟨b, off, rfl, _, hc⟩ := (HR1.out.keep (Nat.le_refl _) hbel).at k hlt
          have HST := Lib.hid (f3_step ns ms ns.length k)
          have HAT := Lib.hid (f3_at ns ms ns.length k (by omega))
          have HLE := Lib.hid (mk_length (f3 ns ms ns.length k))
          have HZB := Lib.hid (HB1.out k)
          have HNE : Hid (∀ x, some (⟨wr.heap.size, 0, none⟩ : Addr) = some x → x.block ≠ d ∧ x.block ≠ B) := fun x hx => by
            have e1 := hD.blk.lt
            have e2 := hD.lt
            simp only [Option.some.injEq] at hx; subst hx
            exact ⟨by show wr.heap.size ≠ d; omega, by show wr.heap.size ≠ B; omega⟩
          generalize mk (f3 ns ms ns.length k) = l at *
          generalize ms.getD k 0 = z at *
          generalize f2 ns ns.length (k + 4) = s at *
          have hk4 : (k : Int) + 4 ≤ 100 := by omega
          have hk5 : (0 : Int) ≤ (k : Int) + 4 := by omega
          have HWR : Hid (∀ w2, Blk w2 wr.heap.size (byv (secB z)) 5 → Below wr.heap.size wr w2 → Calls Try.prog 7 #[.pointer (some ⟨d, 0, none⟩), .int .i64 ((k : Int) + 4), .slice (some ⟨wr.heap.size, 0, none⟩) 64 64] w2 fun e w' => e = .returned (.int .i64 0) ∧ ∃ c', DiskAt w' d B (l.set (k + 4) ⟨secB z, s.safe, true⟩) c' ∧ Below w.heap.size w2 w') := fun w2 hS hb2 => by
            have := write_any w2 d B w.heap.size _ c (k + 4) s _ 64 (secB z) (hD.below hb2) HAT.out (secB_length z) (Nat.le_of_eq HLE.out) (Bys.blk hS) hd hB HNE.out
            rw [show ((k + 4 : Nat) : Int) = (k : Int) + 4 from by omega] at this
            exact this
          go_wp2_with (first
            | (go_at_call 8; refine (sector_any _ z HZB.out.1 HZB.out.2).mono ?_; rintro e w2 ⟨rfl, hS, hb2⟩)
            | (go_at_call 7; refine (HWR.out w2 hS hb2).mono ?_; rintro e w3 ⟨rfl, c3, hD3, hb3⟩))
          go_roundg (ms.length - (k + 1))
          case measure => omega
          case rel => exact ⟨k + 1, c3, by omega, rfl, by go_num, by rw [← HST.out]; exact hD3, hbel.trans ((hb2.mono hbel.size).trans hb3)⟩
        · have hk1 : ¬ (k : Int) < (ms.length : Int) := by omega
          have e : k = ms.length := by omega
          subst e
          clear hlt hk
          have HLO := loose_any wr d B _ c hD (Nat.le_of_eq (mk_length _))
          rw [mk_length, f3_count _ _ _ _ 24 (Nat.le_refl _), show min (24 - 4) ms.length = ms.length by omega] at HLO
          go_wp2_with (go_at_call 10; refine HLO.mono ?_; rintro e w5 ⟨rfl, hb5⟩)
          have hD5 := hD.below hb5
          have hbel5 := hbel.trans (hb5.mono hbel.size)
          have HFA : Calls Try.prog 11 #[.pointer (some ⟨d, 0, none⟩), .agg #[.int .i64 0, .int .i64 0, .slice a2 ks.length cap2]] w5 fun e w' => e = .returned (.tuple #[]) ∧ DiskAt w' d B (finL ns ms ks) 0 ∧ Below w.heap.size w5 w' :=
            fall_any w5 d B w.heap.size _ c 0 a2 cap2 ks hD5 (Nat.le_of_eq (mk_length _)) hd hB (by omega) (HR2.out.keep hbel5)
          clear hD HLO
          go_wp2_with (go_at_call 11; refine HFA.mono ?_; rintro e w6 ⟨rfl, hD6, hb6⟩)
          have hbel6 := hbel5.trans hb6
          have HL2 := loose_any w6 d B _ 0 hD6 (Nat.le_of_eq (finL_length _ _ _))
          rw [finL_loose] at HL2
          clear HFA hD5 hbel5 hb5 hbel hb6
          go_wp2_with (first
            | (go_at_call 12; refine (num_any _ _).mono ?_; rintro e w7 ⟨rfl, rfl⟩)
            | (go_at_call 10; refine HL2.mono ?_; rintro e w8 ⟨rfl, hb8⟩))
          have hD8 := hD6.below hb8
          have hbel8 := hbel6.trans (hb8.mono hbel6.size)
          clear hD6 hbel6 hb8 HL2
          have hz64 : (madeCells #[.int .u8 0] 64) = (byv zeros64).toArray := by
            apply Array.ext'
            rw [List.toList_toArray, toList_madeCells_one]; exact (byv_zeros 64).symm
          have hmk : ∀ w : World, (Instr.makeSlice 22 (.int .i64 64) (.int .i64 64)).run Try.prog w = .ok (.slice (some ⟨w.heap.size, 0, none⟩) 64 64) (w.alloc (.cells (byv zeros64).toArray 5)) := fun w => by
            rw [← hz64]; exact run_make_row' (P := Try.prog) 22 5 (.int .u8 0) 1 Try.underlying22 Try.info5 rfl .i64 .i64 64 (by omega) (by omega) w
          clear hz64
          go_loopg [12] 24 (fun G x wr => ∃ k : Nat, k ≤ 24 ∧ G = 24 - k ∧ x = .int .i64 k ∧ DiskAt wr d B (finL ns ms ks) 0 ∧ Below w.heap.size w wr)
          case atStart => exact ⟨0, Nat.zero_le _, rfl, rfl, hD8, hbel8⟩
          case round =>
            clear hD8 hbel8
            obtain ⟨i, hi, rfl, rfl, hD, hbel⟩ := hrel
            by_cases hlt : i < 24
            · have hi0 : (0 : Int) ≤ (i : Int) := Int.natCast_nonneg _
              have hi1 : (i : Int) < 24 := by omega
              obtain ⟨s, hs, hnow⟩ := finL_at ns ms ks i hlt
              have hok := (hD.secs.2 i s hs).1
              have HLF := Lib.hid (finL_length ns ms ks)
              generalize finL ns ms ks = l at *
              have HRD : Hid (∀ V, DiskAt V d B l 0 → Calls Try.prog 13 #[.pointer (some ⟨d, 0, none⟩), .int .i64 i] V fun e w' => ∃ a cap, e = .returned (.tuple #[.slice a 64 cap, .int .i64 0]) ∧ OwnB w' V.heap.size (.slice a 64 cap) s.now ∧ Below V.heap.size V w') := fun V hV => read_any V d B l 0 i s hV hs (Nat.le_of_eq HLF.out)
              have hs64 := hok.1
              generalize s.now = fin at *
              have HFIN := Lib.hid hnow
              clear hnow
              by_cases hn : i < ns.length
              · have hn1 : (i : Int) < (ns.length : Int) := by omega
                obtain ⟨b, off, rfl, _, hc⟩ := (HR0.out.keep (Nat.le_refl _) hbel).at i hn
                have HZB := Lib.hid (HB0.out i)
                by_cases h4 : i < 4
                · have h4' : ¬ (0 : Int) ≤ (i : Int) - 4 := by omega
                  have HW : Hid (wantL ns ms ks i = secB (ns.getD i 0)) := by show wantL ns ms ks i = _; unfold wantL; rw [if_neg (by omega), if_pos hn]
                  generalize ns.getD i 0 = z at *
                  have e := HFIN.out.trans HW.out
                  clear HW HFIN
                  subst e
                  go_upto_region 23 with fail
                  have hbw := (Below.refl wr.heap.size wr).alloc (Nat.le_refl _) (.cells (byv zeros64).toArray 5)
                  have hDm := hD.below hbw
                  have hbelm := hbel.trans (hbw.mono hbel.size)
                  have hSm := Blk.new wr (byv zeros64) 5
                  replace hc := cell_keep hc hbw
                  clear hD hbel hbw
                  generalize wr.alloc (.cells (byv zeros64).toArray 5) = W1 at *
                  generalize wr.heap.size = g at *
                  go_wp2_with (first
                    | (go_at_call 8; with_reducible refine (sector_any _ z HZB.out.1 HZB.out.2).mono ?_; rintro e w2 ⟨rfl, hS2, hb2⟩; have hD2 := hDm.below hb2; have hbel2 := hbelm.trans (hb2.mono hbelm.size))
                    | (go_at_call 13; with_reducible refine (HRD.out _ hD2).mono ?_; rintro e w4 ⟨a4, c4, rfl, hO, hb4⟩; have hv1 := conv64 (cap := c4) (OwnB.bys hO (secB_length _)) (secB_length _); have hv2 := conv64 (cap := 64) ((Bys.blk hS2).below hb4) (secB_length _))
                    | (go_at_call 12; refine (num_any _ _).mono ?_; rintro e w7 ⟨rfl, rfl⟩))
                  go_roundg (24 - (i + 1))
                  case measure => omega
                  case rel => exact ⟨i + 1, by omega, rfl, by go_num, hD2.below hb4, hbel2.trans (hb4.mono hbel2.size)⟩
                · obtain ⟨j, hj⟩ : ∃ j : Nat, i - 4 = j := ⟨_, rfl⟩
                  have hij : (i : Int) - 4 = (j : Int) := by omega
                  have hj0 : (0 : Int) ≤ (j : Int) := Int.natCast_nonneg _
                  by_cases hm : j < ms.length
                  · have hm1 : (j : Int) < (ms.length : Int) := by omega
                    by_cases hk0 : ks = []
                    · subst hk0
                      have HW : Hid (wantL ns ms [] i = secB (ns.getD i 0)) := by show wantL ns ms [] i = _; unfold wantL; rw [if_neg (fun h => by have := h.2.2; simp [kept] at this), if_pos hn]
                      generalize ns.getD i 0 = z at *
                      have e := HFIN.out.trans HW.out
                      clear HW HFIN
                      subst e
                      go_upto_region 23 with fail
                      have hbw := (Below.refl wr.heap.size wr).alloc (Nat.le_refl _) (.cells (byv zeros64).toArray 5)
                      have hDm := hD.below hbw
                      have hbelm := hbel.trans (hbw.mono hbel.size)
                      have hSm := Blk.new wr (byv zeros64) 5
                      replace hc := cell_keep hc hbw
                      clear hD hbel hbw
                      generalize wr.alloc (.cells (byv zeros64).toArray 5) = W1 at *
                      generalize wr.heap.size = g at *
                      go_wp2_with (first
                        | (go_at_call 8; with_reducible refine (sector_any _ z HZB.out.1 HZB.out.2).mono ?_; rintro e w2 ⟨rfl, hS2, hb2⟩; have hD2 := hDm.below hb2; have hbel2 := hbelm.trans (hb2.mono hbelm.size))
                        | (go_at_call 13; with_reducible refine (HRD.out _ hD2).mono ?_; rintro e w4 ⟨a4, c4, rfl, hO, hb4⟩; have hv1 := conv64 (cap := c4) (OwnB.bys hO (secB_length _)) (secB_length _); have hv2 := conv64 (cap := 64) ((Bys.blk hS2).below hb4) (secB_length _))
                        | (go_at_call 12; refine (num_any _ _).mono ?_; rintro e w7 ⟨rfl, rfl⟩))
                      go_roundg (24 - (i + 1))
                      case measure => omega
                      case rel => exact ⟨i + 1, by omega, rfl, by go_num, hD2.below hb4, hbel2.trans (hb4.mono hbel2.size)⟩
                    · have hkl : 0 < ks.length := List.length_pos_iff.2 hk0
                      have hkl1 : (0 : Int) < (ks.length : Int) := by omega
                      have hkl2 : ¬ (ks.length : Int) = 0 := by omega
                      have hmod := mod_at j ks.length hkl
                      have hmlt := Nat.mod_lt j hkl
                      have HKP : kept ks (i - 4) = ks.getD (j % ks.length) false := by rw [hj]; rfl
                      obtain ⟨bk, ok, rfl, hck⟩ := (HR2.out.keep hbel).at _ hmlt
                      generalize j % ks.length = q at *
                      have q0 : (0 : Int) ≤ (q : Int) := Int.natCast_nonneg _
                      have q1 : (q : Int) < (ks.length : Int) := by omega
                      cases hq : ks.getD q false with
                      | true =>
                        rw [hq] at hck HKP
                        clear hq
                        obtain ⟨bm, om, rfl, _, hcm⟩ := (HR1.out.keep (Nat.le_refl _) hbel).at j hm
                        have HYB := Lib.hid (HB1.out j)
                        have hy : ms.getD j 0 = ms.getD (i - 4) 0 := by rw [hj]
                        rw [hy] at hcm HYB
                        have HW : Hid (wantL ns ms ks i = secB (ms.getD (i - 4) 0)) := by show wantL ns ms ks i = _; unfold wantL; exact if_pos ⟨by omega, by omega, HKP⟩
                        clear HKP
                        generalize ns.getD i 0 = z at *
                        generalize ms.getD (i - 4) 0 = y at *
                        have e := HFIN.out.trans HW.out
                        clear HW HFIN
                        subst e
                        go_upto_region 23 with fail
                        have hbw := (Below.refl wr.heap.size wr).alloc (Nat.le_refl _) (.cells (byv zeros64).toArray 5)
                        have hDm := hD.below hbw
                        have hbelm := hbel.trans (hbw.mono hbel.size)
                        have hSm := Blk.new wr (byv zeros64) 5
                        replace hc := cell_keep hc hbw
                        replace hck := cell_keep hck hbw
                        replace hcm := cell_keep hcm hbw
                        clear hD hbel hbw
                        generalize wr.alloc (.cells (byv zeros64).toArray 5) = W1 at *
                        generalize wr.heap.size = g at *
                        go_wp2_with (first
                          | (go_at_call 8; with_reducible refine (sector_any _ z HZB.out.1 HZB.out.2).mono ?_; rintro e w2 ⟨rfl, hS2, hb2⟩; have hD2 := hDm.below hb2; have hbel2 := hbelm.trans (hb2.mono hbelm.size); have hck2 := cell_keep hck hb2; have hcm2 := cell_keep hcm hb2)
                          | (go_at_call 8; with_reducible refine (sector_any _ y HYB.out.1 HYB.out.2).mono ?_; rintro e w3 ⟨rfl, hS3, hb3⟩; have hD3 := hD2.below hb3; have hbel3 := hbel2.trans (hb3.mono hbel2.size))
                          | (go_at_call 13; with_reducible refine (HRD.out _ hD3).mono ?_; rintro e w4 ⟨a4, c4, rfl, hO, hb4⟩; have hv1 := conv64 (cap := c4) (OwnB.bys hO (secB_length _)) (secB_length _); have hv2 := conv64 (cap := 64) ((Bys.blk hS3).below hb4) (secB_length _))
                          | (go_at_call 12; refine (num_any _ _).mono ?_; rintro e w7 ⟨rfl, rfl⟩))
                        go_roundg (24 - (i + 1))
                        case measure => omega
                        case rel => exact ⟨i + 1, by omega, rfl, by go_num, hD3.below hb4, hbel3.trans (hb4.mono hbel3.size)⟩
                      | false =>
                        rw [hq] at hck HKP
                        clear hq
                        have HW : Hid (wantL ns ms ks i = secB (ns.getD i 0)) := by show wantL ns ms ks i = _; unfold wantL; rw [if_neg (fun h => by have := h.2.2; rw [HKP] at this; simp at this), if_pos hn]
                        clear HKP
                        generalize ns.getD i 0 = z at *
                        have e := HFIN.out.trans HW.out
                        clear HW HFIN
                        subst e
                        go_upto_region 23 with fail
                        have hbw := (Below.refl wr.heap.size wr).alloc (Nat.le_refl _) (.cells (byv zeros64).toArray 5)
                        have hDm := hD.below hbw
                        have hbelm := hbel.trans (hbw.mono hbel.size)
                        have hSm := Blk.new wr (byv zeros64) 5
                        replace hc := cell_keep hc hbw
                        replace hck := cell_keep hck hbw
                        clear hD hbel hbw
                        generalize wr.alloc (.cells (byv zeros64).toArray 5) = W1 at *
                        generalize wr.heap.size = g at *
                        go_wp2_with (first
                          | (go_at_call 8; with_reducible refine (sector_any _ z HZB.out.1 HZB.out.2).mono ?_; rintro e w2 ⟨rfl, hS2, hb2⟩; have hD2 := hDm.below hb2; have hbel2 := hbelm.trans (hb2.mono hbelm.size); have hck2 := cell_keep hck hb2)
                          | (go_at_call 13; with_reducible refine (HRD.out _ hD2).mono ?_; rintro e w4 ⟨a4, c4, rfl, hO, hb4⟩; have hv1 := conv64 (cap := c4) (OwnB.bys hO (secB_length _)) (secB_length _); have hv2 := conv64 (cap := 64) ((Bys.blk hS2).below hb4) (secB_length _))
                          | (go_at_call 12; refine (num_any _ _).mono ?_; rintro e w7 ⟨rfl, rfl⟩))
                        go_roundg (24 - (i + 1))
                        case measure => omega
                        case rel => exact ⟨i + 1, by omega, rfl, by go_num, hD2.below hb4, hbel2.trans (hb4.mono hbel2.size)⟩
                  · have hm1 : ¬ (j : Int) < (ms.length : Int) := by omega
                    have HW : Hid (wantL ns ms ks i = secB (ns.getD i 0)) := by show wantL ns ms ks i = _; unfold wantL; rw [if_neg (by omega), if_pos hn]
                    generalize ns.getD i 0 = z at *
                    have e := HFIN.out.trans HW.out
                    clear HW HFIN
                    subst e
                    go_upto_region 23 with fail
                    have hbw := (Below.refl wr.heap.size wr).alloc (Nat.le_refl _) (.cells (byv zeros64).toArray 5)
                    have hDm := hD.below hbw
                    have hbelm := hbel.trans (hbw.mono hbel.size)
                    have hSm := Blk.new wr (byv zeros64) 5
                    replace hc := cell_keep hc hbw
                    clear hD hbel hbw
                    generalize wr.alloc (.cells (byv zeros64).toArray 5) = W1 at *
                    generalize wr.heap.size = g at *
                    go_wp2_with (first
                      | (go_at_call 8; with_reducible refine (sector_any _ z HZB.out.1 HZB.out.2).mono ?_; rintro e w2 ⟨rfl, hS2, hb2⟩; have hD2 := hDm.below hb2; have hbel2 := hbelm.trans (hb2.mono hbelm.size))
                      | (go_at_call 13; with_reducible refine (HRD.out _ hD2).mono ?_; rintro e w4 ⟨a4, c4, rfl, hO, hb4⟩; have hv1 := conv64 (cap := c4) (OwnB.bys hO (secB_length _)) (secB_length _); have hv2 := conv64 (cap := 64) ((Bys.blk hS2).below hb4) (secB_length _))
                      | (go_at_call 12; refine (num_any _ _).mono ?_; rintro e w7 ⟨rfl, rfl⟩))
                    go_roundg (24 - (i + 1))
                    case measure => omega
                    case rel => exact ⟨i + 1, by omega, rfl, by go_num, hD2.below hb4, hbel2.trans (hb4.mono hbel2.size)⟩
              · have hn1 : ¬ (i : Int) < (ns.length : Int) := by omega
                by_cases h4 : i < 4
                · have h4' : ¬ (0 : Int) ≤ (i : Int) - 4 := by omega
                  have HW : Hid (wantL ns ms ks i = zeros64) := by show wantL ns ms ks i = _; unfold wantL; rw [if_neg (by omega), if_neg hn]
                  have e := HFIN.out.trans HW.out
                  clear HW HFIN
                  subst e
                  go_upto_region 23 with fail
                  have hbw := (Below.refl wr.heap.size wr).alloc (Nat.le_refl _) (.cells (byv zeros64).toArray 5)
                  have hDm := hD.below hbw
                  have hbelm := hbel.trans (hbw.mono hbel.size)
                  have hSm := Blk.new wr (byv zeros64) 5
                  clear hD hbel hbw
                  generalize wr.alloc (.cells (byv zeros64).toArray 5) = W1 at *
                  generalize wr.heap.size = g at *
                  go_wp2_with (first
                    | (go_at_call 13; with_reducible refine (HRD.out _ hDm).mono ?_; rintro e w4 ⟨a4, c4, rfl, hO, hb4⟩; have hv1 := conv64 (cap := c4) (OwnB.bys hO zeros64_length) zeros64_length; have hv2 := conv64 (cap := 64) ((Bys.blk hSm).below hb4) zeros64_length)
                    | (go_at_call 12; refine (num_any _ _).mono ?_; rintro e w7 ⟨rfl, rfl⟩))
                  go_roundg (24 - (i + 1))
                  case measure => omega
                  case rel => exact ⟨i + 1, by omega, rfl, by go_num, hDm.below hb4, hbelm.trans (hb4.mono hbelm.size)⟩
                · obtain ⟨j, hj⟩ : ∃ j : Nat, i - 4 = j := ⟨_, rfl⟩
                  have hij : (i : Int) - 4 = (j : Int) := by omega
                  have hj0 : (0 : Int) ≤ (j : Int) := Int.natCast_nonneg _
                  by_cases hm : j < ms.length
                  · have hm1 : (j : Int) < (ms.length : Int) := by omega
                    by_cases hk0 : ks = []
                    · subst hk0
                      have HW : Hid (wantL ns ms [] i = zeros64) := by show wantL ns ms [] i = _; unfold wantL; rw [if_neg (fun h => by have := h.2.2; simp [kept] at this), if_neg hn]
                      have e := HFIN.out.trans HW.out
                      clear HW HFIN
                      subst e
                      go_upto_region 23 with fail
                      have hbw := (Below.refl wr.heap.size wr).alloc (Nat.le_refl _) (.cells (byv zeros64).toArray 5)
                      have hDm := hD.below hbw
                      have hbelm := hbel.trans (hbw.mono hbel.size)
                      have hSm := Blk.new wr (byv zeros64) 5
                      clear hD hbel hbw
                      generalize wr.alloc (.cells (byv zeros64).toArray 5) = W1 at *
                      generalize wr.heap.size = g at *
                      go_wp2_with (first
                        | (go_at_call 13; with_reducible refine (HRD.out _ hDm).mono ?_; rintro e w4 ⟨a4, c4, rfl, hO, hb4⟩; have hv1 := conv64 (cap := c4) (OwnB.bys hO zeros64_length) zeros64_length; have hv2 := conv64 (cap := 64) ((Bys.blk hSm).below hb4) zeros64_length)
                        | (go_at_call 12; refine (num_any _ _).mono ?_; rintro e w7 ⟨rfl, rfl⟩))
                      go_roundg (24 - (i + 1))
                      case measure => omega
                      case rel => exact ⟨i + 1, by omega, rfl, by go_num, hDm.below hb4, hbelm.trans (hb4.mono hbelm.size)⟩
                    · have hkl : 0 < ks.length := List.length_pos_iff.2 hk0
                      have hkl1 : (0 : Int) < (ks.length : Int) := by omega
                      have hkl2 : ¬ (ks.length : Int) = 0 := by omega
                      have hmod := mod_at j ks.length hkl
                      have hmlt := Nat.mod_lt j hkl
                      have HKP : kept ks (i - 4) = ks.getD (j % ks.length) false := by rw [hj]; rfl
                      obtain ⟨bk, ok, rfl, hck⟩ := (HR2.out.keep hbel).at _ hmlt
                      generalize j % ks.length = q at *
                      have q0 : (0 : Int) ≤ (q : Int) := Int.natCast_nonneg _
                      have q1 : (q : Int) < (ks.length : Int) := by omega
                      cases hq : ks.getD q false with
                      | true =>
                        rw [hq] at hck HKP
                        clear hq
                        obtain ⟨bm, om, rfl, _, hcm⟩ := (HR1.out.keep (Nat.le_refl _) hbel).at j hm
                        have HYB := Lib.hid (HB1.out j)
                        have hy : ms.getD j 0 = ms.getD (i - 4) 0 := by rw [hj]
                        rw [hy] at hcm HYB
                        have HW : Hid (wantL ns ms ks i = secB (ms.getD (i - 4) 0)) := by show wantL ns ms ks i = _; unfold wantL; exact if_pos ⟨by omega, by omega, HKP⟩
                        clear HKP
                        generalize ms.getD (i - 4) 0 = y at *
                        have e := HFIN.out.trans HW.out
                        clear HW HFIN
                        subst e
                        go_upto_region 23 with fail
                        have hbw := (Below.refl wr.heap.size wr).alloc (Nat.le_refl _) (.cells (byv zeros64).toArray 5)
                        have hDm := hD.below hbw
                        have hbelm := hbel.trans (hbw.mono hbel.size)
                        have hSm := Blk.new wr (byv zeros64) 5
                        replace hck := cell_keep hck hbw
                        replace hcm := cell_keep hcm hbw
                        clear hD hbel hbw
                        generalize wr.alloc (.cells (byv zeros64).toArray 5) = W1 at *
                        generalize wr.heap.size = g at *
                        go_wp2_with (first
                          | (go_at_call 8; with_reducible refine (sector_any _ y HYB.out.1 HYB.out.2).mono ?_; rintro e w3 ⟨rfl, hS3, hb3⟩; have hD3 := hDm.below hb3; have hbel3 := hbelm.trans (hb3.mono hbelm.size))
                          | (go_at_call 13; with_reducible refine (HRD.out _ hD3).mono ?_; rintro e w4 ⟨a4, c4, rfl, hO, hb4⟩; have hv1 := conv64 (cap := c4) (OwnB.bys hO (secB_length _)) (secB_length _); have hv2 := conv64 (cap := 64) ((Bys.blk hS3).below hb4) (secB_length _))
                          | (go_at_call 12; refine (num_any _ _).mono ?_; rintro e w7 ⟨rfl, rfl⟩))
                        go_roundg (24 - (i + 1))
                        case measure => omega
                        case rel => exact ⟨i + 1, by omega, rfl, by go_num, hD3.below hb4, hbel3.trans (hb4.mono hbel3.size)⟩
                      | false =>
                        rw [hq] at hck HKP
                        clear hq
                        have HW : Hid (wantL ns ms ks i = zeros64) := by show wantL ns ms ks i = _; unfold wantL; rw [if_neg (fun h => by have := h.2.2; rw [HKP] at this; simp at this), if_neg hn]
                        clear HKP
                        have e := HFIN.out.trans HW.out
                        clear HW HFIN
                        subst e
                        go_upto_region 23 with fail
                        have hbw := (Below.refl wr.heap.size wr).alloc (Nat.le_refl _) (.cells (byv zeros64).toArray 5)
                        have hDm := hD.below hbw
                        have hbelm := hbel.trans (hbw.mono hbel.size)
                        have hSm := Blk.new wr (byv zeros64) 5
                        replace hck := cell_keep hck hbw
                        clear hD hbel hbw
                        generalize wr.alloc (.cells (byv zeros64).toArray 5) = W1 at *
                        generalize wr.heap.size = g at *
                        go_wp2_with (first
                          | (go_at_call 13; with_reducible refine (HRD.out _ hDm).mono ?_; rintro e w4 ⟨a4, c4, rfl, hO, hb4⟩; have hv1 := conv64 (cap := c4) (OwnB.bys hO zeros64_length) zeros64_length; have hv2 := conv64 (cap := 64) ((Bys.blk hSm).below hb4) zeros64_length)
                          | (go_at_call 12; refine (num_any _ _).mono ?_; rintro e w7 ⟨rfl, rfl⟩))
                        go_roundg (24 - (i + 1))
                        case measure => omega
                        case rel => exact ⟨i + 1, by omega, rfl, by go_num, hDm.below hb4, hbelm.trans (hb4.mono hbelm.size)⟩
                  · have hm1 : ¬ (j : Int) < (ms.length : Int) := by omega
                    have HW : Hid (wantL ns ms ks i = zeros64) := by show wantL ns ms ks i = _; unfold wantL; rw [if_neg (by omega), if_neg hn]
                    have e := HFIN.out.trans HW.out
                    clear HW HFIN
                    subst e
                    go_upto_region 23 with fail
                    have hbw := (Below.refl wr.heap.size wr).alloc (Nat.le_refl _) (.cells (byv zeros64).toArray 5)
                    have hDm := hD.below hbw
                    have hbelm := hbel.trans (hbw.mono hbel.size)
                    have hSm := Blk.new wr (byv zeros64) 5
                    clear hD hbel hbw
                    generalize wr.alloc (.cells (byv zeros64).toArray 5) = W1 at *
                    generalize wr.heap.size = g at *
                    go_wp2_with (first
                      | (go_at_call 13; with_reducible refine (HRD.out _ hDm).mono ?_; rintro e w4 ⟨a4, c4, rfl, hO, hb4⟩; have hv1 := conv64 (cap := c4) (OwnB.bys hO zeros64_length) zeros64_length; have hv2 := conv64 (cap := 64) ((Bys.blk hSm).below hb4) zeros64_length)
                      | (go_at_call 12; refine (num_any _ _).mono ?_; rintro e w7 ⟨rfl, rfl⟩))
                    go_roundg (24 - (i + 1))
                    case measure => omega
                    case rel => exact ⟨i + 1, by omega, rfl, by go_num, hDm.below hb4, hbelm.trans (hb4.mono hbelm.size)⟩
            · have hi1 : ¬ (i : Int) < 24 := by omega
              go_wp2_with (go_at_call 5; refine (awake_any _).mono ?_; rintro e w9 ⟨rfl, hb9⟩)
              go_ret
              exact ⟨rfl, hbel.trans (hb9.mono hbel.size)⟩
end Go.Proofs.Ytbnnjiaegoedoaa
