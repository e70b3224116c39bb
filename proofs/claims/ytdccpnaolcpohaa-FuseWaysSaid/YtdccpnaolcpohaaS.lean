/- The walk of the reference's Back. -/
import Derived.Test.YtdccpnaolcpohaaR
namespace Go.Proofs.Ytdccpnaolcpohaa
open Go.RowKit

theorem rep_succ (k : Nat) : List.replicate (k + 1) (-1 : Int) = List.replicate k (-1) ++ [-1] := by rw [List.replicate_succ']

def gones (k : Nat) : List Int := List.replicate k (-1)
theorem gones_succ (k : Nat) : gones (k + 1) = gones k ++ [-1] := rep_succ k
theorem gones_length (k : Nat) : (gones k).length = k := by simp [gones]

set_option maxHeartbeats 4000000 in
theorem rback_any (w : World) (a : Option Addr) (cap : Nat) (xs : List Int) (n : Nat) (h : Row 0 w a xs) (hu : UpP (-1) n xs) (hl : xs.length ≤ 4294967296) (hn : n ≤ 4294967296) :
    Calls Try.prog 30 #[.agg #[.slice a xs.length cap, .int .i64 n]] w (RetMap0 w (bck xs n) n xs.length) := by
  have HX : Hid (∀ (k : Nat) (x : Int), xs[k]? = some x → x ≠ -1 → -1 < x ∧ x < n) := hu.1
  have HEND := Lib.hid (rbF_back xs n hu)
  clear hu
  go_enter Try.func30, Try.ntmps30
  go_wp2_with fail
  go_loopg [4] n (fun g c wr => ∃ (k : Nat) (v : Option Addr) (cv : Nat), k ≤ n ∧ g = n - k ∧ c = .int .i64 k ∧ Blk wr w.heap.size [.slice a xs.length cap, .int .i64 n] 26 ∧ Blk wr (w.heap.size + 1) [.slice none 0 0, .int .i64 0] 26 ∧
      Blk wr (w.heap.size + 1 + 1) [.slice v (gones k).length cv, .int .i64 xs.length] 26 ∧ Own wr (w.heap.size + 1 + 1 + 1) (.slice v (gones k).length cv) (gones k) ∧ Below w.heap.size w wr)
  case atStart =>
    refine ⟨0, none, 0, Nat.zero_le _, rfl, rfl, ?_, ?_, ?_, ?_, ?_⟩
    · exact ((Blk.made rfl _ _).alloc _).alloc _
    · exact (Blk.made (by simp) _ _).alloc _
    · exact Blk.made (by simp) [.slice none 0 0, .int .i64 xs.length] 26
    · exact Own.nil _ _
    · exact (((Below.refl _ _).alloc (Nat.le_refl _) _).alloc (by simp) _).alloc (by simp <;> omega) _
  case round =>
    obtain ⟨k, v, cv, hk, rfl, rfl, hA, hR, hM, hO, hbel⟩ := hrel
    have HG := Lib.hid (gones_length k)
    have HS := Lib.hid (gones_succ k)
    by_cases hlt : k < n
    · have hzl : (gones k).length ≤ 4294967296 := by have := HG.out; omega
      generalize gones k = zs at *
      have a1 := hA.cell 1 _ rfl
      have m0 := hM.cell 0 _ rfl
      go_wp2_with (at_builtin; refine append_int rfl _ _ rfl (w.heap.size + 1 + 1 + 1) _ zs (-1) wr.heap.size _ rfl rfl (hO.alloc _) ((Blk.made rfl [.int .i64 (-1)] 3).cell 0 _ rfl) (by omega) (by have := hM.lt; simp <;> omega) ?_)
      intro a' c' w2 hO2 hg2
      have hM2 := (hM.alloc (.cells #[.int .i64 (-1)] 3)).grown hg2 (own_ne hO hM (by decide))
      have hA2 := (hA.alloc (.cells #[.int .i64 (-1)] 3)).grown hg2 (own_ne hO hA (by decide))
      have hR2 := (hR.alloc (.cells #[.int .i64 (-1)] 3)).grown hg2 (own_ne hO hR (by decide))
      have hbl := below_grown (hbel.alloc hbel.size (.cells #[.int .i64 (-1)] 3)) (hO.alloc _) hg2 (by omega) (by have := hM.lt; simp <;> omega)
      have k0 := hM2.cell 0 _ rfl
      have k1 := hM2.free 0
      clear a1 m0
      go_wp2
      go_roundg (n - (k + 1))
      case measure => omega
      case rel =>
        refine ⟨k + 1, a', c', by omega, rfl, by go_num, hA2.set_other (by simp <;> omega) _, hR2.set_other (by simp <;> omega) _, ?_, ?_, hbl.setCell (by simp <;> omega) _⟩
        · rw [HS.out, List.length_append, List.length_singleton]; exact hM2.set 0 _
        · rw [HS.out, List.length_append, List.length_singleton]; exact hO2.set_blk hM2 (by decide) 0 _
    · have hkn : k = n := by omega
      have H0 := Lib.hid (show gones k = rbF xs n 0 by rw [hkn]; rfl)
      have HLn := Lib.hid (show (gones k).length = n by rw [HG.out]; exact hkn)
      clear hkn
      have a1 := hA.cell 1 _ rfl
      generalize gones k = zs at *
      go_wp2_with fail
      clear a1 HG HS
      obtain ⟨wo, rfl⟩ : ∃ wo : World, wo = wr := ⟨_, rfl⟩
      go_loopg [5] xs.length (fun g c ws => ∃ (j : Nat) (us : List Int), j ≤ xs.length ∧ g = xs.length - j ∧ c = .int .i64 j ∧ Hid (us = rbF xs n j ∧ us.length = zs.length) ∧ Blk ws w.heap.size [.slice a xs.length cap, .int .i64 n] 26 ∧ Blk ws (w.heap.size + 1) [.slice none 0 0, .int .i64 0] 26 ∧
          Blk ws (w.heap.size + 1 + 1) [.slice v zs.length cv, .int .i64 xs.length] 26 ∧ Own ws (w.heap.size + 1 + 1 + 1) (.slice v zs.length cv) us ∧ Below w.heap.size w ws)
      case atStart => exact ⟨0, zs, Nat.zero_le _, rfl, rfl, ⟨H0.out, rfl⟩, hA, hR, hM, hO, hbel⟩
      case round =>
        obtain ⟨j, us, hj, rfl, rfl, HU, hA', hR', hM', hO', hbel'⟩ := hrel
        have a0 := hA'.cell 0 _ rfl
        have a1 := hA'.cell 1 _ rfl
        have m0 := hM'.cell 0 _ rfl
        have m1 := hM'.cell 1 _ rfl
        by_cases hlt2 : j < xs.length
        · obtain ⟨b, off, rfl, _, hbb, hc⟩ := h.at j hlt2
          have hxb := HX.out j (xs.getD j 0) (by simp [List.getD, hlt2])
          have HS1 := Lib.hid (fun x hx => rbF_set xs n j x hx)
          have HS2 := Lib.hid (fun x hx => rbF_skip xs n j x hx)
          generalize xs.getD j 0 = x at *
          have hcr : wr.cell? ⟨b, off + j, none⟩ = some (.int .i64 x) := by rw [hbel'.cell (p := ⟨b, off + j, none⟩) hbb]; exact hc
          clear hc
          have hk0 : (0 : Int) ≤ (j : Int) := Int.natCast_nonneg _
          have hk1 : (j : Int) < (xs.length : Int) := by omega
          by_cases hx : x ≥ 0
          · obtain ⟨m, rfl⟩ := Int.eq_ofNat_of_zero_le hx
            have hmn : m < n := by have := hxb (by omega); omega
            have hmu : m < us.length := by have := HU.out.2; have := HLn.out; omega
            obtain ⟨g, cv', e, hBg, hgl, hgf, hgc⟩ := hO'.place (by omega)
            simp only [Value.slice.injEq] at e
            obtain ⟨rfl, hlu, rfl⟩ := e
            clear hlu
            have hmz : (m : Int) < (zs.length : Int) := by have := HLn.out; omega
            have hm0 : (0 : Int) ≤ (m : Int) := Int.natCast_nonneg _
            have hcg := hgc m hmu
            have hfg := hgf m
            have hne : g ≠ b := by omega
            clear hgc hgf hxb
            go_wp2_with fail
            go_region_held3 (fun w' => w'.cell? ⟨w.heap.size + 1 + 1, 0, none⟩ = some (.slice (some ⟨g, 0, none⟩) zs.length cv) ∧ w'.cell? ⟨w.heap.size, 0, none⟩ = some (.slice (some ⟨b, off, none⟩) xs.length cap) ∧ w'.cell? ⟨b, off + j, none⟩ = some (.int .i64 m))
              (first
                | exact ⟨(World.cell?_setCell_other _ _ _ _ (by simp <;> omega)).trans m0, (World.cell?_setCell_other _ _ _ _ (by simp <;> omega)).trans a0, (World.cell?_setCell_other _ _ _ _ (by simp <;> omega)).trans hcr⟩
                | go_keep)
              (fail)
            go_wp2
            go_roundg (xs.length - (j + 1))
            case measure => omega
            case rel =>
              refine ⟨j + 1, us.set m j, by omega, rfl, by go_num, ⟨?_, by rw [List.length_set]; exact HU.out.2⟩, hA'.drew.set_other (by simp <;> omega) _, hR'.drew.set_other (by simp <;> omega) _, hM'.drew.set_other (by simp <;> omega) _, ?_, (hbel'.drew).setCell (by simp <;> omega) _⟩
              · rw [HU.out.1]; exact (HS1.out m rfl (by omega)).symm
              · exact Own.set_at (show Own wr.drew _ _ _ from hO') m j
          · have hx' : ¬ (x ≥ 0) := hx
            clear hxb
            go_wp2
            go_roundg (xs.length - (j + 1))
            case measure => omega
            case rel => exact ⟨j + 1, us, by omega, rfl, by go_num, ⟨by rw [HU.out.1]; exact (HS2.out x rfl hx').symm, HU.out.2⟩, hA', hR', hM', hO', hbel'⟩
        · have hjl : j = xs.length := by omega
          have HF := Lib.hid (show us = bck xs n by rw [HU.out.1, hjl]; exact HEND.out)
          have HLz := Lib.hid HLn.out
          clear hjl
          have hRr := hR'
          have r0 := hR'.cell 0 _ rfl
          have r1 := hR'.cell 1 _ rfl
          have f0 := hR'.free 0
          have f1 := hR'.free 1
          go_wp2
          have hR2 := (hR'.set 0 (.slice v zs.length cv)).set 1 (.int .i64 xs.length)
          have c0 := hR2.cell 0 _ rfl
          have c1 := hR2.cell 1 _ rfl
          refine bodyPost_ret (v := .agg #[.slice v zs.length cv, .int .i64 xs.length]) (by simp [results, Try.results30, go_sem, c0, c1]) rfl ?_
          have ho := ((hO'.set (a := ⟨w.heap.size + 1, 0, none⟩) (by simp <;> omega) (.slice v zs.length cv)).set (a := ⟨w.heap.size + 1, 1, none⟩) (by simp <;> omega) (.int .i64 xs.length)).row'.from (Nat.zero_le _)
          rw [HF.out] at ho
          rw [HLz.out]
          rw [HLz.out] at ho
          exact ⟨v, cv, rfl, ho, (hbel'.setCell (by simp <;> omega) _).setCell (by simp <;> omega) _⟩

end Go.Proofs.Ytdccpnaolcpohaa
