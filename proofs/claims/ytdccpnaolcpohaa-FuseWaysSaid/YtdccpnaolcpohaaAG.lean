/- The contracts of the reference's behind and nowhere. -/
import Derived.Test.YtdccpnaolcpohaaAB
namespace Go.Proofs.Ytdccpnaolcpohaa
open Go.RowKit

def behF (xs : List Int) (at_ : Int) : Nat → Int
  | 0 => -1
  | k + 1 => if 0 ≤ xs.getD k 0 ∧ xs.getD k 0 < at_ then k else behF xs at_ k
theorem behF_step (xs : List Int) (at_ : Int) (k : Nat) : behF xs at_ (k + 1) = if 0 ≤ xs.getD k 0 ∧ xs.getD k 0 < at_ then (k : Int) else behF xs at_ k := rfl

set_option maxHeartbeats 4000000 in
theorem rbehind_any (w : World) (a : Option Addr) (cap : Nat) (xs : List Int) (n at_ : Int) (h : Row 0 w a xs) (hl : xs.length ≤ 4294967296) :
    Calls Try.prog 53 #[.agg #[.slice a xs.length cap, .int .i64 n], .int .i64 at_] w fun e w' => e = .returned (.int .i64 (behF xs at_ xs.length)) ∧ Below w.heap.size w w' := by
  have B0 := (Below.refl w.heap.size w).alloc (Nat.le_refl _) (.cells #[.slice a xs.length cap, .int .i64 n] 26)
  have HH := Lib.hid h
  have HX := Blk.made (w := w) rfl [.slice a xs.length cap, .int .i64 n] 26
  clear h
  go_enter Try.func53, Try.ntmps53
  go_wp2_with fail
  generalize w.alloc (.cells #[.slice a xs.length cap, .int .i64 n] 26) = W1 at *
  go_loopg [5, 6] xs.length (fun g l c wr => ∃ (k : Nat) (t : Int), k ≤ xs.length ∧ g = xs.length - k ∧ c = .int .i64 k ∧ l = .int .i64 t ∧ Hid (t = behF xs at_ k) ∧ Below W1.heap.size W1 wr)
  case atStart => exact ⟨0, -1, Nat.zero_le _, rfl, rfl, rfl, rfl, Below.refl _ _⟩
  case round =>
    obtain ⟨k, t, hk, rfl, rfl, rfl, ht, hbel⟩ := hrel
    have hXr := HX.below hbel HX.lt
    have x0 := hXr.cell 0 _ rfl
    have BR := B0.trans (hbel.mono B0.size)
    by_cases hlt : k < xs.length
    · obtain ⟨b, off, rfl, _, hb, hc⟩ := ((HH.out.keep (Nat.le_refl _) B0).below hbel).at k hlt
      have HS := Lib.hid (behF_step xs at_ k)
      generalize xs.getD k 0 = x at *
      have hk0 : (0 : Int) ≤ (k : Int) := Int.natCast_nonneg _
      have hk1 : (k : Int) < (xs.length : Int) := by omega
      by_cases e1 : x ≥ 0
      · by_cases e2 : x < at_
        · have HN := Lib.hid (show behF xs at_ (k + 1) = k by rw [HS.out, if_pos ⟨e1, e2⟩])
          go_wp2
          go_roundg (xs.length - (k + 1))
          case measure => omega
          case rel => exact ⟨k + 1, k, by omega, rfl, by go_num, rfl, HN.out.symm, by first | exact hbel | exact below_drewN hbel _⟩
        · have HN := Lib.hid (show behF xs at_ (k + 1) = t by rw [HS.out, if_neg (fun h => e2 h.2), ht.out])
          go_wp2
          go_roundg (xs.length - (k + 1))
          case measure => omega
          case rel => exact ⟨k + 1, t, by omega, rfl, by go_num, rfl, HN.out.symm, by first | exact hbel | exact below_drewN hbel _⟩
      · have HN := Lib.hid (show behF xs at_ (k + 1) = t by rw [HS.out, if_neg (fun h => e1 h.1), ht.out])
        go_wp2
        go_roundg (xs.length - (k + 1))
        case measure => omega
        case rel => exact ⟨k + 1, t, by omega, rfl, by go_num, rfl, HN.out.symm, by first | exact hbel | exact below_drewN hbel _⟩
    · have HN := Lib.hid (show t = behF xs at_ xs.length by rw [ht.out, show k = xs.length by omega])
      go_wp2
      go_ret
      exact ⟨ret_int HN.out, BR⟩

/-- 'mapped' without pairs. -/
theorem mapped_nil (w : World) (n : Nat) (hn : n ≤ 4294967296) : Calls Try.prog 52 #[.int .i64 n, .slice none 0 0, .slice none 0 0, .int .i64 0] w (RetOwn w (gones n) 0) := by
  go_enter Try.func52, Try.ntmps52
  go_wp2_with fail
  go_loopg [10] n (fun g c wr => ∃ (k : Nat) (v : Option Addr) (cv : Nat), k ≤ n ∧ g = n - k ∧ c = .int .i64 k ∧ Blk wr w.heap.size [.slice none 0 0, .int .i64 0] 26 ∧
      Blk wr (w.heap.size + 1) [.slice v (gones k).length cv, .int .i64 0] 26 ∧ Own wr (w.heap.size + 1 + 1) (.slice v (gones k).length cv) (gones k) ∧ Below w.heap.size w wr)
  case atStart =>
    refine ⟨0, none, 0, Nat.zero_le _, rfl, rfl, ?_, ?_, ?_, ?_⟩
    · exact (Blk.made rfl _ _).alloc _
    · exact Blk.made (by simp) [.slice none 0 0, .int .i64 0] 26
    · exact Own.nil _ _
    · exact ((Below.refl _ _).alloc (Nat.le_refl _) _).alloc (by simp) _
  case round =>
    obtain ⟨k, v, cv, hk, rfl, rfl, hR, hM, hO, hbel⟩ := hrel
    have HG := Lib.hid (gones_length k)
    have HS := Lib.hid (gones_succ k)
    have m0 := hM.cell 0 _ rfl
    by_cases hlt : k < n
    · have hzl : (gones k).length ≤ 4294967296 := by have := HG.out; omega
      generalize gones k = zs at *
      go_wp2_with (at_builtin; refine append_int rfl _ _ rfl (w.heap.size + 1 + 1) _ zs (-1) wr.heap.size _ rfl rfl (hO.alloc _) ((Blk.made rfl [.int .i64 (-1)] 3).cell 0 _ rfl) (by omega) (by have := hM.lt; simp <;> omega) ?_)
      intro a' c' w2 hO2 hg2
      have hM2 := (hM.alloc (.cells #[.int .i64 (-1)] 3)).grown hg2 (own_ne hO hM (by decide))
      have hR2 := (hR.alloc (.cells #[.int .i64 (-1)] 3)).grown hg2 (own_ne hO hR (by decide))
      have hbl := below_grown (hbel.alloc hbel.size (.cells #[.int .i64 (-1)] 3)) (hO.alloc _) hg2 (by omega) (by have := hM.lt; simp <;> omega)
      have k0 := hM2.cell 0 _ rfl
      have k1 := hM2.free 0
      clear m0
      go_wp2
      go_roundg (n - (k + 1))
      case measure => omega
      case rel =>
        refine ⟨k + 1, a', c', by omega, rfl, by go_num, hR2.set_other (by simp <;> omega) _, ?_, ?_, hbl.setCell (by simp <;> omega) _⟩
        · rw [HS.out, List.length_append, List.length_singleton]; exact hM2.set 0 _
        · rw [HS.out, List.length_append, List.length_singleton]; exact hO2.set_blk hM2 (by decide) 0 _
    · have hkm : k = n := by omega
      have HZ := Lib.hid (show gones k = gones n by rw [hkm])
      clear hkm
      generalize gones k = zs at *
      have m1 := hM.cell 1 _ rfl
      have f0 := hR.free 0
      have f1 := hR.free 1
      have r0 := hR.cell 0 _ rfl
      have r1 := hR.cell 1 _ rfl
      have hR' := (hR.set 0 (.slice v zs.length cv)).set 1 (.int .i64 0)
      have c0 := hR'.cell 0 _ rfl
      have c1 := hR'.cell 1 _ rfl
      go_wp2_with fail
      go_loopg [11] 0 (fun g c ws => g = 0 ∧ c = .int .i64 0 ∧ ws = wr)
      case atStart => exact ⟨rfl, rfl, rfl⟩
      case round =>
        obtain ⟨rfl, rfl, rfl⟩ := hrel
        go_wp2
        refine bodyPost_ret (v := .agg #[.slice v zs.length cv, .int .i64 0]) (by simp [results, Try.results52, go_sem, c0, c1]) rfl ?_
        rw [← HZ.out]
        exact ⟨_, rfl, ((hO.set (by simp <;> omega) _).set (by simp <;> omega) _).from (by omega), (hbel.setCell (by simp <;> omega) _).setCell (by simp <;> omega) _⟩

theorem nowhere_any (w : World) (n : Nat) (hn : n ≤ 4294967296) : Calls Try.prog 49 #[.int .i64 n] w (RetOwn w (gones n) 0) := by
  have HC := Lib.hid (fun W => mapped_nil W n hn)
  go_enter Try.func49, Try.ntmps49
  go_wp2_with fail
  refine (HC.out _).mono ?_
  rintro e w1 ⟨v, rfl, hO, hb⟩
  obtain ⟨a, c, rfl, -⟩ := hO.row
  generalize gones n = gs at *
  have r0 := (res_blk hb).cell 0 _ rfl
  have r1 := (res_blk hb).cell 1 _ rfl
  have f0 := (res_blk hb).free 0
  have f1 := (res_blk hb).free 1
  have hR' := ((res_blk hb).set 0 (.slice a gs.length c)).set 1 (.int .i64 0)
  have c0 := hR'.cell 0 _ rfl
  have c1 := hR'.cell 1 _ rfl
  have hbel := res_below hb
  go_wp2_with fail
  refine bodyPost_ret (v := .agg #[.slice a gs.length c, .int .i64 0]) (by simp [results, Try.results49, go_sem, c0, c1]) rfl ?_
  exact ⟨_, rfl, ((hO.set (by simp <;> omega) _).set (by simp <;> omega) _).from (by simp <;> omega), (hbel.setCell (by simp <;> omega) _).setCell (by simp <;> omega) _⟩

end Go.Proofs.Ytdccpnaolcpohaa
