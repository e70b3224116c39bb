/- The contract of the reference's own. -/
import Derived.Test.YtdccpnaolcpohaaAG
namespace Go.Proofs.Ytdccpnaolcpohaa
open Go.RowKit

def ownR (bs xs : List Int) (g : Int) : Nat → List Int
  | 0 => []
  | k + 1 => if bs.getD k 0 < 0 ∧ behF xs k xs.length = g then ownR bs xs g k ++ [(k : Int)] else ownR bs xs g k
theorem ownR_yes (bs xs : List Int) (g : Int) (k : Nat) (h : bs.getD k 0 < 0) (h2 : behF xs k xs.length = g) : ownR bs xs g (k + 1) = ownR bs xs g k ++ [(k : Int)] := by rw [ownR, if_pos ⟨h, h2⟩]
theorem ownR_no (bs xs : List Int) (g : Int) (k : Nat) (h : ¬ (bs.getD k 0 < 0 ∧ behF xs k xs.length = g)) : ownR bs xs g (k + 1) = ownR bs xs g k := by rw [ownR, if_neg h]
theorem ownR_length (bs xs : List Int) (g : Int) (k : Nat) : (ownR bs xs g k).length ≤ k := by
  induction k with
  | zero => simp [ownR]
  | succ k ih =>
    rw [ownR]; split
    · rw [List.length_append, List.length_singleton]; omega
    · omega

set_option maxRecDepth 100000 in
set_option maxHeartbeats 4000000 in
theorem rown_any (w : World) (a : Option Addr) (cap : Nat) (xs : List Int) (n : Nat) (g : Int) (h : Row 0 w a xs) (hu : UpP (-1) n xs) (hl : xs.length ≤ 4294967296) (hn : n ≤ 4294967296) :
    Calls Try.prog 50 #[.agg #[.slice a xs.length cap, .int .i64 n], .int .i64 g] w (RetRow w (ownR (bck xs n) xs g n)) := by
  have HB : Hid (∀ W a c, Row 0 W a xs → Calls Try.prog 30 #[.agg #[.slice a xs.length c, .int .i64 n]] W (RetMap0 W (bck xs n) n xs.length)) := fun W a c h => rback_any W a c xs n h hu hl hn
  have HL := Lib.hid (bck_length xs n)
  clear hu
  generalize bck xs n = bs at *
  have B1 : Below w.heap.size w (w.alloc (.cells #[.slice a xs.length cap, .int .i64 n] 26)) := (Below.refl _ _).alloc (Nat.le_refl _) _
  have HX1 := Blk.made (w := w) rfl [.slice a xs.length cap, .int .i64 n] 26
  have hR1 := h.keep (Nat.le_refl _) B1
  clear h
  go_enter Try.func50, Try.ntmps50
  go_upto_region 2 with fail
  generalize w.alloc (.cells #[.slice a xs.length cap, .int .i64 n] 26) = w1 at *
  have x0 := HX1.cell 0 _ rfl
  have x1 := HX1.cell 1 _ rfl
  go_wp2_with fail
  refine (HB.out _ _ _ hR1).mono ?_
  rintro e w2 ⟨ab, cb, rfl, hRb, hb2⟩
  have hsz := B1.size
  have HX2 := (HX1.below hb2 HX1.lt).alloc (.cells #[.slice ab n cb, .int .i64 xs.length] 26)
  have HM := Blk.made (w := w2) rfl [.slice ab n cb, .int .i64 xs.length] 26
  have hRb2 := hRb.alloc (.cells #[.slice ab n cb, .int .i64 xs.length] 26)
  have hR2 := (hR1.below hb2).alloc (.cells #[.slice ab n cb, .int .i64 xs.length] 26)
  have B2 := (held_step B1 hb2).alloc (held_step B1 hb2).size (.cells #[.slice ab n cb, .int .i64 xs.length] 26)
  clear x0 x1 HX1 hR1 B1 hb2 hRb hsz HB
  go_upto_region 3 with fail
  generalize w2.alloc (.cells #[.slice ab n cb, .int .i64 xs.length] 26) = W1 at *
  generalize w2.heap.size = M at *
  go_wp2_with fail
  go_loopg [5, 7] n (fun G l i wr => ∃ (k : Nat) (v : Option Addr) (cv : Nat), k ≤ n ∧ G = n - k ∧ l = .slice v (ownR bs xs g k).length cv ∧ i = .int .i64 k ∧ Own wr W1.heap.size (.slice v (ownR bs xs g k).length cv) (ownR bs xs g k) ∧ Below W1.heap.size W1 wr)
  case atStart => exact ⟨0, none, 0, Nat.zero_le _, rfl, rfl, rfl, Own.nil _ _, Below.refl _ _⟩
  case round =>
    obtain ⟨k, v, cv, hk, rfl, rfl, rfl, hO, hbel⟩ := hrel
    have hXr := HX2.below hbel HX2.lt
    have hMr := HM.below hbel HM.lt
    have m0 := hMr.cell 0 _ rfl
    have x0 := hXr.cell 0 _ rfl
    have x1 := hXr.cell 1 _ rfl
    have HLE := Lib.hid (ownR_length bs xs g k)
    by_cases hlt : k < n
    · obtain ⟨b, off, rfl, _, hb, hc⟩ := (hRb2.below hbel).at k (by rw [HL.out]; exact hlt)
      have hRr := hR2.below hbel
      have HY := Lib.hid (ownR_yes bs xs g k)
      have HN := Lib.hid (ownR_no bs xs g k)
      have HBE := Lib.hid (fun W a c h => rbehind_any W a c xs n k h hl)
      generalize bs.getD k 0 = x at *
      generalize behF xs k xs.length = t at *
      have hk0 : (0 : Int) ≤ (k : Int) := Int.natCast_nonneg _
      have hk1 : (k : Int) < (n : Int) := by omega
      by_cases hx : x < 0
      · by_cases ht : t = g
        · have HS := Lib.hid (HY.out hx ht)
          subst ht
          have hzl : (ownR bs xs t k).length ≤ 4294967296 := by have := HLE.out; omega
          clear HY HN HLE
          generalize ownR bs xs t k = zs at *
          go_wp2_with (first
            | (go_at_call 53; refine (HBE.out _ _ _ hRr).mono ?_; rintro e wn ⟨rfl, hbn⟩; have hO' := hO.keep (Nat.le_refl _) hbn; have hbel' := held_step hbel hbn)
            | (at_builtin; refine append_int rfl _ _ rfl W1.heap.size _ zs k wn.heap.size _ rfl rfl (hO'.alloc _) ((Blk.made rfl [.int .i64 k] 3).cell 0 _ rfl) (by omega) (by have := hbel'.size; simp <;> omega) ?_))
          intro a' c' w3 hO3 hg3
          have hbl := below_grown (hbel'.alloc hbel'.size (.cells #[.int .i64 k] 3)) (hO'.alloc _) hg3 (Nat.le_refl _) (by have := hbel'.size; simp <;> omega)
          go_wp2
          go_roundg (n - (k + 1))
          case measure => omega
          case rel =>
            refine ⟨k + 1, a', c', by omega, rfl, ?_, by go_num, ?_, hbl⟩
            · rw [HS.out, List.length_append, List.length_singleton]
            · rw [HS.out, List.length_append, List.length_singleton]; exact hO3
        · have HS := Lib.hid (HN.out (fun h => ht h.2))
          have ht' : (t == g) = false := by simpa using ht
          clear HY HN HLE
          go_wp2_with (go_at_call 53; refine (HBE.out _ _ _ hRr).mono ?_; rintro e wn ⟨rfl, hbn⟩)
          go_roundg (n - (k + 1))
          case measure => omega
          case rel =>
            refine ⟨k + 1, v, cv, by omega, rfl, ?_, by go_num, ?_, held_step hbel hbn⟩
            · rw [HS.out]
            · rw [HS.out]; exact hO.keep (Nat.le_refl _) hbn
      · have HS := Lib.hid (HN.out (fun h => hx h.1))
        clear HY HN HLE
        go_wp2_with fail
        go_roundg (n - (k + 1))
        case measure => omega
        case rel =>
          refine ⟨k + 1, v, cv, by omega, rfl, ?_, by go_num, ?_, hbel⟩
          · rw [HS.out]
          · rw [HS.out]; exact hO
    · have hkn : k = n := by omega
      have HZ := Lib.hid (show ownR bs xs g k = ownR bs xs g n by rw [hkn])
      clear hkn HLE
      generalize ownR bs xs g k = zs at *
      go_wp2_with fail
      go_ret
      rw [← HZ.out]
      exact ⟨_, _, rfl, hO.row'.from B2.size, B2.trans (hbel.mono B2.size)⟩

end Go.Proofs.Ytdccpnaolcpohaa
