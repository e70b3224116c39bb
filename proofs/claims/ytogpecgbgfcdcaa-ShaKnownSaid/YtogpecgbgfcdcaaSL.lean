/- The walk of the law ShaKnown. -/
import Derived.Test.YtogpecgbgfcdcaaSK
import Derived.Lib.ConvBytes
import Derived.Deep.RegionHeldLaw
namespace Go.Proofs.Ytogpecgbgfcdcaa
open Go.RowKit

theorem conv_bytes (w : World) (bs : List UInt8) :
    ∃ cap w', (convert 9 22 (.string ⟨bs.toArray⟩)).run Try.prog w = .ok (.slice (some ⟨w.heap.size, 0, none⟩) bs.length cap) w' ∧ Bys 0 w' (some ⟨w.heap.size, 0, none⟩) bs ∧ Below w.heap.size w w' ∧ w.heap.size < w'.heap.size := by
  have hs : (⟨bs.toArray⟩ : ByteArray).size = bs.length := by simp [ByteArray.size]
  refine ⟨_, _, by rw [← hs]; exact Lib.run_convert_string_bytes w 9 22 5 ⟨bs.toArray⟩ Try.underlying9 Try.underlying22 Try.underlying5, .inr ⟨w.heap.size, 0, rfl, Nat.zero_le _, by rw [Lib.bytesWorld_size]; omega, fun i hi => ?_⟩, ?_, by rw [Lib.bytesWorld_size]; omega⟩
  · rw [nums_length] at hi
    rw [Nat.zero_add, Lib.bytesWorld_cell w 5 _ i (by rw [hs]; exact hi)]
    simp [nums, List.getD, hi]
  · refine ⟨rfl, rfl, rfl, by rw [Lib.bytesWorld_size]; omega, fun k hk => Lib.bytesWorld_at_old w 5 _ k hk⟩

def lsL : List (List UInt8) := [[], [97, 98, 99], [97, 98, 99, 100, 98, 99, 100, 101, 99, 100, 101, 102, 100, 101, 102, 103, 101, 102, 103, 104, 102, 103, 104, 105, 103, 104, 105, 106, 104, 105, 106, 107, 105, 106, 107, 108, 106, 107, 108, 109, 107, 108, 109, 110, 108, 109, 110, 111, 109, 110, 111, 112, 110, 111, 112, 113], [97]]
def dsL : List (List UInt8) := [[101, 51, 98, 48, 99, 52, 52, 50, 57, 56, 102, 99, 49, 99, 49, 52, 57, 97, 102, 98, 102, 52, 99, 56, 57, 57, 54, 102, 98, 57, 50, 52, 50, 55, 97, 101, 52, 49, 101, 52, 54, 52, 57, 98, 57, 51, 52, 99, 97, 52, 57, 53, 57, 57, 49, 98, 55, 56, 53, 50, 98, 56, 53, 53], [98, 97, 55, 56, 49, 54, 98, 102, 56, 102, 48, 49, 99, 102, 101, 97, 52, 49, 52, 49, 52, 48, 100, 101, 53, 100, 97, 101, 50, 50, 50, 51, 98, 48, 48, 51, 54, 49, 97, 51, 57, 54, 49, 55, 55, 97, 57, 99, 98, 52, 49, 48, 102, 102, 54, 49, 102, 50, 48, 48, 49, 53, 97, 100], [50, 52, 56, 100, 54, 97, 54, 49, 100, 50, 48, 54, 51, 56, 98, 56, 101, 53, 99, 48, 50, 54, 57, 51, 48, 99, 51, 101, 54, 48, 51, 57, 97, 51, 51, 99, 101, 52, 53, 57, 54, 52, 102, 102, 50, 49, 54, 55, 102, 54, 101, 99, 101, 100, 100, 52, 49, 57, 100, 98, 48, 54, 99, 49], [99, 97, 57, 55, 56, 49, 49, 50, 99, 97, 49, 98, 98, 100, 99, 97, 102, 97, 99, 50, 51, 49, 98, 51, 57, 97, 50, 51, 100, 99, 52, 100, 97, 55, 56, 54, 101, 102, 102, 56, 49, 52, 55, 99, 52, 101, 55, 50, 98, 57, 56, 48, 55, 55, 56, 53, 97, 102, 101, 101, 52, 56, 98, 98]]
theorem known : ∀ k, k < 4 → hexL (shaF (lsL.getD k [])) = dsL.getD k [] := by decide +kernel
theorem known_len : ∀ k, k < 4 → (lsL.getD k []).length ≤ 56 := by decide +kernel

set_option maxRecDepth 100000 in
set_option maxHeartbeats 8000000 in
theorem shaKnown_walk (w : World) (n : Nat) (hn : n ≤ 255) : Calls Try.prog 5 #[.int .u8 n] w fun e w' => e = .returned (.bool true) ∧ Below w.heap.size w w' := by
  have hm0 : (0 : Int) ≤ (n : Int) := Int.natCast_nonneg _
  obtain ⟨k, hk, hkm⟩ : ∃ k : Nat, k < 4 ∧ (n : Int) % 4 = (k : Int) := ⟨n % 4, by omega, by omega⟩
  have hk0 : (0 : Int) ≤ (k : Int) := Int.natCast_nonneg _
  have hk4 : (k : Int) < 4 := by omega
  have hA : Blk ((w.alloc (.cells (lsL.map str).toArray 9)).alloc (.cells (dsL.map str).toArray 9)) w.heap.size (lsL.map str) 9 := (Blk.made rfl _ _).alloc _
  have hD : Blk ((w.alloc (.cells (lsL.map str).toArray 9)).alloc (.cells (dsL.map str).toArray 9)) (w.heap.size + 1) (dsL.map str) 9 := Blk.made (by simp) _ _
  have hb0 : Below w.heap.size w ((w.alloc (.cells (lsL.map str).toArray 9)).alloc (.cells (dsL.map str).toArray 9)) := ((Below.refl _ _).alloc (Nat.le_refl _) _).alloc (by simp) _
  go_enter Try.func5, Try.ntmps5
  go_upto_region 4 with fail
  change Code.wp _ _ _ _ ((w.alloc (.cells (lsL.map str).toArray 9)).alloc (.cells (dsL.map str).toArray 9))
  generalize (w.alloc (.cells (lsL.map str).toArray 9)).alloc (.cells (dsL.map str).toArray 9) = W at *
  have a0 := hA.cell k (str (lsL.getD k [])) (by simp [List.getD, show k < lsL.length from hk])
  have d0 := hD.cell k (str (dsL.getD k [])) (by simp [List.getD, show k < dsL.length from hk])
  have HKN := known k hk
  have hkl := known_len k hk
  have hAl := hA.lt
  have hDl := hD.lt
  clear hA hD
  unfold str at a0 d0
  generalize lsL.getD k [] = bs at *
  generalize dsL.getD k [] = ds at *
  obtain ⟨cap, w1, hconv, hB1, hb1, hlt1⟩ := conv_bytes W.drew bs
  have H1 : Hid (∀ W', Bys 0 W' (some ⟨W.heap.size, 0, none⟩) bs → W.heap.size < W'.heap.size → Calls Try.prog 8 #[.slice (some ⟨W.heap.size, 0, none⟩) bs.length cap] W' fun e w' => e = .returned (str (shaF bs)) ∧ Below W'.heap.size W' w') := fun W' h h2 =>
    sumb_any W' _ cap bs h (fun e => by cases e) (fun x e => by cases e; exact h2) (by omega)
  have H2 := Lib.hid (fun W' => hex_any W' (shaF bs) (by rw [shaF_length]; omega))
  rw [HKN] at H2
  clear HKN
  generalize shaF bs = ss at *
  unfold str at H1 H2
  have HC : Hid (∀ w', Below W.heap.size W w' → w'.cell? ⟨w.heap.size, k, none⟩ = some (.string ⟨bs.toArray⟩) ∧ w'.cell? ⟨w.heap.size + 1, k, none⟩ = some (.string ⟨ds.toArray⟩)) := fun w' h =>
    ⟨(h.cell (p := ⟨w.heap.size, k, none⟩) hAl).trans a0, (h.cell (p := ⟨w.heap.size + 1, k, none⟩) hDl).trans d0⟩
  replace hB1 : Bys 0 w1 (some ⟨W.heap.size, 0, none⟩) bs := hB1
  replace hlt1 : W.heap.size < w1.heap.size := hlt1
  have b1 : Below W.heap.size W w1 := (Below.refl W.heap.size W).drew.trans hb1
  go_region_held_law (fun w' => w'.cell? ⟨w.heap.size, k, none⟩ = some (.string ⟨bs.toArray⟩) ∧ w'.cell? ⟨w.heap.size + 1, k, none⟩ = some (.string ⟨ds.toArray⟩))
    (first
      | with_reducible exact HC.out _ b1
      | with_reducible exact HC.out _ b2
      | with_reducible exact HC.out _ b3
      | with_reducible exact HC.out _ b4
      | go_keep)
    (first
      | (go_at_call 8; with_reducible refine (H1.out _ hB1 hlt1).mono ?_; rintro e w2 ⟨rfl, hb2⟩; have b2 : Below W.heap.size W w2 := b1.trans (hb2.mono b1.size))
      | (go_at_call 14; with_reducible refine (H2.out _).mono ?_; rintro e w3 ⟨rfl, hb3⟩; have b3 : Below W.heap.size W w3 := b2.trans (hb3.mono b2.size))
      | (go_at_call 10; with_reducible refine (awake_any _).mono ?_; rintro e w4 ⟨rfl, hb4⟩; have b4 : Below W.heap.size W w4 := b3.trans (hb4.mono b3.size)))
  go_wp2
  go_ret
  exact ⟨rfl, hb0.trans (b4.mono hb0.size)⟩

end Go.Proofs.Ytogpecgbgfcdcaa
