/- The contracts of the small functions of package maps: Image, size, place.behind, place.ahead. -/
import Derived.Test.YtdccpnaolcpohaaA
import Derived.Deep.RegionHeld3
namespace Go.Proofs.Ytdccpnaolcpohaa
open Go.RowKit

def imageF (xs : List Int) (new i : Int) : Int :=
  if i < 0 then -1 else if i < xs.length then xs.getD i.toNat 0 else i - xs.length + new

theorem imageF_neg (xs : List Int) (new i : Int) (h : i < 0) : imageF xs new i = -1 := by rw [imageF, if_pos h]
theorem imageF_in (xs : List Int) (new i : Int) (h : ¬ i < 0) (h1 : i < xs.length) : imageF xs new i = xs.getD i.toNat 0 := by rw [imageF, if_neg h, if_pos h1]
theorem imageF_out (xs : List Int) (new i : Int) (h1 : ¬ i < xs.length) : imageF xs new i = i - xs.length + new := by rw [imageF, if_neg (by omega), if_neg h1]

set_option maxHeartbeats 400000 in
theorem image_any (w : World) (a : Option Addr) (cap : Nat) (xs : List Int) (new i : Int) (h : Row 0 w a xs) (hl : xs.length ≤ 4294967296) (hn0 : -4294967296 ≤ new) (hn : new ≤ 4294967296) (hi : i ≤ 2199023255552) :
    Calls Try.prog 17 #[.agg #[.slice a xs.length cap, .int .i64 new], .int .i64 i] w fun e w' => e = .returned (.int .i64 (imageF xs new i)) ∧ Below w.heap.size w w' := by
  by_cases h0 : i < 0
  · have HR := Lib.hid (imageF_neg xs new i h0)
    go_enter Try.func17, Try.ntmps17
    go_wp2
    go_ret
    exact ⟨ret_int HR.out.symm, (Below.refl _ _).alloc (Nat.le_refl _) _⟩
  · by_cases h1 : i < xs.length
    · have HR := Lib.hid (imageF_in xs new i h0 h1)
      rcases h with h | ⟨b, off, rfl, _, hb, hc⟩
      · subst h; simp at h1; omega
      · have hci := hc i.toNat (by omega)
        clear hc
        generalize xs.getD i.toNat 0 = x at *
        go_enter Try.func17, Try.ntmps17
        go_wp2
        go_ret
        exact ⟨ret_int HR.out.symm, (Below.refl _ _).alloc (Nat.le_refl _) _⟩
    · have HR := Lib.hid (imageF_out xs new i h1)
      go_enter Try.func17, Try.ntmps17
      go_wp2
      go_ret
      exact ⟨ret_int HR.out.symm, (Below.refl _ _).alloc (Nat.le_refl _) _⟩

def sizeF (n : Int) : Nat := (max 0 (min n 1048576)).toNat

set_option maxHeartbeats 400000 in
theorem size_any (w : World) (n : Int) : Calls Try.prog 40 #[.int .i64 n] w fun e w' => e = .returned (.int .i64 (sizeF n)) ∧ w = w' := by
  have h : (sizeF n : Int) = max 0 (min n 1048576) := by unfold sizeF; omega
  have H := Lib.hid h; clear h
  by_cases h0 : n ≤ 0
  · have h1 : n ≤ 1048576 := by omega
    go_enter Try.func40, Try.ntmps40
    go_wp2
    go_ret
    exact ⟨ret_int (by have := H.out; omega), rfl⟩
  · by_cases h1 : n ≤ 1048576
    · go_enter Try.func40, Try.ntmps40
      go_wp2
      go_ret
      exact ⟨ret_int (by have := H.out; omega), rfl⟩
    · go_enter Try.func40, Try.ntmps40
      go_wp2
      go_ret
      exact ⟨ret_int (by have := H.out; omega), rfl⟩

/-- The call answered a map of these places, of so many new ones; it turned nothing that was there. -/
def RetMap (w : World) (xs : List Int) (new : Int) (e : Ending) (w' : World) : Prop :=
  ∃ a cap, e = .returned (.agg #[.slice a xs.length cap, .int .i64 new]) ∧ Row w.heap.size w' a xs ∧ Below w.heap.size w w'

theorem Try.info3 : (Try.prog.info? 3).map (fun i => (i.zero, i.size, i.bytes)) = some (some (.int .i64 0), 1, 8) := by kernel_rfl

def ints (xs : List Int) : List Value := xs.map (Value.int .i64)
def zeros (n : Nat) : List Value := List.replicate n (Value.int .i64 0)
def tab (g : Nat → Int) (n : Nat) : List Int := (List.range n).map g
theorem tab_length (g : Nat → Int) (n : Nat) : (tab g n).length = n := by simp [tab]
theorem tab_get (g : Nat → Int) (n j : Nat) (h : j < n) : (tab g n)[j]? = some (g j) := by simp [tab, h]
theorem ints_length (xs : List Int) : (ints xs).length = xs.length := by simp [ints]
theorem zeros_length (n : Nat) : (zeros n).length = n := by simp [zeros]
theorem slot_at (g : Nat → Int) (n k : Nat) (h : k < n) : (ints (tab g k) ++ zeros (n - k))[k]? = some (.int .i64 0) := by
  rw [List.getElem?_append_right (by simp [ints_length, tab_length])]
  simp only [ints_length, tab_length, zeros, Nat.sub_self, List.getElem?_replicate]
  rw [if_pos (by omega)]
theorem slot_set (g : Nat → Int) (n k : Nat) (h : k < n) : (ints (tab g k) ++ zeros (n - k)).set k (.int .i64 (g k)) = ints (tab g (k + 1)) ++ zeros (n - (k + 1)) := by
  obtain ⟨m, rfl⟩ : ∃ m, n = k + 1 + m := ⟨n - (k + 1), by omega⟩
  rw [show k + 1 + m - k = m + 1 from by omega, show k + 1 + m - (k + 1) = m from by omega]
  rw [List.set_append_right _ _ (by simp [ints_length, tab_length])]
  simp [ints_length, tab_length, zeros, List.replicate_succ, tab, ints, List.range_succ]

set_option maxHeartbeats 1000000 in
theorem made_any (w : World) (n : Nat) (now : Int) (f : FuncId) (first cap : Array Value) (g : Nat → Int) (hn : n ≤ 4294967296)
   (hcf : ∀ args W, Sem.run Try.prog (callFunc f args) W = .ok (.enter f args) W)
   (hcall : ∀ (i : Nat) W, i < n → Below w.heap.size w W → Calls Try.prog f (first.push (.int .i64 i) ++ cap) W fun e W' => e = .returned (.int .i64 (g i)) ∧ Below W.heap.size W W') :
    Calls Try.prog 38 #[.int .i64 n, .int .i64 now, .func (.func f) first cap] w (RetMap w (tab g n) now) := by
  have hmk := fun w => run_make_row' (P := Try.prog) 24 3 (.int .i64 0) 8 Try.underlying24 Try.info3 rfl .i64 .i64 n (by omega) (by omega) w
  have hz : madeCells #[.int .i64 0] n = (zeros n).toArray := by
    apply Array.ext'
    simp [madeCells, zeros, List.eq_replicate_iff, Nat.mod_one]
  simp only [hz] at hmk
  clear hz
  have HC := Lib.hid hcall
  clear hcall
  go_enter Try.func38, Try.ntmps38
  go_wp2_with fail
  clear hmk
  go_loopw [14] (fun c wr => ∃ k : Nat, k ≤ n ∧ c = .int .i64 k ∧ Blk wr (w.heap.size+1) (ints (tab g k) ++ zeros (n-k)) 3 ∧ Blk wr (w.heap.size+1+1) [.slice (some ⟨w.heap.size+1, 0, none⟩) n n, .int .i64 now] 26 ∧ Blk wr w.heap.size [.slice none 0 0, .int .i64 0] 26 ∧ Below w.heap.size w wr) (fun c _ => n - (intOf c).toNat)
  case atStart =>
    refine ⟨0, Nat.zero_le _, rfl, ?_, Blk.made (by simp) _ _, ?_, ?_⟩
    · exact (Blk.made (by simp) _ _).alloc _
    · exact ((Blk.new _ _ _).alloc _).alloc _
    · exact (((Below.refl _ _).alloc (Nat.le_refl _) _).alloc (by simp) _).alloc (by simp; omega) _
  case round =>
    obtain ⟨k, hk, rfl, hB1, hB2, hB0, hbel⟩ := hrel
    by_cases hlt : k < n
    · have hm := hB2.cell 0 _ rfl
      have hlt1 := hB1.lt
      have hlt2 := hB2.lt
      have HB1 := Lib.hid hB1
      clear hB1
      go_wp2_with fail
      go_region_held3 (fun w' => w'.cell? ⟨w.heap.size+1+1, 0, none⟩ = some (.slice (some ⟨w.heap.size+1, 0, none⟩) n n)) (first | exact (hb1.cell (p := ⟨w.heap.size+1+1, 0, none⟩) hlt2).trans hm | go_keep)
        (first | (refine (HC.out k _ hlt (hbel.drew)).mono ?_; rintro e w1 ⟨rfl, hb1⟩; have hs1 := (Blk.drew HB1.out).below hb1 hlt1; have hs2 := hs1.cell k _ (slot_at g n k hlt); have hs3 := hs1.free k))
      go_wp2
      go_roundw
      case rel =>
        refine ⟨k + 1, by omega, by go_num, ?_, ?_, ?_, ?_⟩
        · have := hs1.set k (.int .i64 (g k)); rwa [slot_set g n k hlt] at this
        · exact ((Blk.drew hB2).below hb1 hlt2).set_other (by simp) _
        · exact ((Blk.drew hB0).below hb1 hB0.lt).set_other (by simp) _
        · exact (hbel.drew.trans (hb1.mono hbel.size)).setCell (by simp) _
      case measure => simp [intOf]; omega
    · have hk' : k = n := by omega
      have HK := Lib.hid hk'; clear hk'
      have hm0 := hB2.cell 0 _ rfl
      have hm1 := hB2.cell 1 _ rfl
      have hr0 := hB0.cell 0 _ rfl
      have hr1 := hB0.cell 1 _ rfl
      have hf0 := hB0.free 0
      have hf1 := hB0.free 1
      go_wp2
      have hB0' := (hB0.set 0 (.slice (some ⟨w.heap.size+1, 0, none⟩) n n)).set 1 (.int .i64 now)
      have hc0 := hB0'.cell 0 _ rfl
      have hc1 := hB0'.cell 1 _ rfl
      refine bodyPost_ret (v := .agg #[.slice (some ⟨w.heap.size+1, 0, none⟩) n n, .int .i64 now]) (by simp [results, Try.results38, go_sem, hc0, hc1]) rfl ?_
      refine ⟨some ⟨w.heap.size+1, 0, none⟩, n, by rw [tab_length], ?_, (hbel.setCell (Nat.le_refl _) _).setCell (Nat.le_refl _) _⟩
      have hk := HK.out
      subst hk
      rw [Nat.sub_self] at hB1
      exact Row.of_blk ((hB1.set_other (by simp) _).set_other (by simp) _) (by omega)

end Go.Proofs.Ytdccpnaolcpohaa
