/- The contracts of fuse.gone and (*side).own. -/
import Derived.Test.YtdccpnaolcpohaaV
namespace Go.Proofs.Ytdccpnaolcpohaa
open Go.RowKit

theorem gones_set (n k : Nat) (h : k < n) : (ints (gones k) ++ zeros (n - k)).set k (.int .i64 (-1)) = ints (gones (k + 1)) ++ zeros (n - (k + 1)) := by
  obtain ⟨m, rfl⟩ : ∃ m, n = k + 1 + m := ⟨n - (k + 1), by omega⟩
  rw [show k + 1 + m - k = m + 1 from by omega, show k + 1 + m - (k + 1) = m from by omega]
  rw [List.set_append_right _ _ (by simp [ints_length, gones_length])]
  simp [ints_length, gones_length, zeros, List.replicate_succ, gones_succ, ints]

set_option maxHeartbeats 1000000 in
theorem gone_any (w : World) (n : Nat) (hn : n ≤ 4294967296) :
    Calls Try.prog 47 #[.int .i64 n] w fun e w' => e = .returned (.slice (some ⟨w.heap.size, 0, none⟩) n n) ∧ Blk w' w.heap.size (ints (gones n)) 3 ∧ Below w.heap.size w w' ∧ w'.heap.size = w.heap.size + 1 := by
  have hmk := fun w => run_make_row' (P := Try.prog) 24 3 (.int .i64 0) 8 Try.underlying24 Try.info3 rfl .i64 .i64 n (by omega) (by omega) w
  have hz : madeCells #[.int .i64 0] n = (zeros n).toArray := by
    apply Array.ext'
    simp [madeCells, zeros, List.eq_replicate_iff, Nat.mod_one]
  simp only [hz] at hmk
  clear hz
  go_enter Try.func47, Try.ntmps47
  go_wp2_with fail
  clear hmk
  go_loopg [9] n (fun g c wr => ∃ k : Nat, k ≤ n ∧ g = n - k ∧ c = .int .i64 k ∧ Blk wr w.heap.size (ints (gones k) ++ zeros (n - k)) 3 ∧ Below w.heap.size w wr ∧ Hid (wr.heap.size = w.heap.size + 1))
  case atStart => exact ⟨0, Nat.zero_le _, rfl, rfl, Blk.made rfl (zeros n) 3, (Below.refl _ _).alloc (Nat.le_refl _) _, by unfold Hid; simp⟩
  case round =>
    obtain ⟨k, hk, rfl, rfl, hB, hbel, hsz⟩ := hrel
    by_cases hlt : k < n
    · have hc := hB.cell k (.int .i64 0) (by rw [List.getElem?_append_right (by simp [ints_length, gones_length])]; simp only [ints_length, gones_length, zeros, Nat.sub_self, List.getElem?_replicate]; rw [if_pos (by omega)])
      have hf := hB.free k
      go_wp2
      go_roundg (n - (k + 1))
      case measure => omega
      case rel => exact ⟨k + 1, by omega, rfl, by go_num, by have := hB.set k (.int .i64 (-1)); rwa [gones_set n k hlt] at this, hbel.setCell (Nat.le_refl _) _, by unfold Hid; rw [World.size_setCell]; exact hsz.out⟩
    · have hkn : k = n := by omega
      have hB' : Blk wr w.heap.size (ints (gones n)) 3 := by
        rw [hkn, Nat.sub_self] at hB; simpa [zeros] using hB
      clear hkn
      go_wp2
      go_ret
      exact ⟨rfl, hB', hbel, hsz.out⟩

def runG (xs : List Int) : Nat → Nat → Nat
  | 0, _ => 0
  | f + 1, k => if hasF xs k = true then 0 else runG xs f (k + 1) + 1
/-- How many new places of its own stand from k on. -/
def runF (xs : List Int) (n k : Nat) : Nat := runG xs (n - k) k
theorem runF_stop (xs : List Int) (n k : Nat) (h : n ≤ k ∨ hasF xs k = true) : runF xs n k = 0 := by
  unfold runF
  cases hf : n - k with
  | zero => rfl
  | succ f => rw [runG, if_pos (by rcases h with h | h; omega; exact h)]
theorem runF_go (xs : List Int) (n k : Nat) (h : k < n) (h1 : hasF xs k = false) : runF xs n k = runF xs n (k + 1) + 1 := by
  unfold runF
  rw [show n - k = (n - (k + 1)) + 1 from by omega, runG, if_neg (by rw [h1]; decide)]
theorem runF_le (xs : List Int) (n k : Nat) : runF xs n k ≤ n - k := by
  have : ∀ f k, runG xs f k ≤ f := by
    intro f
    induction f with
    | zero => intro k; simp [runG]
    | succ f ih => intro k; rw [runG]; split; omega; have := ih (k + 1); omega
  exact this _ _

/-- The places that stand behind the old one g. -/
def fromF (xs : List Int) (g : Int) : Nat := if g < 0 then 0 else (xs.getD g.toNat 0 + 1).toNat
def ownL (xs : List Int) (n : Nat) (g : Int) : List Int :=
  if 0 ≤ g ∧ xs.getD g.toNat 0 < 0 then [] else tab (fun i => (fromF xs g : Int) + i) (runF xs n (fromF xs g))

def shift (k : Nat) (i : Nat) : Int := (k : Int) + i
theorem shift_succ (k j : Nat) : tab (shift k) (j + 1) = tab (shift k) j ++ [shift k j] := by simp [tab, List.range_succ]

def RetRow (w : World) (xs : List Int) (e : Ending) (w' : World) : Prop :=
  ∃ a' cap', e = .returned (.slice a' xs.length cap') ∧ Row w.heap.size w' a' xs ∧ Below w.heap.size w w'

set_option maxHeartbeats 2000000 in
theorem own_from (w : World) (ps : Nat) (a : Option Addr) (cap : Nat) (xs : List Int) (n : Nat) (tv : Value) (g : Int) (h : Row 0 w a xs) (hP : Blk w ps [.slice a xs.length cap, .int .i64 n, tv] 63) (hl : xs.length ≤ 4294967296) (hn : n ≤ 4294967296)
    (hg : g < 0 ∨ ∃ k : Nat, g = k ∧ k < xs.length ∧ 0 ≤ xs.getD k 0 ∧ xs.getD k 0 ≤ 4294967296) :
    Calls Try.prog 48 #[.pointer (some ⟨ps, 0, none⟩), .int .i64 g] w (RetRow w (tab (shift (fromF xs g)) (runF xs n (fromF xs g)))) := by
  have hm0 := hP.cell 0 _ rfl
  have hm1 := hP.cell 1 _ rfl
  have HR := Lib.hid h
  have HP := Lib.hid hP
  clear h hP
  rcases hg with hg | ⟨k, rfl, hk, hx0, hx1⟩
  · have hF : fromF xs g = 0 := by rw [fromF, if_pos hg]
    rw [hF]
    have hg' : ¬ g ≥ 0 := by omega
    go_enter Try.func48, Try.ntmps48
    go_wp2_with fail
    go_loopg [6, 7] (n + 1) (fun G vv c wr => ∃ (j : Nat) (av : Option Addr) (cv : Nat), Hid (j ≤ n) ∧ G = n + 1 - j ∧ vv = .slice av (tab (shift 0) j).length cv ∧ c = .int .i64 (j : Int) ∧ Own wr w.heap.size (.slice av (tab (shift 0) j).length cv) (tab (shift 0) j) ∧ Hid (runF xs n 0 = j + runF xs n (0 + j)) ∧ Below w.heap.size w wr)
    case atStart => exact ⟨0, none, 0, Nat.zero_le _, rfl, rfl, (by simp), Own.nil _ _, (by unfold Hid; simp), Below.refl _ _⟩
    case round =>
      obtain ⟨j, av, cv, hj, rfl, rfl, rfl, hO, HRUN, hbel⟩ := hrel
      have hjn := hj.out
      have hPr := (HP.out).below hbel HP.out.lt
      have p0 := hPr.cell 0 _ rfl
      have p1 := hPr.cell 1 _ rfl
      have hRr := HR.out.below hbel
      have hzl : (tab (shift 0) j).length ≤ 4294967296 := by rw [tab_length]; omega
      have HSS := Lib.hid (shift_succ 0 j)
      have HLEN := Lib.hid (tab_length (shift 0) j)
      by_cases e1 : 0 + j < n
      · have e1' : (j : Int) < (n : Int) := by omega
        have hCN : Hid (∀ W, Row 0 W a xs → Calls Try.prog 51 #[.slice a xs.length cap, .int .i64 (j : Int)] W fun e w' => e = .returned (.bool (hasF xs ((0 + j : Nat) : Int))) ∧ W = w') := fun W h => by
          have := contains_any W a cap xs ((0 + j : Nat) : Int) h hl
          rw [show ((0 + j : Nat) : Int) = (j : Int) from by omega] at this ⊢
          exact this
        cases hc : hasF xs ((0 + j : Nat) : Int) with
        | true =>
          have HE := Lib.hid (HRUN.out.trans (by rw [runF_stop xs n (0 + j) (.inr hc), Nat.add_zero]))
          rw [hc] at hCN
          clear hc
          generalize hzs : tab (shift 0) j = zs at *
          have HZ := Lib.hid hzs
          clear hzs
          go_wp2_with (go_at_call 51; refine (hCN.out _ hRr).mono ?_; rintro e wx ⟨rfl, rfl⟩)
          go_ret
          rw [HE.out, HZ.out]
          exact ⟨av, cv, rfl, hO.row', hbel⟩
        | false =>
          have HE := Lib.hid (HRUN.out.trans (by rw [runF_go xs n (0 + j) e1 hc]))
          rw [hc] at hCN
          clear hc
          have hzv : shift 0 j = (j : Int) := by unfold shift; omega
          rw [hzv] at HSS
          generalize hzs : tab (shift 0) j = zs at *
          clear hzs hzv
          go_wp2_with (first
            | (go_at_call 51; refine (hCN.out _ hRr).mono ?_; rintro e wx ⟨rfl, rfl⟩)
            | (at_builtin; refine append_int rfl _ _ rfl w.heap.size _ zs (j : Int) wr.heap.size _ rfl rfl (hO.alloc _) ((Blk.made rfl [.int .i64 (j : Int)] 3).cell 0 _ rfl) (by omega) (by have := hbel.size; simp <;> omega) ?_))
          intro a' c' w2 hO2 hg2
          have hbl := below_grown (hbel.alloc hbel.size (.cells #[.int .i64 (j : Int)] 3)) (hO.alloc _) hg2 (Nat.le_refl _) (by have := hbel.size; simp <;> omega)
          go_wp2
          go_roundg (n + 1 - (j + 1))
          case measure => omega
          case rel =>
            refine ⟨j + 1, a', c', (by unfold Hid; omega), rfl, ?_, ?_, ?_, ?_, hbl⟩
            · rw [HSS.out, List.length_append, List.length_singleton]
            · rw [show ((j + 1 : Nat) : Int) = (j : Int) + 1 from by omega]
            · rw [HSS.out, List.length_append, List.length_singleton]; exact hO2
            · unfold Hid; rw [HE.out, show 0 + (j + 1) = 0 + j + 1 from by omega]; omega
      · have e1' : ¬ ((j : Int) < (n : Int)) := by omega
        have HE := Lib.hid (HRUN.out.trans (by rw [runF_stop xs n (0 + j) (.inl (by omega)), Nat.add_zero]))
        generalize hzs : tab (shift 0) j = zs at *
        have HZ := Lib.hid hzs
        clear hzs
        go_wp2
        go_ret
        rw [HE.out, HZ.out]
        exact ⟨av, cv, rfl, hO.row', hbel⟩
  · have hF : fromF xs k = (xs.getD k 0).toNat + 1 := by rw [fromF, if_neg (by omega), Int.toNat_natCast]; omega
    rw [hF]
    obtain ⟨b, off, ea, _, hb, hc⟩ := HR.out.at k hk
    generalize xs.getD k 0 = x at *
    obtain ⟨m, rfl⟩ := Int.eq_ofNat_of_zero_le hx0
    rw [Int.toNat_natCast]
    obtain ⟨f, hf⟩ : ∃ f, m + 1 = f := ⟨_, rfl⟩
    have hfI : (m : Int) + 1 = (f : Int) := by omega
    rw [hf]
    have HFI := Lib.hid hfI
    clear hf hF hfI
    subst ea
    have hk0 : (0 : Int) ≤ (k : Int) := Int.natCast_nonneg _
    have hk1 : (k : Int) < (xs.length : Int) := by omega
    go_enter Try.func48, Try.ntmps48
    go_wp2_with fail
    try rw [HFI.out]
    go_loopg [6, 7] (n + 1) (fun G vv c wr => ∃ (j : Nat) (av : Option Addr) (cv : Nat), Hid (j ≤ n) ∧ G = n + 1 - j ∧ vv = .slice av (tab (shift f) j).length cv ∧ c = .int .i64 ((f : Int) + j) ∧ Own wr w.heap.size (.slice av (tab (shift f) j).length cv) (tab (shift f) j) ∧ Hid (runF xs n f = j + runF xs n (f + j)) ∧ Below w.heap.size w wr)
    case atStart => exact ⟨0, none, 0, Nat.zero_le _, rfl, rfl, (by first | (rw [HFI.out]; simp) | simp), Own.nil _ _, (by unfold Hid; simp), Below.refl _ _⟩
    case round =>
      obtain ⟨j, av, cv, hj, rfl, rfl, rfl, hO, HRUN, hbel⟩ := hrel
      have hjn := hj.out
      have hPr := (HP.out).below hbel HP.out.lt
      have p0 := hPr.cell 0 _ rfl
      have p1 := hPr.cell 1 _ rfl
      have hRr := HR.out.below hbel
      have hzl : (tab (shift f) j).length ≤ 4294967296 := by rw [tab_length]; omega
      have HSS := Lib.hid (shift_succ f j)
      have HLEN := Lib.hid (tab_length (shift f) j)
      by_cases e1 : f + j < n
      · have e1' : (f : Int) + (j : Int) < (n : Int) := by omega
        have hCN : Hid (∀ W, Row 0 W (some ⟨b, off, none⟩) xs → Calls Try.prog 51 #[.slice (some ⟨b, off, none⟩) xs.length cap, .int .i64 ((f : Int) + j)] W fun e w' => e = .returned (.bool (hasF xs ((f + j : Nat) : Int))) ∧ W = w') := fun W h => by
          have := contains_any W (some ⟨b, off, none⟩) cap xs ((f + j : Nat) : Int) h hl
          rw [show ((f + j : Nat) : Int) = (f : Int) + (j : Int) from by omega] at this ⊢
          exact this
        cases hc : hasF xs ((f + j : Nat) : Int) with
        | true =>
          have HE := Lib.hid (HRUN.out.trans (by rw [runF_stop xs n (f + j) (.inr hc), Nat.add_zero]))
          rw [hc] at hCN
          clear hc
          generalize hzs : tab (shift f) j = zs at *
          have HZ := Lib.hid hzs
          clear hzs
          go_wp2_with (go_at_call 51; refine (hCN.out _ hRr).mono ?_; rintro e wx ⟨rfl, rfl⟩)
          go_ret
          rw [HE.out, HZ.out]
          exact ⟨av, cv, rfl, hO.row', hbel⟩
        | false =>
          have HE := Lib.hid (HRUN.out.trans (by rw [runF_go xs n (f + j) e1 hc]))
          rw [hc] at hCN
          clear hc
          have hzv : shift f j = (f : Int) + (j : Int) := by unfold shift; omega
          rw [hzv] at HSS
          generalize hzs : tab (shift f) j = zs at *
          clear hzs hzv
          go_wp2_with (first
            | (go_at_call 51; refine (hCN.out _ hRr).mono ?_; rintro e wx ⟨rfl, rfl⟩)
            | (at_builtin; refine append_int rfl _ _ rfl w.heap.size _ zs ((f : Int) + j) wr.heap.size _ rfl rfl (hO.alloc _) ((Blk.made rfl [.int .i64 ((f : Int) + j)] 3).cell 0 _ rfl) (by omega) (by have := hbel.size; simp <;> omega) ?_))
          intro a' c' w2 hO2 hg2
          have hbl := below_grown (hbel.alloc hbel.size (.cells #[.int .i64 ((f : Int) + j)] 3)) (hO.alloc _) hg2 (Nat.le_refl _) (by have := hbel.size; simp <;> omega)
          go_wp2
          go_roundg (n + 1 - (j + 1))
          case measure => omega
          case rel =>
            refine ⟨j + 1, a', c', (by unfold Hid; omega), rfl, ?_, ?_, ?_, ?_, hbl⟩
            · rw [HSS.out, List.length_append, List.length_singleton]
            · rw [show (f : Int) + ((j + 1 : Nat) : Int) = (f : Int) + (j : Int) + 1 from by omega]
            · rw [HSS.out, List.length_append, List.length_singleton]; exact hO2
            · unfold Hid; rw [HE.out, show f + (j + 1) = f + j + 1 from by omega]; omega
      · have e1' : ¬ ((f : Int) + (j : Int) < (n : Int)) := by omega
        have HE := Lib.hid (HRUN.out.trans (by rw [runF_stop xs n (f + j) (.inl (by omega)), Nat.add_zero]))
        generalize hzs : tab (shift f) j = zs at *
        have HZ := Lib.hid hzs
        clear hzs
        go_wp2
        go_ret
        rw [HE.out, HZ.out]
        exact ⟨av, cv, rfl, hO.row', hbel⟩

end Go.Proofs.Ytdccpnaolcpohaa
