/- The contract of Fall. -/
import Derived.Test.YtbnnjiaegoedoaaDF
namespace Go.Proofs.Ytbnnjiaegoedoaa
open Go.RowKit

/-- The slice at a reads as these bools; its block, if it has elements, lies before N. -/
def RowB (N : Nat) (w : World) (a : Option Addr) (ks : List Bool) : Prop :=
  ks = [] ∨ ∃ b off, a = some ⟨b, off, none⟩ ∧ b < N ∧ ∀ j, j < ks.length → w.cell? ⟨b, off + j, none⟩ = some (.bool (ks.getD j false))
theorem RowB.keep {N : Nat} {w w' : World} {a : Option Addr} {ks : List Bool} (h : RowB N w a ks) (hb : Below N w w') : RowB N w' a ks := by
  rcases h with h | ⟨b, off, e, hB, hc⟩
  · exact .inl h
  · exact .inr ⟨b, off, e, hB, fun j hj => by rw [hb.cell (p := ⟨b, off + j, none⟩) hB]; exact hc j hj⟩

/-- Whether the n-th loose sector is kept. -/
def kept (ks : List Bool) (n : Nat) : Bool := ks.getD (n % ks.length) false
def fellS (ks : List Bool) (n : Nat) (s : Sec) : Sec := if s.loose then (if kept ks n then s else { s with now := s.safe }) else s
theorem fellS_gone {ks : List Bool} {n : Nat} {s : Sec} (h : s.loose = true) (hk : kept ks n = false) : fellS ks n s = { s with now := s.safe } := by
  unfold fellS; rw [if_pos h, if_neg (by rw [hk]; decide)]
theorem fellS_kept {ks : List Bool} {n : Nat} {s : Sec} (hk : kept ks n = true) : fellS ks n s = s := by
  unfold fellS; rw [if_pos hk, ite_self]
/-- The first k fallen. -/
def fellK (l : List Sec) (ks : List Bool) (k : Nat) : List Sec := (List.range k).map (fun i => fellS ks (looseN l i) (l.getD i Sec.zero)) ++ l.drop k
theorem fellK_length (l : List Sec) (ks : List Bool) (k : Nat) (h : k ≤ l.length) : (fellK l ks k).length = l.length := by simp [fellK]; omega
theorem fellK_zero (l : List Sec) (ks : List Bool) : fellK l ks 0 = l := by simp [fellK]
theorem fellK_at (l : List Sec) (ks : List Bool) (k : Nat) : (fellK l ks k)[k]? = l[k]? := by
  unfold fellK
  rw [List.getElem?_append_right (by simp)]
  simp
theorem fellK_succ (l : List Sec) (ks : List Bool) (k : Nat) (s : Sec) (h : l[k]? = some s) : fellK l ks (k + 1) = (fellK l ks k).set k (fellS ks (looseN l k) s) := by
  have hk : k < l.length := (List.getElem?_eq_some_iff.1 h).1
  unfold fellK
  rw [List.range_succ, List.map_append, List.drop_eq_getElem_cons hk, List.set_append_right _ _ (by simp), List.length_map, List.length_range, Nat.sub_self, List.set_cons_zero]
  obtain ⟨_, hs⟩ := List.getElem?_eq_some_iff.1 h
  simp [List.getD, h]
theorem fellK_same (l : List Sec) (ks : List Bool) (k : Nat) (s : Sec) (h : l[k]? = some s) (he : fellS ks (looseN l k) s = s) : fellK l ks (k + 1) = fellK l ks k := by
  rw [fellK_succ l ks k s h, he]
  have h2 := fellK_at l ks k
  rw [h] at h2
  obtain ⟨hk, hs⟩ := List.getElem?_eq_some_iff.1 h2
  rw [← hs, List.set_getElem_self]

theorem DiskAt.up {w : World} {d B : Nat} {l : List Sec} {c : Int} (h : DiskAt w d B l c) : DiskAt (((w.setCell ⟨d, 1, none⟩ (.int .i64 0)).setCell ⟨d, 2, none⟩ (.int .i64 0)).setCell ⟨d, 3, none⟩ (.bool false)) d B l 0 :=
  ⟨((h.blk.set 1 _).set 2 _).set 3 _, ((h.secs.set_other _ _ h.ne).set_other _ _ h.ne).set_other _ _ h.ne, h.ne, by simpa using h.lt⟩
theorem mod_at (n m : Nat) (h : 0 < m) : (n : Int).tmod (m : Int) = ((n % m : Nat) : Int) := by
  rw [Int.tmod_eq_emod_of_nonneg (by omega)]; omega

set_option maxHeartbeats 4000000 in
theorem fall_any (w : World) (d B N : Nat) (l : List Sec) (c x : Int) (a : Option Addr) (cap : Nat) (ks : List Bool) (hD : DiskAt w d B l c) (hl2 : l.length ≤ 24) (hN : N ≤ d) (hN2 : N ≤ B) (hk2 : ks.length ≤ 100) (hr : RowB N w a ks) :
    Calls Try.prog 11 #[.pointer (some ⟨d, 0, none⟩), .agg #[.int .i64 x, .int .i64 0, .slice a ks.length cap]] w fun e w' => e = .returned (.tuple #[]) ∧ DiskAt w' d B ((fellK l ks l.length).map Sec.settled) 0 ∧ Below N w w' := by
  have hnw : N ≤ w.heap.size := Nat.le_trans hN (Nat.le_of_lt hD.blk.lt)
  have hdp := hD.blk.lt
  have hBp := hD.lt
  go_enter Try.func11, Try.ntmps11
  go_upto_region 1 with fail
  have hp : Blk (w.alloc (.cells #[.int .i64 x, .int .i64 0, .slice a ks.length cap] 28)) w.heap.size [.int .i64 x, .int .i64 0, .slice a ks.length cap] 28 := Blk.new _ [_, _, _] _
  have hD1 := hD.alloc (.cells #[.int .i64 x, .int .i64 0, .slice a ks.length cap] 28)
  have hb1 : Below N w (w.alloc (.cells #[.int .i64 x, .int .i64 0, .slice a ks.length cap] 28)) := (Below.refl N w).alloc hnw _
  have hr1 := hr.keep hb1
  generalize w.alloc (.cells #[.int .i64 x, .int .i64 0, .slice a ks.length cap] 28) = W at *
  generalize w.heap.size = p at *
  clear hD hr
  have d0 := hD1.blk.cell 0 _ rfl
  go_wp2_with fail
  clear d0
  go_loopg [4, 14] l.length (fun G y x' wr => ∃ k n : Nat, k ≤ l.length ∧ G = l.length - k ∧ y = .int .i64 n ∧ x' = .int .i64 k ∧ looseN l k = n ∧ DiskAt wr d B (fellK l ks k) c ∧ Blk wr p [.int .i64 x, .int .i64 0, .slice a ks.length cap] 28 ∧ RowB N wr a ks ∧ Below N w wr)
  case atStart => exact ⟨0, 0, Nat.zero_le _, rfl, rfl, rfl, rfl, by rw [fellK_zero]; exact hD1, hp, hr1, hb1⟩
  case round =>
    clear hD1 hp hr1 hb1
    obtain ⟨k, n, hk, rfl, rfl, rfl, hn, hD, hp, hr, hbel⟩ := hrel
    by_cases hlt : k < l.length
    · obtain ⟨s, hs⟩ : ∃ s, l[k]? = some s := ⟨_, List.getElem?_eq_getElem hlt⟩
      have hk0 : (0 : Int) ≤ (k : Int) := Int.natCast_nonneg _
      have hk1 : (k : Int) < (l.length : Int) := by omega
      have hsu := looseN_succ l k s hs
      have hle := looseN_le l k
      have hks := hs
      rw [← fellK_at l ks] at hks
      have hsm := fellK_same l ks k s hs
      have hsc := fellK_succ l ks k s hs
      rw [hn] at hsu hle hsm hsc
      have hlen := fellK_length l ks k (by omega)
      generalize fellK l ks k = m at *
      have d0 := hD.blk.cell 0 _ rfl
      rw [hlen] at d0
      obtain ⟨so, sa1, sa2, sa3⟩ := hD.secs.2 k s hks
      cases hlo : s.loose with
      | false =>
        rw [hlo] at sa3 hsu
        have e1 := hsm (by simp [fellS, hlo])
        have HSU := Lib.hid hsu
        have HE := Lib.hid e1
        clear hsu hn hsm hsc e1
        go_wp2
        go_roundg (l.length - (k + 1))
        case measure => omega
        case rel => exact ⟨k + 1, n, by omega, rfl, rfl, by go_num, by simpa using HSU.out, by rw [HE.out]; exact hD, hp, hr, hbel⟩
      | true =>
        rw [hlo] at sa3 hsu
        have HSU := Lib.hid hsu
        have HSM := Lib.hid hsm
        have HSC := Lib.hid hsc
        clear hsu hn hsm hsc
        have hn0 : (0 : Int) ≤ (n : Int) := Int.natCast_nonneg _
        have p2 := hp.cell 2 _ rfl
        by_cases hk0 : ks = []
        · subst hk0
          have HFC : Hid (fellK l [] (k + 1) = m.set k { s with now := s.safe }) := by
            have := HSC.out; rw [fellS_gone hlo (by simp [kept])] at this; exact this
          have RB : RowB N wr a [] := .inl rfl
          clear p2
          have p2 := hp.cell 2 _ rfl
          go_wp2_with fail
          go_quiet (fail)
          clear p2 d0 sa1 sa2 sa3
          replace hD := hD.drewN nq
          replace hp : Blk (wr.drewN nq) _ _ _ := hp
          replace hbel := below_drewN hbel nq
          obtain ⟨wo, ho⟩ : ∃ wo, wo = wr.drewN nq := ⟨_, rfl⟩
          rw [← ho] at hD hp hbel ⊢
          clear ho
          obtain ⟨so, sa1, sa2, sa3⟩ := hD.secs.2 k s hks
          have hla : (byv s.safe).length = 64 := by rw [byv_length, so.2]
          have hi45 : (Try.prog.info? 45).map (·.size) = some (byv s.safe).length := by rw [hla]; exact Try.size45
          have hi46 : (Try.prog.info? 45).map (·.size) = some (byv s.safe).toArray.size := by rw [List.size_toArray]; exact hi45
          have hth : wo.there B (k * 129) (byv s.safe).toArray.size := by rw [List.size_toArray, hla]; exact there_sub hD.secs.1 _ _ (by rw [hlen]; omega)
          have hone := all_oneCell_toArray (byv_one s.safe)
          go_wp2_with (first
            | (refine wpList_load_mid rfl 45 _ rfl B (k * 129 + 64) rfl (byv s.safe) _ sa2 Try.underlying45 rfl hi45 ?_)
            | (refine wpList_store_mid rfl 45 _ _ rfl B (k * 129) (byv s.safe).toArray rfl rfl hth hi46 hone ?_))
          go_roundg (l.length - (k + 1))
          case measure => omega
          case rel =>
            have hD4 := hD.now hks so.2
            rw [← HFC.out] at hD4
            have hb4 := below_setCells hbel B hN2 (byv s.safe) (k * 129)
            exact ⟨k + 1, n + 1, by omega, rfl, by go_num, by go_num, by simpa using HSU.out, hD4, Blk.setCells (w := wo) (by omega) _ _ _ hp, Or.inl rfl, hb4⟩
        · have hkl : 0 < ks.length := List.length_pos_iff.2 hk0
          have hkl2 : ¬ (ks.length : Int) = 0 := by omega
          have hkb : ((ks.length : Int) == 0) = false := by simp; omega
          have hmod := mod_at n ks.length hkl
          have hmlt := Nat.mod_lt n hkl
          have HR := Lib.hid hr
          obtain ⟨b, off, rfl, hbN, hc⟩ := hr.resolve_left hk0
          have hcm := hc _ hmlt
          clear hc
          have HKP := Lib.hid (show kept ks n = ks.getD (n % ks.length) false from rfl)
          generalize n % ks.length = q at *
          have q0 : (0 : Int) ≤ (q : Int) := Int.natCast_nonneg _
          have q1 : (q : Int) < (ks.length : Int) := by omega
          cases hq : ks.getD q false with
          | true =>
            rw [hq] at hcm
            have HE : Hid (fellK l ks (k + 1) = m) := HSM.out (fellS_kept (HKP.out.trans hq))
            clear hq
            go_wp2_with fail
            go_quiet (fail)
            try simp only [hkb]
            clear p2 d0 sa1 sa2 sa3
            go_wp2
            go_roundg (l.length - (k + 1))
            case measure => omega
            case rel => exact ⟨k + 1, n + 1, by omega, rfl, by go_num, by go_num, by simpa using HSU.out, by rw [HE.out]; exact hD.drewN nq, hp, HR.out.keep (below_drewN (Below.refl N wr) nq), below_drewN hbel nq⟩
          | false =>
            rw [hq] at hcm
            have HFC : Hid (fellK l ks (k + 1) = m.set k { s with now := s.safe }) := by
              have := HSC.out; rw [fellS_gone hlo (HKP.out.trans hq)] at this; exact this
            clear hq
            go_wp2_with fail
            go_quiet (fail)
            try simp only [hkb]
            clear p2 d0 sa1 sa2 sa3
            have RB0 := HR.out.keep (below_drewN (Below.refl N wr) nq)
            replace hD := hD.drewN nq
            replace hp : Blk (wr.drewN nq) _ _ _ := hp
            replace hbel := below_drewN hbel nq
            obtain ⟨wo, ho⟩ : ∃ wo, wo = wr.drewN nq := ⟨_, rfl⟩
            rw [← ho] at hD hp hbel RB0 ⊢
            clear ho
            obtain ⟨so, sa1, sa2, sa3⟩ := hD.secs.2 k s hks
            have hla : (byv s.safe).length = 64 := by rw [byv_length, so.2]
            have hi45 : (Try.prog.info? 45).map (·.size) = some (byv s.safe).length := by rw [hla]; exact Try.size45
            have hi46 : (Try.prog.info? 45).map (·.size) = some (byv s.safe).toArray.size := by rw [List.size_toArray]; exact hi45
            have hth : wo.there B (k * 129) (byv s.safe).toArray.size := by rw [List.size_toArray, hla]; exact there_sub hD.secs.1 _ _ (by rw [hlen]; omega)
            have hone := all_oneCell_toArray (byv_one s.safe)
            go_wp2_with (first
              | (refine wpList_load_mid rfl 45 _ rfl B (k * 129 + 64) rfl (byv s.safe) _ sa2 Try.underlying45 rfl hi45 ?_)
              | (refine wpList_store_mid rfl 45 _ _ rfl B (k * 129) (byv s.safe).toArray rfl rfl hth hi46 hone ?_))
            go_roundg (l.length - (k + 1))
            case measure => omega
            case rel =>
              have hD4 := hD.now hks so.2
              rw [← HFC.out] at hD4
              have hb4 := below_setCells hbel B hN2 (byv s.safe) (k * 129)
              exact ⟨k + 1, n + 1, by omega, rfl, by go_num, by go_num, by simpa using HSU.out, hD4, Blk.setCells (w := wo) (by omega) _ _ _ hp, RB0.keep (below_setCells (Below.refl N wo) B hN2 _ _), hb4⟩
    · have hk1 : ¬ (k : Int) < (l.length : Int) := by omega
      have e : k = l.length := by omega
      subst e
      have hlen := fellK_length l ks l.length (Nat.le_refl _)
      go_upto_region 12 with fail
      go_wp2_with (go_at_call 20; refine (settle_any _ d B N _ c hD (by omega) hN hN2).mono ?_; rintro e w3 ⟨rfl, hD3, hb3, hf3⟩; have hp3 := (hf3 _ _ _ (by omega) hp).cell 1 _ rfl; have g1 := hD3.blk.cell 1 _ rfl; have g2 := hD3.blk.cell 2 _ rfl; have g3 := hD3.blk.cell 3 _ rfl; have g4 := hD3.blk.free 1; have g5 := hD3.blk.free 2; have g6 := hD3.blk.free 3)
      refine bodyPost_end (results_none rfl _ _ _) rfl ?_
      exact ⟨rfl, hD3.up, (((hbel.trans hb3).setCell hN _).setCell hN _).setCell hN _⟩
end Go.Proofs.Ytbnnjiaegoedoaa
