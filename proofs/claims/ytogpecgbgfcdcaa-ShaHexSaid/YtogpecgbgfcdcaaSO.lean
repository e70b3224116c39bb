/- The contract of the reference's Unhex. -/
import Derived.Test.YtogpecgbgfcdcaaSN
namespace Go.Proofs.Ytogpecgbgfcdcaa
open Go.RowKit

/-- What the reference makes of pairs. -/
theorem unhexF_out {bs : List UInt8} (h : unP bs (bs.length / 2) = none) : unhexF bs = none := by
  unfold unhexF; rw [h]; split <;> rfl

set_option maxRecDepth 100000 in
set_option maxHeartbeats 8000000 in
theorem runhex_any (w : World) (bs : List UInt8) (hl : bs.length ≤ 1048576) :
    Calls Try.prog 16 #[str bs] w fun e w' => e = .returned (unV (unhexF bs)) ∧ Below w.heap.size w w' := by
  unfold str
  have l0 : (0 : Int) ≤ (bs.length : Int) := Int.natCast_nonneg _
  have HOUT := Lib.hid (fun h => unhexF_out (bs := bs) h)
  go_enter Try.func16, Try.ntmps16
  go_wp2_with fail
  go_loopg [4, 5] bs.length (fun G v c wr => ∃ (k : Nat) (l : List UInt8), Hid (2 * k ≤ bs.length) ∧ G = bs.length - 2 * k ∧ c = .int .i64 ((2 * k : Nat) : Int) ∧ Hid (unP bs k = some l) ∧ OwnB wr w.heap.size v l ∧ Below w.heap.size w wr)
  case atStart => exact ⟨0, [], Nat.zero_le _, rfl, rfl, rfl, OwnB.nil _ _, Below.refl _ _⟩
  case round =>
    obtain ⟨k, l, hk, rfl, rfl, hP, hO, hbel⟩ := hrel
    have hkk := hk.out
    generalize hi : 2 * k = i at *
    have HI := Lib.hid hi
    have i0 : (0 : Int) ≤ (i : Int) := Int.natCast_nonneg _
    have wi : IntKind.i64.wrap ((i : Int) + 1) = (i : Int) + 1 := by rw [IntKind.wrap_i64]; omega
    by_cases hlt : i + 1 < bs.length
    · have i1 : (i : Int) < (bs.length : Int) := by omega
      have i2 : (i : Int) + 1 < (bs.length : Int) := by omega
      have i3 : (0 : Int) ≤ (i : Int) + 1 := by omega
      have ba := byteAt_nat bs i
      have bb := byteAt_nat bs (i + 1)
      have hca := (bs.getD i 0).toNat_lt
      have hcb := (bs.getD (i + 1) 0).toNat_lt
      have hbb2 : byteAt bs ((i : Int) + 1) = ((bs.getD (i + 1) 0).toNat : Int) := bb
      clear bb
      have HS := Lib.hid (show unP bs (k + 1) = match unP bs k, two (bs.getD (2 * k) 0) (bs.getD (2 * k + 1) 0) with
        | some l, some b => some (l ++ [b])
        | _, _ => none from rfl)
      have HB := Lib.hid (fun h m hm => unP_bad (bs := bs) (k := k) h m hm)
      rw [hi] at HS HB
      clear hi
      generalize bs.getD i 0 = a at *
      generalize bs.getD (i + 1) 0 = b at *
      have D1 := Lib.hid (fun W => nibble_any W a.toNat (by omega))
      have D2 := Lib.hid (fun W => nibble_any W b.toNat (by omega))
      cases hna : nib a.toNat with
      | none =>
        rw [hna] at D1
        have HBAD := Lib.hid (show unP bs (bs.length / 2) = none from HB.out (by unfold two; rw [hna]) _ (by have := HI.out; omega))
        clear hna
        have dq : decide ((-1 : Int) < 0) = true := rfl
        obtain ⟨y, hy⟩ : ∃ y, nibV (nib b.toNat) = y := ⟨_, rfl⟩
        rw [hy] at D2
        clear hy
        unfold nibV at D1
        go_wp2_with fail
        go_quiet (first
          | (go_at_call 23; with_reducible refine Calls.quiet_of_same (D1.out _))
          | (go_at_call 23; with_reducible refine Calls.quiet_of_same (D2.out _)))
        go_wp2
        exact bodyPost_ret (v := .tuple #[.string ⟨#[]⟩, .bool false]) (by simp [results, Try.results16, go_sem]) rfl ⟨by rw [HOUT.out HBAD.out]; rfl, below_drewN hbel _⟩
      | some x =>
        rw [hna] at D1
        cases hnb : nib b.toNat with
        | none =>
          rw [hnb] at D2
          have HBAD := Lib.hid (show unP bs (bs.length / 2) = none from HB.out (by unfold two; rw [hna, hnb]) _ (by have := HI.out; omega))
          clear hna hnb
          have dx : decide ((x : Int) < 0) = false := by simp
          unfold nibV at D1 D2
          go_wp2_with fail
          go_quiet (first
            | (go_at_call 23; with_reducible refine Calls.quiet_of_same (D1.out _))
            | (go_at_call 23; with_reducible refine Calls.quiet_of_same (D2.out _)))
          go_wp2
          exact bodyPost_ret (v := .tuple #[.string ⟨#[]⟩, .bool false]) (by simp [results, Try.results16, go_sem]) rfl ⟨by rw [HOUT.out HBAD.out]; rfl, below_drewN hbel _⟩
        | some y =>
          rw [hnb] at D2
          have hx16 := nib_lt hna
          have hy16 := nib_lt hnb
          have HT := Lib.hid (show two a b = some (UInt8.ofNat (16 * x + y)) by unfold two; rw [hna, hnb])
          clear hna hnb
          have HSS := Lib.hid (show unP bs (k + 1) = some (l ++ [UInt8.ofNat (16 * x + y)]) by rw [HS.out, hP.out, HT.out])
          have hz : (UInt8.ofNat (16 * x + y)).toNat = 16 * x + y := by rw [UInt8.toNat_ofNat']; omega
          have wz : IntKind.u8.wrap (16 * (x : Int) + (y : Int)) = (((UInt8.ofNat (16 * x + y)).toNat : Nat) : Int) := by rw [hz, IntKind.wrap_u8']; omega
          have wx : IntKind.i64.wrap (16 * (x : Int)) = 16 * (x : Int) := by rw [IntKind.wrap_i64]; omega
          have wy : IntKind.i64.wrap (16 * (x : Int) + (y : Int)) = 16 * (x : Int) + (y : Int) := by rw [IntKind.wrap_i64]; omega
          clear hz
          generalize UInt8.ofNat (16 * x + y) = z at *
          have HLL := Lib.hid (unP_length hP.out)
          have dx : decide ((x : Int) < 0) = false := by simp
          have dy : decide ((y : Int) < 0) = false := by simp
          unfold nibV at D1 D2
          go_wp2_with fail
          go_quiet (first
            | (go_at_call 23; with_reducible refine Calls.quiet_of_same (D1.out _))
            | (go_at_call 23; with_reducible refine Calls.quiet_of_same (D2.out _)))
          have hOq := hO.keep (Nat.le_refl _) (below_drewN (Below.refl wr.heap.size wr) nq)
          have hbq := below_drewN hbel nq
          generalize wr.drewN nq = w1 at *
          go_wp2_with (at_builtin; refine append_bytes rfl _ _ rfl w.heap.size _ l [z] ⟨w1.heap.size, 0, none⟩ 1 rfl rfl (hOq.alloc _) (Bys.new w1 [z] 5) (by have := HLL.out; have := HI.out; simp; omega) (by have := hbq.size; simp <;> omega) ?_)
          intro a' c' w3 hO3 hg3 _
          have hb3 := (hbq.alloc hbq.size (.cells (byv [z]).toArray 5)).grown hg3 (by have := hbq.size; simp <;> omega) (fun q hq => (hOq.ownBlock_lt hq).1)
          have wi2 : IntKind.i64.wrap ((i : Int) + 2) = (i : Int) + 2 := by rw [IntKind.wrap_i64]; omega
          clear D1 D2 wz wx wy
          go_wp2
          go_roundg (bs.length - 2 * (k + 1))
          case measure => have := HI.out; omega
          case rel =>
            have := HI.out
            exact ⟨k + 1, l ++ [z], by show 2 * (k + 1) ≤ bs.length; omega, rfl, by congr 1; omega, HSS.out, hO3, hb3⟩
    · have hke : bs.length / 2 = k := by have := HI.out; omega
      have hconv := conv_str hO
      unfold str at hconv
      have i1 : ¬ (i : Int) + 1 < (bs.length : Int) := by omega
      by_cases hodd : bs.length % 2 = 1
      · have HN := Lib.hid (show unhexF bs = none by unfold unhexF; rw [if_pos hodd])
        have ho : (bs.length : Int) % 2 = 1 := by omega
        clear hi hodd
        go_wp2
        exact bodyPost_ret (v := .tuple #[.string ⟨#[]⟩, .bool false]) (by simp [results, Try.results16, go_sem]) rfl ⟨by rw [HN.out]; rfl, hbel⟩
      · have HN := Lib.hid (show unhexF bs = some l by unfold unhexF; rw [if_neg hodd, hke]; exact hP.out)
        have ho : (bs.length : Int) % 2 = 0 := by omega
        clear hi hodd hke
        go_wp2
        exact bodyPost_ret (v := .tuple #[.string ⟨l.toArray⟩, .bool true]) (by simp [results, Try.results16, go_sem]) rfl ⟨by rw [HN.out]; rfl, hbel⟩

end Go.Proofs.Ytogpecgbgfcdcaa
