/- The contracts of Unhex and of the reference's. -/
import Derived.Test.YtogpecgbgfcdcaaSM
namespace Go.Proofs.Ytogpecgbgfcdcaa
open Go.RowKit

/-- Two digits and what they say. -/
def two (a b : UInt8) : Option UInt8 := match nib a.toNat, nib b.toNat with
  | some x, some y => some (UInt8.ofNat (16 * x + y))
  | _, _ => none
/-- The bytes that the first k pairs say. -/
def unP (bs : List UInt8) : Nat → Option (List UInt8)
  | 0 => some []
  | k + 1 => match unP bs k, two (bs.getD (2 * k) 0) (bs.getD (2 * k + 1) 0) with
    | some l, some b => some (l ++ [b])
    | _, _ => none
theorem unP_bad {bs : List UInt8} {k : Nat} (h : two (bs.getD (2 * k) 0) (bs.getD (2 * k + 1) 0) = none) : ∀ m, k < m → unP bs m = none := by
  intro m hm
  induction m with
  | zero => omega
  | succ m ih =>
    by_cases e : k = m
    · subst e
      rw [unP, h]; cases unP bs k <;> rfl
    · rw [unP, ih (by omega)]
def unhexF (bs : List UInt8) : Option (List UInt8) := if bs.length % 2 = 1 then none else unP bs (bs.length / 2)
def unV (o : Option (List UInt8)) : Value := match o with
  | some l => .tuple #[str l, .bool true]
  | none => .tuple #[.string ⟨#[]⟩, .bool false]
theorem unP_length {bs l : List UInt8} {k : Nat} (h : unP bs k = some l) : l.length = k := by
  induction k generalizing l with
  | zero => simp [unP] at h; subst h; rfl
  | succ k ih =>
    rw [unP] at h
    split at h
    · rename_i l' b h1 h2
      simp only [Option.some.injEq] at h
      subst h
      simp [ih h1]
    · cases h
theorem or_fin : ∀ x, x < 16 → ∀ y, y < 16 → bits .or .u8 ((x : Nat) * 16 : Int) ((y : Nat) : Int) = (((UInt8.ofNat (16 * x + y)).toNat : Nat) : Int) := by decide +kernel

set_option maxRecDepth 100000 in
set_option maxHeartbeats 8000000 in
theorem unhex_any (w : World) (bs : List UInt8) (hl : bs.length ≤ 1048576) :
    Calls Try.prog 15 #[str bs] w fun e w' => e = .returned (unV (unhexF bs)) ∧ Below w.heap.size w w' := by
  unfold str
  have l0 : (0 : Int) ≤ (bs.length : Int) := Int.natCast_nonneg _
  by_cases hodd : bs.length % 2 = 1
  · have HN := Lib.hid (show unhexF bs = none by unfold unhexF; rw [if_pos hodd])
    have ho : (bs.length : Int) % 2 = 1 := by omega
    go_enter Try.func15, Try.ntmps15
    go_wp2
    exact bodyPost_ret (v := .tuple #[.string ⟨#[]⟩, .bool false]) (by simp [results, Try.results15, go_sem]) rfl ⟨by rw [HN.out]; rfl, Below.refl _ _⟩
  · have HU := Lib.hid (show unhexF bs = unP bs (bs.length / 2) by unfold unhexF; rw [if_neg hodd])
    have ho : (bs.length : Int) % 2 = 0 := by omega
    have HE : Hid (bs.length % 2 = 0) := by show bs.length % 2 = 0; omega
    clear hodd
    go_enter Try.func15, Try.ntmps15
    go_wp2_with fail
    go_loopg [4, 5] bs.length (fun G v c wr => ∃ (k : Nat) (l : List UInt8), Hid (2 * k ≤ bs.length) ∧ G = bs.length - 2 * k ∧ c = .int .i64 ((2 * k : Nat) : Int) ∧ Hid (unP bs k = some l) ∧ OwnB wr w.heap.size v l ∧ Below w.heap.size w wr)
    case atStart => exact ⟨0, [], Nat.zero_le _, rfl, rfl, rfl, OwnB.nil _ _, Below.refl _ _⟩
    case round =>
      obtain ⟨k, l, hk, rfl, rfl, hP, hO, hbel⟩ := hrel
      clear ho
      have hkk := hk.out
      generalize hi : 2 * k = i at *
      have HI := Lib.hid hi
      have i0 : (0 : Int) ≤ (i : Int) := Int.natCast_nonneg _
      by_cases hlt : i < bs.length
      · have hlt2 : i + 1 < bs.length := by have := HE.out; omega
        have i1 : (i : Int) < (bs.length : Int) := by omega
        have i2 : (i : Int) + 1 < (bs.length : Int) := by omega
        have i3 : (0 : Int) ≤ (i : Int) + 1 := by omega
        have wi : IntKind.i64.wrap ((i : Int) + 1) = (i : Int) + 1 := by rw [IntKind.wrap_i64]; omega
        have ba := byteAt_nat bs i
        have bb := byteAt_nat bs (i + 1)
        have hca := (bs.getD i 0).toNat_lt
        have hcb := (bs.getD (i + 1) 0).toNat_lt
        have hbb2 : byteAt bs ((i : Int) + 1) = ((bs.getD (i + 1) 0).toNat : Int) := bb
        clear bb
        have HS := Lib.hid (show unP bs (k + 1) = match unP bs k, two (bs.getD (2 * k) 0) (bs.getD (2 * k + 1) 0) with
          | some l, some b => some (l ++ [b])
          | _, _ => none from rfl)
        have HB := Lib.hid (fun h m hm => unP_bad (bs := bs) (k := k) h m hm)
        rw [hi] at HS HB
        clear hi
        generalize bs.getD i 0 = a at *
        generalize bs.getD (i + 1) 0 = b at *
        have D1 := Lib.hid (fun W => digit_any W a.toNat (by omega))
        have D2 := Lib.hid (fun W => digit_any W b.toNat (by omega))
        cases hna : nib a.toNat with
        | none =>
          rw [hna] at D1
          cases hnb : nib b.toNat with
          | none =>
            rw [hnb] at D2
            have HBAD := Lib.hid (show unP bs (bs.length / 2) = none from HB.out (by unfold two; rw [hna, hnb]) _ (by have := HI.out; omega))
            clear hna hnb
            go_wp2_with fail
            refine (D1.out _).mono ?_
            rintro e w1 ⟨rfl, rfl⟩
            unfold digV
            go_wp2_with fail
            refine (D2.out _).mono ?_
            rintro e w1 ⟨rfl, rfl⟩
            unfold digV
            go_wp2
            exact bodyPost_ret (v := .tuple #[.string ⟨#[]⟩, .bool false]) (by simp [results, Try.results15, go_sem]) rfl ⟨by rw [HU.out, HBAD.out]; rfl, hbel⟩
          | some y =>
            rw [hnb] at D2
            have HBAD := Lib.hid (show unP bs (bs.length / 2) = none from HB.out (by unfold two; rw [hna, hnb]) _ (by have := HI.out; omega))
            clear hna hnb
            go_wp2_with fail
            refine (D1.out _).mono ?_
            rintro e w1 ⟨rfl, rfl⟩
            unfold digV
            go_wp2_with fail
            refine (D2.out _).mono ?_
            rintro e w1 ⟨rfl, rfl⟩
            unfold digV
            go_wp2
            exact bodyPost_ret (v := .tuple #[.string ⟨#[]⟩, .bool false]) (by simp [results, Try.results15, go_sem]) rfl ⟨by rw [HU.out, HBAD.out]; rfl, hbel⟩
        | some x =>
          rw [hna] at D1
          cases hnb : nib b.toNat with
          | none =>
            rw [hnb] at D2
            have HBAD := Lib.hid (show unP bs (bs.length / 2) = none from HB.out (by unfold two; rw [hna, hnb]) _ (by have := HI.out; omega))
            clear hna hnb
            go_wp2_with fail
            refine (D1.out _).mono ?_
            rintro e w1 ⟨rfl, rfl⟩
            unfold digV
            go_wp2_with fail
            refine (D2.out _).mono ?_
            rintro e w1 ⟨rfl, rfl⟩
            unfold digV
            go_wp2
            exact bodyPost_ret (v := .tuple #[.string ⟨#[]⟩, .bool false]) (by simp [results, Try.results15, go_sem]) rfl ⟨by rw [HU.out, HBAD.out]; rfl, hbel⟩
          | some y =>
            rw [hnb] at D2
            have hx16 := nib_lt hna
            have hy16 := nib_lt hnb
            have hor := or_fin x hx16 y hy16
            have HT := Lib.hid (show two a b = some (UInt8.ofNat (16 * x + y)) by unfold two; rw [hna, hnb])
            clear hna hnb
            have HSS := Lib.hid (show unP bs (k + 1) = some (l ++ [UInt8.ofNat (16 * x + y)]) by rw [HS.out, hP.out, HT.out])
            generalize UInt8.ofNat (16 * x + y) = z at *
            have w16 : IntKind.u8.wrap ((x : Int) * 16) = (x : Int) * 16 := by rw [IntKind.wrap_u8']; omega
            have HLL := Lib.hid (unP_length hP.out)
            go_wp2_with fail
            refine (D1.out _).mono ?_
            rintro e w1 ⟨rfl, rfl⟩
            unfold digV
            go_wp2_with fail
            refine (D2.out _).mono ?_
            rintro e w1 ⟨rfl, rfl⟩
            unfold digV
            go_wp2_with (at_builtin; refine append_bytes rfl _ _ rfl w.heap.size _ l [z] ⟨w1.heap.size, 0, none⟩ 1 rfl rfl (hO.alloc _) (Bys.new w1 [z] 5) (by have := HLL.out; have := HI.out; simp; omega) (by have := hbel.size; simp <;> omega) ?_)
            intro a' c' w3 hO3 hg3 _
            have hb3 := (hbel.alloc hbel.size (.cells (byv [z]).toArray 5)).grown hg3 (by have := hbel.size; simp <;> omega) (fun q hq => (hO.ownBlock_lt hq).1)
            have wi2 : IntKind.i64.wrap ((i : Int) + 2) = (i : Int) + 2 := by rw [IntKind.wrap_i64]; omega
            clear D1 D2 hor
            go_wp2
            go_roundg (bs.length - 2 * (k + 1))
            case measure => have := HI.out; omega
            case rel =>
              have := HI.out
              exact ⟨k + 1, l ++ [z], by show 2 * (k + 1) ≤ bs.length; omega, rfl, by congr 1; omega, HSS.out, hO3, hb3⟩
      · have hie : i = bs.length := by omega
        have HN := Lib.hid (show unhexF bs = some l by rw [HU.out, show bs.length / 2 = k by have := HI.out; omega]; exact hP.out)
        have hconv := conv_str hO
        unfold str at hconv
        have i1 : ¬ (i : Int) < (bs.length : Int) := by omega
        clear hi
        go_wp2
        exact bodyPost_ret (v := .tuple #[.string ⟨l.toArray⟩, .bool true]) (by simp [results, Try.results15, go_sem]) rfl ⟨by rw [HN.out]; rfl, hbel⟩

end Go.Proofs.Ytogpecgbgfcdcaa
