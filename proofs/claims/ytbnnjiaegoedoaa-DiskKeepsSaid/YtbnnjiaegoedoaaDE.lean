/- The contract of settle. -/
import Derived.Test.YtbnnjiaegoedoaaDD
namespace Go.Proofs.Ytbnnjiaegoedoaa
open Go.RowKit

def Sec.settled (s : Sec) : Sec := ⟨s.now, if s.loose then s.now else s.safe, false⟩
/-- The first k settled. -/
def setK (l : List Sec) (k : Nat) : List Sec := (l.take k).map Sec.settled ++ l.drop k
theorem setK_length (l : List Sec) (k : Nat) : (setK l k).length = l.length := by simp [setK]; omega
theorem setK_zero (l : List Sec) : setK l 0 = l := by simp [setK]
theorem setK_full (l : List Sec) : setK l l.length = l.map Sec.settled := by simp [setK]
theorem setK_at (l : List Sec) (k : Nat) : (setK l k)[k]? = l[k]? := by
  unfold setK
  by_cases h : k < l.length
  · rw [List.getElem?_append_right (by simp; omega)]
    simp; congr 1; omega
  · rw [List.getElem?_eq_none (by simp; omega), List.getElem?_eq_none (by omega)]
theorem setK_succ (l : List Sec) (k : Nat) (s : Sec) (h : l[k]? = some s) : setK l (k + 1) = (setK l k).set k s.settled := by
  have hk : k < l.length := (List.getElem?_eq_some_iff.1 h).1
  have hs : l[k] = s := (List.getElem?_eq_some_iff.1 h).2
  unfold setK
  rw [List.take_succ_eq_append_getElem hk, List.drop_eq_getElem_cons hk, List.set_append_right _ _ (by simp; omega)]
  have e : (List.map Sec.settled (List.take k l)).length = k := by simp; omega
  rw [e, Nat.sub_self, List.set_cons_zero, List.map_append, hs]
  simp
theorem setK_same (l : List Sec) (k : Nat) (s : Sec) (h : l[k]? = some s) (hl : s.loose = false) : setK l (k + 1) = setK l k := by
  rw [setK_succ l k s h]
  have e : s.settled = s := by cases s; simp only at hl; subst hl; rfl
  have h2 := setK_at l k
  rw [h] at h2
  rw [e]
  obtain ⟨hk, hs⟩ := List.getElem?_eq_some_iff.1 h2
  rw [← hs, List.set_getElem_self]

theorem Try.size45 : (Try.prog.info? 45).map (·.size) = some 64 := by kernel_rfl
theorem DiskAt.drew {w : World} {d B : Nat} {l : List Sec} {c : Int} (h : DiskAt w d B l c) : DiskAt w.drew d B l c := ⟨h.blk, h.secs, h.ne, h.lt⟩
theorem DiskAt.drewN {w : World} {d B : Nat} {l : List Sec} {c : Int} (h : DiskAt w d B l c) (n : Nat) : DiskAt (w.drewN n) d B l c := ⟨h.blk, h.secs, h.ne, h.lt⟩
theorem DiskAt.safe {w : World} {d B : Nat} {l : List Sec} {c : Int} (h : DiskAt w d B l c) {i : Nat} {s : Sec} (hi : l[i]? = some s) {bs : List UInt8} (hb : bs.length = 64) : DiskAt (w.setCells B (i * 129 + 64) (byv bs)) d B (l.set i { s with safe := bs }) c :=
  ⟨by rw [List.length_set]; exact Blk.setCells (w := w) (Ne.symm h.ne) _ _ _ h.blk, h.secs.safe hi hb, h.ne, Nat.lt_of_lt_of_le h.lt (below_setCells (Below.refl 0 w) B (Nat.zero_le _) _ _).size⟩
theorem DiskAt.now {w : World} {d B : Nat} {l : List Sec} {c : Int} (h : DiskAt w d B l c) {i : Nat} {s : Sec} (hi : l[i]? = some s) {bs : List UInt8} (hb : bs.length = 64) : DiskAt (w.setCells B (i * 129) (byv bs)) d B (l.set i { s with now := bs }) c :=
  ⟨by rw [List.length_set]; exact Blk.setCells (w := w) (Ne.symm h.ne) _ _ _ h.blk, h.secs.now hi hb, h.ne, Nat.lt_of_lt_of_le h.lt (below_setCells (Below.refl 0 w) B (Nat.zero_le _) _ _).size⟩
theorem DiskAt.loose {w : World} {d B : Nat} {l : List Sec} {c : Int} (h : DiskAt w d B l c) {i : Nat} {s : Sec} (hi : l[i]? = some s) (x : Bool) : DiskAt (w.setCell ⟨B, i * 129 + 128, none⟩ (.bool x)) d B (l.set i { s with loose := x }) c :=
  ⟨by rw [List.length_set]; exact h.blk.set_other (Ne.symm h.ne) _, h.secs.loose hi x, h.ne, by simpa using h.lt⟩
theorem DiskAt.frz {w : World} {d B : Nat} {l : List Sec} {c : Int} (h : DiskAt w d B l c) {i : Nat} (hi : i < l.length) : w.frozen? ⟨B, i * 129 + 128, none⟩ = false := by
  have := (h.secs.1 (i * 129 + 128) (by omega)).2
  rwa [Nat.zero_add] at this

set_option maxHeartbeats 4000000 in
theorem settle_any (w : World) (d B N : Nat) (l : List Sec) (c : Int) (hD : DiskAt w d B l c) (hl2 : l.length ≤ 24) (hN : N ≤ d) (hN2 : N ≤ B) :
    Calls Try.prog 20 #[.pointer (some ⟨d, 0, none⟩)] w fun e w' => e = .returned (.tuple #[]) ∧ DiskAt w' d B (l.map Sec.settled) c ∧ Below N w w' ∧ ∀ b vs t, b ≠ B → Blk w b vs t → Blk w' b vs t := by
  have d0 := hD.blk.cell 0 _ rfl
  go_enter Try.func20, Try.ntmps20
  go_wp2_with fail
  clear d0
  go_loopg [8] l.length (fun G x wr => ∃ k : Nat, k ≤ l.length ∧ G = l.length - k ∧ x = .int .i64 k ∧ DiskAt wr d B (setK l k) c ∧ Below N w wr ∧ ∀ b vs t, b ≠ B → Blk w b vs t → Blk wr b vs t)
  case atStart => exact ⟨0, Nat.zero_le _, rfl, rfl, by rw [setK_zero]; exact hD, Below.refl _ _, fun _ _ _ _ h => h⟩
  case round =>
    clear hD
    obtain ⟨k, hk, rfl, rfl, hD, hbel, hfr⟩ := hrel
    have HFR := Lib.hid hfr
    clear hfr
    by_cases hlt : k < l.length
    · obtain ⟨s, hs⟩ : ∃ s, l[k]? = some s := ⟨_, List.getElem?_eq_getElem hlt⟩
      have hk0 : (0 : Int) ≤ (k : Int) := Int.natCast_nonneg _
      have hk1 : (k : Int) < (l.length : Int) := by omega
      have hks := hs
      rw [← setK_at] at hks
      have HS := Lib.hid (setK_succ l k s hs)
      have HSM := Lib.hid (setK_same l k s hs)
      have hlen := setK_length l k
      generalize setK l k = m at *
      have d0 := hD.blk.cell 0 _ rfl
      rw [hlen] at d0
      obtain ⟨so, sa1, sa2, sa3⟩ := hD.secs.2 k s hks
      cases hlo : s.loose with
      | false =>
        rw [hlo] at sa3
        go_wp2
        go_roundg (l.length - (k + 1))
        case measure => omega
        case rel => exact ⟨k + 1, by omega, rfl, by go_num, by rw [HSM.out hlo]; exact hD, hbel, HFR.out⟩
      | true =>
        rw [hlo] at sa3
        go_wp2_with fail
        have hla : (byv s.now).length = 64 := by rw [byv_length, so.1]
        have hu45 : Try.prog.underlying 45 = some (.array 64 5) := Try.underlying45
        have hi45 : (Try.prog.info? 45).map (·.size) = some (byv s.now).length := by rw [hla]; exact Try.size45
        have hone := byv_one s.now
        have HC : Hid (∀ m' V' s', m'.length = l.length → m'[k]? = some s' → s'.now = s.now → DiskAt V' d B m' c → V'.cell? ⟨d, 0, none⟩ = some (.slice (some ⟨B, 0, none⟩) l.length l.length) ∧ V'.rangeAt B (k * 129) (byv s.now) ∧ V'.there B (k * 129 + 64) 64) := fun m' V' s' h1 h2 h3 h => by
          obtain ⟨_, r1, _, _⟩ := h.secs.2 k s' h2
          rw [h3] at r1
          exact ⟨by rw [← h1]; exact h.blk.cell 0 _ rfl, r1, there_sub h.secs.1 _ _ (by omega)⟩
        clear d0 sa1 sa2
        have sf1 := hD.frz (show k < m.length by omega)
        have hA := hD.drew
        have hlm := hlt
        rw [← hlen] at hlm
        have HB1 : DiskAt (wr.setCell ⟨B, k * 129 + 128, none⟩ (.bool false)).drew d B (m.set k { s with loose := false }) c := (hD.loose hks false).drew
        have HL1 : (m.set k { s with loose := false }).length = l.length := by rw [List.length_set, hlen]
        have HL1' : (m.set k { s with loose := false })[k]? = some { s with loose := false } := List.getElem?_set_self hlm
        have HB2 : DiskAt (wr.drew.setCells B (k * 129 + 64) (byv s.now)) d B (m.set k { s with safe := s.now }) c := hA.safe hks so.1
        have HL2 : (m.set k { s with safe := s.now }).length = l.length := by rw [List.length_set, hlen]
        have HL2' : (m.set k { s with safe := s.now })[k]? = some { s with safe := s.now } := List.getElem?_set_self hlm
        have HB3 : DiskAt ((wr.setCell ⟨B, k * 129 + 128, none⟩ (.bool false)).drew.setCells B (k * 129 + 64) (byv s.now)) d B (m.set k s.settled) c := by
          have := HB1.safe HL1' so.1
          rw [List.set_set] at this
          have e : s.settled = { s with safe := s.now, loose := false } := by simp [Sec.settled, hlo]
          rw [e]; exact this
        have HL3 : (m.set k s.settled).length = l.length := by rw [List.length_set, hlen]
        have HL3' : (m.set k s.settled)[k]? = some s.settled := List.getElem?_set_self hlm
        have HB4 : DiskAt ((wr.drew.setCells B (k * 129 + 64) (byv s.now)).setCell ⟨B, k * 129 + 128, none⟩ (.bool false)) d B (m.set k s.settled) c := by
          have := HB2.loose HL2' false
          rw [List.set_set] at this
          have e : s.settled = { s with safe := s.now, loose := false } := by simp [Sec.settled, hlo]
          rw [e]; exact this
        have sa5 := (HB2.secs.2 k _ HL2').2.2.2
        simp only [hlo] at sa5
        have sf5 := HB2.frz (show k < (m.set k { s with safe := s.now }).length by omega)
        have HL4 := HL3
        have HL4' := HL3'
        go_region_held_law (fun V' => V'.cell? ⟨d, 0, none⟩ = some (.slice (some ⟨B, 0, none⟩) l.length l.length) ∧ V'.rangeAt B (k * 129) (byv s.now) ∧ V'.there B (k * 129 + 64) 64)
          (first
            | with_reducible exact HC.out _ _ _ hlen hks rfl hA
            | with_reducible exact HC.out _ _ _ HL1 HL1' rfl HB1
            | with_reducible exact HC.out _ _ _ HL2 HL2' rfl HB2
            | with_reducible exact HC.out _ _ _ HL3 HL3' rfl HB3
            | with_reducible exact HC.out _ _ _ HL4 HL4' rfl HB4
            | skip)
          (fail)
        all_goals go_wp2
        all_goals go_roundg (l.length - (k + 1))
        all_goals (first
          | (case measure => omega)
          | skip)
        all_goals first
          | exact ⟨k + 1, by omega, rfl, by go_num, by rw [HS.out]; exact HB4, (below_setCells hbel.drew B hN2 _ _).setCell hN2 _, fun b vs t hb h => (Blk.setCells (w := wr) (Ne.symm hb) _ _ _ (HFR.out b vs t hb h).drew).set_other (Ne.symm hb) _⟩
          | exact ⟨k + 1, by omega, rfl, by go_num, by rw [HS.out]; exact HB3, below_setCells (hbel.setCell hN2 _).drew B hN2 _ _, fun b vs t hb h => Blk.setCells (w := wr) (Ne.symm hb) _ _ _ ((HFR.out b vs t hb h).set_other (Ne.symm hb) _).drew⟩
    · have hk1 : ¬ (k : Int) < (l.length : Int) := by omega
      have e : k = l.length := by omega
      subst e
      rw [setK_full] at hD
      go_wp2
      go_end0
      exact ⟨rfl, hD, hbel, HFR.out⟩
end Go.Proofs.Ytbnnjiaegoedoaa
