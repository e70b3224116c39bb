/- The contracts of Sync and of Loose. -/
import Derived.Test.YtbnnjiaegoedoaaDE
namespace Go.Proofs.Ytbnnjiaegoedoaa
open Go.RowKit

theorem DiskAt.calls {w : World} {d B : Nat} {l : List Sec} {c : Int} (h : DiskAt w d B l c) (x : Int) : DiskAt (w.setCell ⟨d, 2, none⟩ (.int .i64 x)) d B l x :=
  ⟨h.blk.set 2 _, h.secs.set_other _ _ h.ne, h.ne, by simpa using h.lt⟩

set_option maxHeartbeats 4000000 in
theorem sync_any (w : World) (d B N : Nat) (l : List Sec) (c : Int) (hD : DiskAt w d B l c) (hl2 : l.length ≤ 24) (hN : N ≤ d) (hN2 : N ≤ B) :
    Calls Try.prog 9 #[.pointer (some ⟨d, 0, none⟩)] w fun e w' => e = .returned (.int .i64 0) ∧ ∃ c', DiskAt w' d B (l.map Sec.settled) c' ∧ Below N w w' := by
  have hmf : ∀ (fn : Fn) (first cap : Array Value) (w : World), (Instr.makeFunc fn first cap).run Try.prog w = .ok (.func fn first cap) w := fun _ _ _ _ => rfl
  have d1 := hD.blk.cell 1 _ rfl
  have d2 := hD.blk.cell 2 _ rfl
  have d3 := hD.blk.cell 3 _ rfl
  have f2 := hD.blk.free 2
  go_enter Try.func9, Try.ntmps9
  go_wp2
  have HW := hD.calls (wrap64 (c + 1))
  have hbel : Below N w (w.setCell ⟨d, 2, none⟩ (.int .i64 (wrap64 (c + 1)))) := (Below.refl N w).setCell hN _
  clear d1 d2 d3 f2
  generalize w.setCell ⟨d, 2, none⟩ (.int .i64 (wrap64 (c + 1))) = V1 at *
  generalize wrap64 (c + 1) = c1 at *
  have d1 := HW.blk.cell 1 _ rfl
  have d2 := HW.blk.cell 2 _ rfl
  go_quiet (fail)
  replace HW := HW.drewN nq
  replace hbel := below_drewN hbel nq
  clear d1 d2
  generalize V1.drewN nq = V2 at *
  go_wp2_with (go_at_call 20; refine (settle_any _ d B N l c1 HW hl2 hN hN2).mono ?_; rintro e w3 ⟨rfl, hD3, hb3, _⟩)
  go_ret
  exact ⟨rfl, c1, hD3, hbel.trans hb3⟩

/-- How many of the first k are loose. -/
def looseN (l : List Sec) (k : Nat) : Nat := (l.take k).countP (·.loose)
theorem looseN_succ (l : List Sec) (k : Nat) (s : Sec) (h : l[k]? = some s) : looseN l (k + 1) = looseN l k + if s.loose then 1 else 0 := by
  obtain ⟨hk, hs⟩ := List.getElem?_eq_some_iff.1 h
  unfold looseN
  rw [List.take_succ_eq_append_getElem hk, List.countP_append, hs]
  simp [List.countP_cons]
theorem looseN_le (l : List Sec) (k : Nat) : looseN l k ≤ k := by
  unfold looseN
  have := List.countP_le_length (p := fun s : Sec => s.loose) (l := l.take k)
  have h2 : (l.take k).length ≤ k := by simp; omega
  omega

set_option maxHeartbeats 4000000 in
theorem loose_any (w : World) (d B : Nat) (l : List Sec) (c : Int) (hD : DiskAt w d B l c) (hl2 : l.length ≤ 24) :
    Calls Try.prog 10 #[.pointer (some ⟨d, 0, none⟩)] w fun e w' => e = .returned (.int .i64 (looseN l l.length)) ∧ Below w.heap.size w w' := by
  have d0 := hD.blk.cell 0 _ rfl
  go_enter Try.func10, Try.ntmps10
  go_wp2_with fail
  go_loopg [3, 12] l.length (fun G y x wr => ∃ k n : Nat, k ≤ l.length ∧ G = l.length - k ∧ y = .int .i64 n ∧ x = .int .i64 k ∧ looseN l k = n ∧ wr = w)
  case atStart => exact ⟨0, 0, Nat.zero_le _, rfl, rfl, rfl, rfl, rfl⟩
  case round =>
    obtain ⟨k, n, hk, rfl, rfl, rfl, hn, rfl⟩ := hrel
    by_cases hlt : k < l.length
    · obtain ⟨s, hs⟩ : ∃ s, l[k]? = some s := ⟨_, List.getElem?_eq_getElem hlt⟩
      have hk0 : (0 : Int) ≤ (k : Int) := Int.natCast_nonneg _
      have hk1 : (k : Int) < (l.length : Int) := by omega
      have hsu := looseN_succ l k s hs
      have hle := looseN_le l k
      rw [hn] at hsu hle
      obtain ⟨so, sa1, sa2, sa3⟩ := hD.secs.2 k s hs
      cases hlo : s.loose with
      | false =>
        rw [hlo] at sa3 hsu
        have HSU := Lib.hid hsu
        clear hsu hn
        go_wp2
        go_roundg (l.length - (k + 1))
        case measure => omega
        case rel => exact ⟨k + 1, n, by omega, rfl, rfl, by go_num, by simpa using HSU.out, rfl⟩
      | true =>
        rw [hlo] at sa3 hsu
        have HSU := Lib.hid hsu
        clear hsu hn
        have hn0 : (0 : Int) ≤ (n : Int) := Int.natCast_nonneg _
        go_wp2
        go_roundg (l.length - (k + 1))
        case measure => omega
        case rel => exact ⟨k + 1, n + 1, by omega, rfl, by go_num, by go_num, by simpa using HSU.out, rfl⟩
    · have hk1 : ¬ (k : Int) < (l.length : Int) := by omega
      have e : k = l.length := by omega
      subst e
      go_wp2
      go_ret
      exact ⟨rfl, Below.refl _ _⟩
end Go.Proofs.Ytbnnjiaegoedoaa
