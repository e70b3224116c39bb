/- The contracts of the law's Two and owned. -/
import Derived.Test.YtdccpnaolcpohaaAE
import Derived.Test.YtdccpnaolcpohaaAF
import Derived.Deep.AppendLies
namespace Go.Proofs.Ytdccpnaolcpohaa
open Go.RowKit

/-- 'append(s, z)', with where the new slice lies. -/
theorem append_int2 {w : World} {ops : Array Oper} {rest : List Oper} {o : Oper} {a : Act} {Q : Exit → Act → World → Prop} (hgd : o.guard = none) (s x : Operand)
    (ho : o.op = .call { callee := .builtin .append, args := #[s, x], argTypes := #[24, 24] }) (B : Nat) (v : Value) (xs : List Int) (z : Int) (g c : Nat)
    (hs : a.eval s = v) (hx : a.eval x = .slice (some ⟨g, 0, none⟩) 1 c) (hown : Own w B v xs) (hz : w.cell? ⟨g, 0, none⟩ = some (.int .i64 z)) (hl : xs.length ≤ 4294967296) (hB : B ≤ w.heap.size)
    (h : ∀ g cap' w', Own w' B (.slice (some ⟨g, 0, none⟩) (xs.length + 1) cap') (xs ++ [z]) → w.grownBy w' v.ownBlock → (v.ownBlock = some g ∨ g = w.heap.size) → wpList Try.prog ops Q rest (a.put o.dst (.slice (some ⟨g, 0, none⟩) (xs.length + 1) cap')) w') : wpList Try.prog ops Q (o :: rest) a w := by
  obtain ⟨i0, hi, hz0, hz1, hz2⟩ := info_parts Try.info3
  refine wpList_append_lies (P := Try.prog) w hgd s x 24 ho B 3 i0 (.int .i64 0) 1 8 Try.underlying24 hi hz0 hz1 hz2 rfl (by decide) v xs.length (ints xs) hs hown ⟨g, 0, none⟩ 1 c [.int .i64 z] hx rfl ?_ ?_ (by decide) (by unfold maxLen; omega) (by omega) hB w.heap.size rfl ?_
  · intro j u hj
    match j, hj with
    | 0, hj =>
      simp at hj; subst hj
      simpa [Addr.add] using hz
    | j + 1, hj => simp at hj
  · intro u hu; simp at hu; subst hu; rfl
  · intro g' c' w' hown' hg hw _
    have hO : Own w' B (.slice (some ⟨g', 0, none⟩) (xs.length + 1) c') (xs ++ [z]) := by
      unfold Own; simpa [ints] using hown'
    exact h g' c' w' hO hg hw

theorem Own.grown {w w' : World} {B : Nat} {row : Option Nat} {v : Value} {xs : List Int} (h : Own w B v xs) (hg : w.grownBy w' row) (hr : ∀ g, v.ownBlock = some g → some g ≠ row) : Own w' B v xs := by
  obtain ⟨h1, h2 | ⟨g, cap, cur, e, hB, hh, r⟩⟩ := h
  · exact ⟨h1, .inl h2⟩
  · refine ⟨h1, .inr ⟨g, cap, cur, e, hB, ?_, r⟩⟩
    rw [hg.block g (Array.getElem?_eq_some_iff.1 hh).1 (hr g (by rw [e]; rfl))]; exact hh

theorem cnt_step (xs : List Int) (k : Nat) : cnt (keptB xs) (k + 1) = cnt (keptB xs) k + if 0 ≤ xs.getD k 0 then 1 else 0 := by
  simp only [cnt, keptB, decide_eq_true_eq]

set_option maxHeartbeats 4000000 in
theorem owned_any (w : World) (a : Option Addr) (cap : Nat) (xs : List Int) (n : Nat) (h : Row 0 w a xs) (hl : xs.length ≤ 4294967296) (hn : n ≤ 4294967296) :
    Calls Try.prog 31 #[.agg #[.slice a xs.length cap, .int .i64 n]] w fun e w' => e = .returned (.int .i64 ((n : Int) - cnt (keptB xs) xs.length)) ∧ Below w.heap.size w w' := by
  have B0 := (Below.refl w.heap.size w).alloc (Nat.le_refl _) (.cells #[.slice a xs.length cap, .int .i64 n] 26)
  have HH := Lib.hid h
  have HX := Blk.made (w := w) rfl [.slice a xs.length cap, .int .i64 n] 26
  have HC := Lib.hid (fun k => cnt_max (keptB xs) k)
  clear h
  go_enter Try.func31, Try.ntmps31
  go_wp2_with fail
  generalize w.alloc (.cells #[.slice a xs.length cap, .int .i64 n] 26) = W1 at *
  go_loopg [3, 4] xs.length (fun g l c wr => ∃ (k t : Nat), k ≤ xs.length ∧ g = xs.length - k ∧ c = .int .i64 k ∧ l = .int .i64 ((n : Int) - t) ∧ t ≤ k ∧ Hid (t = cnt (keptB xs) k) ∧ Below W1.heap.size W1 wr)
  case atStart => exact ⟨0, 0, Nat.zero_le _, rfl, rfl, by go_num, Nat.le_refl _, rfl, Below.refl _ _⟩
  case round =>
    obtain ⟨k, t, hk, rfl, rfl, rfl, htk, ht, hbel⟩ := hrel
    have hXr := HX.below hbel HX.lt
    have x0 := hXr.cell 0 _ rfl
    have BR := B0.trans (hbel.mono B0.size)
    by_cases hlt : k < xs.length
    · obtain ⟨b, off, rfl, _, hb, hc⟩ := ((HH.out.keep (Nat.le_refl _) B0).below hbel).at k hlt
      have HS := Lib.hid (cnt_step xs k)
      generalize xs.getD k 0 = x at *
      have hk0 : (0 : Int) ≤ (k : Int) := Int.natCast_nonneg _
      have hk1 : (k : Int) < (xs.length : Int) := by omega
      by_cases e1 : x ≥ 0
      · have HN := Lib.hid (show t + 1 = cnt (keptB xs) (k + 1) by rw [HS.out, if_pos e1, ht.out])
        go_wp2
        go_roundg (xs.length - (k + 1))
        case measure => omega
        case rel => exact ⟨k + 1, t + 1, by omega, rfl, by go_num, by go_num, by omega, HN, by first | exact hbel | exact below_drewN hbel _⟩
      · have HN := Lib.hid (show t = cnt (keptB xs) (k + 1) by rw [HS.out, if_neg e1, ht.out]; rfl)
        go_wp2
        go_roundg (xs.length - (k + 1))
        case measure => omega
        case rel => exact ⟨k + 1, t, by omega, rfl, by go_num, rfl, by omega, HN, by first | exact hbel | exact below_drewN hbel _⟩
    · have HN := Lib.hid (show (n : Int) - t = (n : Int) - cnt (keptB xs) xs.length by rw [ht.out, show k = xs.length by omega])
      go_wp2
      go_ret
      exact ⟨ret_int HN.out, BR⟩

def RetTwo (w : World) (xs ys : List Int) (na nb : Int) (e : Ending) (w' : World) : Prop :=
  ∃ a c b d, e = .returned (.tuple #[.agg #[.slice a xs.length c, .int .i64 na], .agg #[.slice b ys.length d, .int .i64 nb]]) ∧ Row 0 w' a xs ∧ Row 0 w' b ys ∧ Below w.heap.size w w'

end Go.Proofs.Ytdccpnaolcpohaa
