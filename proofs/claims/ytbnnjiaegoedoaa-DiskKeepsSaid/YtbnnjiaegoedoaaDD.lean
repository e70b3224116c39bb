/- The contract of Write. -/
import Derived.Test.YtbnnjiaegoedoaaDC
import Derived.Deep.RegionHeldLaw
namespace Go.Proofs.Ytbnnjiaegoedoaa
open Go.RowKit

theorem Bys.addr {w : World} {ad : Option Addr} {bs : List UInt8} (h : Bys 0 w ad bs) (hl : 0 < bs.length) : ∃ b off, ad = some ⟨b, off, none⟩ ∧ b < w.heap.size ∧ w.rangeAt b off (byv bs) := by
  rcases h with h | ⟨b, off, e, _, hlt, hc⟩
  · have : bs = [] := by simpa [nums] using h
    subst this; simp at hl
  · refine ⟨b, off, e, hlt, fun j v hj => ?_⟩
    have hjl : j < bs.length := by have := (List.getElem?_eq_some_iff.1 hj).1; rwa [byv_length] at this
    rw [hc j (by rw [nums_length]; exact hjl), ← hj]
    simp [byv, nums, List.getD, hjl]

theorem Try.size5 : (Try.prog.info? 5).map (·.size) = some 1 := by kernel_rfl
/-- 'copy(d, s)' of as many bytes as both have. -/
theorem wp_copy_bytes {w : World} {o : Oper} {a : Act} {K : Act → World → Prop} {Q : Exit → Act → World → Prop} (d s : Operand)
    (ho : o.op = .call { callee := .builtin .copy, args := #[d, s], argTypes := #[22, 22] }) (B off b o2 dc sc n : Nat) (bs : List UInt8) (hn : bs.length = n)
    (hd : a.eval d = .slice (some ⟨B, off, none⟩) n dc) (hs : a.eval s = .slice (some ⟨b, o2, none⟩) n sc) (hsrc : w.rangeAt b o2 (byv bs)) (ht : w.there B off n)
    (h : K (a.put o.dst (goInt n)) (w.setCells B off (byv bs))) : Oper.wp Try.prog o a w K Q := by
  have hl : (byv bs).length = n := by rw [byv_length, hn]
  have hrun := run_copy_cells (P := Try.prog) w 22 22 o.type 5 B off n dc ⟨b, o2, none⟩ n sc (byv bs) Try.underlying22 Try.size5 (by rw [hl]; exact (Nat.min_self n).symm)
    (fun j v hj => by rw [Addr.add_mid]; exact hsrc j v hj) (fun j hj => (ht j (by rwa [hl] at hj)).1) (fun j hj => (ht j (by rwa [hl] at hj)).2) (byv_one bs)
  rw [hl] at hrun
  unfold Oper.wp
  simp [execOp, ho, resolve, invoke, builtin, hd, hs, hrun, Result.andThen]
  exact h

/-- What Write's boxes hold, and the disk, at a world of its walk. -/
structure WF (w : World) (p d B N : Nat) (l : List Sec) (c : Int) (i b o2 cap : Nat) (bs : List UInt8) (V : World) : Prop where
  p0 : Blk V p [.pointer (some ⟨d, 0, none⟩)] 25
  p1 : Blk V (p + 1) [.int .i64 i] 3
  p2 : Blk V (p + 1 + 1) [.slice (some ⟨b, o2, none⟩) 64 cap] 22
  hD : DiskAt V d B l c
  hrg : V.rangeAt b o2 (byv bs)
  bel : Below N w V
  ne0 : d < p
  ne1 : B < p
theorem WF.drewN {w V : World} {p d B N : Nat} {l : List Sec} {c : Int} {i b o2 cap : Nat} {bs : List UInt8} (h : WF w p d B N l c i b o2 cap bs V) (n : Nat) : WF w p d B N l c i b o2 cap bs (V.drewN n) :=
  ⟨h.p0, h.p1, h.p2, ⟨h.hD.blk, h.hD.secs, h.hD.ne, h.hD.lt⟩, h.hrg, below_drewN h.bel n, h.ne0, h.ne1⟩
theorem WF.calls {w V : World} {p d B N : Nat} {l : List Sec} {c : Int} {i b o2 cap : Nat} {bs : List UInt8} (h : WF w p d B N l c i b o2 cap bs V) (x : Int) (hN : N ≤ d) (hbd : b ≠ d) : WF w p d B N l x i b o2 cap bs (V.setCell ⟨d, 2, none⟩ (.int .i64 x)) :=
  ⟨h.p0.set_other (by show d ≠ p; have := h.ne0; omega) _, h.p1.set_other (by show d ≠ p + 1; have := h.ne0; omega) _, h.p2.set_other (by show d ≠ p + 1 + 1; have := h.ne0; omega) _,
    ⟨h.hD.blk.set 2 _, h.hD.secs.set_other _ _ h.hD.ne, h.hD.ne, by simpa using h.hD.lt⟩, range_set h.hrg _ _ (.inl (Ne.symm hbd)), h.bel.setCell hN _, h.ne0, h.ne1⟩

theorem WF.now {w V : World} {p d B N : Nat} {l : List Sec} {c : Int} {i b o2 cap : Nat} {bs : List UInt8} (h : WF w p d B N l c i b o2 cap bs V) {s : Sec} (hi : l[i]? = some s) (hl : bs.length = 64) (hN : N ≤ B) (hbd : b ≠ B) :
    WF w p d B N (l.set i { s with now := bs }) c i b o2 cap bs (V.setCells B (i * 129) (byv bs)) :=
  ⟨Blk.setCells (w := V) (by have := h.ne1; omega) _ _ _ h.p0, Blk.setCells (w := V) (by have := h.ne1; omega) _ _ _ h.p1, Blk.setCells (w := V) (by have := h.ne1; omega) _ _ _ h.p2,
    ⟨by rw [List.length_set]; exact Blk.setCells (w := V) (Ne.symm h.hD.ne) _ _ _ h.hD.blk, h.hD.secs.now hi hl, h.hD.ne, Nat.lt_of_lt_of_le h.hD.lt (below_setCells (Below.refl 0 V) B (Nat.zero_le _) _ _).size⟩,
    World.rangeAt_setCells_apart h.hrg _ _ _ (.inl hbd), below_setCells h.bel B hN _ _, h.ne0, h.ne1⟩
theorem WF.loose {w V : World} {p d B N : Nat} {l : List Sec} {c : Int} {i b o2 cap : Nat} {bs : List UInt8} (h : WF w p d B N l c i b o2 cap bs V) {s : Sec} (hi : l[i]? = some s) (x : Bool) (hN : N ≤ B) (hbd : b ≠ B) :
    WF w p d B N (l.set i { s with loose := x }) c i b o2 cap bs (V.setCell ⟨B, i * 129 + 128, none⟩ (.bool x)) :=
  ⟨h.p0.set_other (by show B ≠ p; have := h.ne1; omega) _, h.p1.set_other (by show B ≠ p + 1; have := h.ne1; omega) _, h.p2.set_other (by show B ≠ p + 1 + 1; have := h.ne1; omega) _,
    ⟨by rw [List.length_set]; exact h.hD.blk.set_other (Ne.symm h.hD.ne) _, h.hD.secs.loose hi x, h.hD.ne, by simpa using h.hD.lt⟩,
    range_set h.hrg _ _ (.inl (Ne.symm hbd)), h.bel.setCell hN _, h.ne0, h.ne1⟩

set_option maxHeartbeats 4000000 in
theorem write_any (w : World) (d B N : Nat) (l : List Sec) (c : Int) (i : Nat) (s : Sec) (a : Option Addr) (cap : Nat) (bs : List UInt8) (hD : DiskAt w d B l c) (hi : l[i]? = some s) (hl : bs.length = 64) (hl2 : l.length ≤ 24) (hr : Bys 0 w a bs) (hN : N ≤ d) (hN2 : N ≤ B) (had : ∀ x, a = some x → x.block ≠ d ∧ x.block ≠ B) :
    Calls Try.prog 7 #[.pointer (some ⟨d, 0, none⟩), .int .i64 i, .slice a 64 cap] w fun e w' => e = .returned (.int .i64 0) ∧ ∃ c', DiskAt w' d B (l.set i ⟨bs, s.safe, true⟩) c' ∧ Below N w w' := by
  obtain ⟨b, o2, rfl, hb, hrg⟩ := hr.addr (by omega)
  obtain ⟨hbd, hbB⟩ := had _ rfl
  simp only at hbd hbB
  have hmf : ∀ (fn : Fn) (first cap : Array Value) (w : World), (Instr.makeFunc fn first cap).run Try.prog w = .ok (.func fn first cap) w := fun _ _ _ _ => rfl
  have hil : i < l.length := (List.getElem?_eq_some_iff.1 hi).1
  have hi0 : (0 : Int) ≤ (i : Int) := Int.natCast_nonneg _
  have hi1 : ¬ (i : Int) < 0 := by omega
  have hi2 : (i : Int) < (l.length : Int) := by omega
  have hi3 : ¬ (l.length : Int) ≤ (i : Int) := by omega
  have hnb : N ≤ w.heap.size := Nat.le_trans hN (Nat.le_of_lt hD.blk.lt)
  have hdl := hD.blk.lt
  have hBl := hD.lt
  go_enter Try.func7, Try.ntmps7
  go_upto_region 1 with fail
  have hb3 : Below w.heap.size w (((w.alloc (.cells #[.pointer (some ⟨d, 0, none⟩)] 25)).alloc (.cells #[.int .i64 i] 3)).alloc (.cells #[.slice (some ⟨b, o2, none⟩) 64 cap] 22)) :=
    (((Below.refl _ _).alloc (Nat.le_refl _) _).alloc (by simp) _).alloc (by simp; omega) _
  have HW : WF w w.heap.size d B N l c i b o2 cap bs (((w.alloc (.cells #[.pointer (some ⟨d, 0, none⟩)] 25)).alloc (.cells #[.int .i64 i] 3)).alloc (.cells #[.slice (some ⟨b, o2, none⟩) 64 cap] 22)) :=
    ⟨((Blk.made rfl [_] _).alloc _).alloc _, (Blk.made (by simp) [_] _).alloc _, Blk.made (by simp) [_] _, hD.below hb3, range_keep hrg hb3 hb, hb3.mono hnb, hdl, hBl⟩
  generalize ((w.alloc (.cells #[.pointer (some ⟨d, 0, none⟩)] 25)).alloc (.cells #[.int .i64 i] 3)).alloc (.cells #[.slice (some ⟨b, o2, none⟩) 64 cap] 22) = W at *
  generalize w.heap.size = p at *
  clear hb3 hrg hr hD had
  have c0 := HW.p0.cell 0 _ rfl
  have c1 := HW.p1.cell 0 _ rfl
  have c2 := HW.p2.cell 0 _ rfl
  have d0 := HW.hD.blk.cell 0 _ rfl
  have d1 := HW.hD.blk.cell 1 _ rfl
  have d2 := HW.hD.blk.cell 2 _ rfl
  have d3 := HW.hD.blk.cell 3 _ rfl
  have di : decide ((i : Int) < 0) = false := by simp
  have dj : decide ((l.length : Int) ≤ (i : Int)) = false := by simp; omega
  have dk : decide (l.length ≤ i) = false := by simp; omega
  go_wp2_with fail
  go_quiet (fail)
  try simp only [dk]
  replace HW := HW.drewN nq
  clear c0 c1 c2 d0 d1 d2 d3
  generalize W.drewN nq = V at *
  have c0 := HW.p0.cell 0 _ rfl
  have d1 := HW.hD.blk.cell 1 _ rfl
  have d2 := HW.hD.blk.cell 2 _ rfl
  have d3 := HW.hD.blk.cell 3 _ rfl
  have f2 := HW.hD.blk.free 2
  go_wp2
  replace HW := HW.calls (wrap64 (c + 1)) hN hbd
  clear c0 d1 d2 d3 f2
  generalize V.setCell ⟨d, 2, none⟩ (.int .i64 (wrap64 (c + 1))) = V1 at *
  generalize wrap64 (c + 1) = c1 at *
  have d1 := HW.hD.blk.cell 1 _ rfl
  have d2 := HW.hD.blk.cell 2 _ rfl
  go_quiet (fail)
  replace HW := HW.drewN nq
  clear d1 d2
  generalize V1.drewN nq = V2 at *
  go_wp2
  clear di dj dk
  have HC : Hid (∀ l' V', l'.length = l.length → WF w p d B N l' c1 i b o2 cap bs V' → V'.cell? ⟨p, 0, none⟩ = some (.pointer (some ⟨d, 0, none⟩)) ∧ V'.cell? ⟨p + 1, 0, none⟩ = some (.int .i64 i) ∧ V'.cell? ⟨p + 1 + 1, 0, none⟩ = some (.slice (some ⟨b, o2, none⟩) 64 cap) ∧
      V'.cell? ⟨d, 0, none⟩ = some (.slice (some ⟨B, 0, none⟩) l.length l.length)) := fun l' V' hl' h => ⟨h.p0.cell 0 _ rfl, h.p1.cell 0 _ rfl, h.p2.cell 0 _ rfl, by rw [← hl']; exact h.hD.blk.cell 0 _ rfl⟩
  have HD1 : WF w p d B N l c1 i b o2 cap bs V2.drew := HW.drewN 1
  have HTH := Lib.hid (there_sub HD1.hD.secs.1 (i * 129) 64 (by omega))
  have HRG := Lib.hid HD1.hrg
  have HNEW := Lib.hid (HD1.now hi hl hN2 hbB)
  go_region_held_law (fun V' => V'.cell? ⟨p, 0, none⟩ = some (.pointer (some ⟨d, 0, none⟩)) ∧ V'.cell? ⟨p + 1, 0, none⟩ = some (.int .i64 i) ∧ V'.cell? ⟨p + 1 + 1, 0, none⟩ = some (.slice (some ⟨b, o2, none⟩) 64 cap) ∧
      V'.cell? ⟨d, 0, none⟩ = some (.slice (some ⟨B, 0, none⟩) l.length l.length))
    (first
      | with_reducible exact HC.out _ _ rfl HD1
      | with_reducible exact HC.out _ _ (List.length_set ..) HNEW.out
      | skip)
    (first
      | (rw [if_pos (by rfl)]
         refine wp_copy_bytes (.tmp 10) (.tmp 11) rfl B (i * 129) b o2 64 cap 64 bs hl rfl rfl HRG.out HTH.out ?_))
  have HW3 := HNEW.out
  clear HTH HRG HNEW HD1 HW
  generalize V2.drew.setCells B (i * 129) (byv bs) = V3 at *
  have hi3 : (l.set i { s with now := bs })[i]? = some { s with now := bs } := by rw [List.getElem?_set_self hil]
  have e1 := (HW3.hD.secs.2 i _ hi3).2.2.2
  have e2 := (HW3.hD.secs.1 (i * 129 + 128) (by rw [List.length_set]; omega)).2
  rw [Nat.zero_add] at e2
  have HD3 : WF w p d B N (l.set i { s with now := bs }) c1 i b o2 cap bs V3.drew := HW3.drewN 1
  have HNEW : Hid (WF w p d B N ((l.set i { s with now := bs }).set i { s with now := bs, loose := true }) c1 i b o2 cap bs (V3.setCell ⟨B, i * 129 + 128, none⟩ (.bool true)).drew) := (HW3.loose hi3 true hN2 hbB).drewN 1
  have HLN := Lib.hid (show ((l.set i { s with now := bs }).set i { s with now := bs, loose := true }).length = l.length by simp)
  go_upto_region 1 with fail
  go_region_held_law (fun V' => V'.cell? ⟨p, 0, none⟩ = some (.pointer (some ⟨d, 0, none⟩)) ∧ V'.cell? ⟨p + 1, 0, none⟩ = some (.int .i64 i) ∧ V'.cell? ⟨p + 1 + 1, 0, none⟩ = some (.slice (some ⟨b, o2, none⟩) 64 cap) ∧
      V'.cell? ⟨d, 0, none⟩ = some (.slice (some ⟨B, 0, none⟩) l.length l.length))
    (first
      | with_reducible exact HC.out _ _ (List.length_set ..) HD3
      | with_reducible exact HC.out _ _ HLN.out HNEW.out
      | skip)
    (fail)
  have HW4 := HNEW.out
  rw [List.set_set] at HW4
  clear HNEW HD3 HLN HC
  generalize (V3.setCell ⟨B, i * 129 + 128, none⟩ (.bool true)).drew = V4 at *
  go_end0
  go_wp2
  go_ret
  exact ⟨rfl, c1, HW4.hD, HW4.bel⟩
end Go.Proofs.Ytbnnjiaegoedoaa
