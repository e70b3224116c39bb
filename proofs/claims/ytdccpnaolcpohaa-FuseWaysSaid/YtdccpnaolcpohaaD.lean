/- The contracts of maps.Del, Then. -/
import Derived.Test.YtdccpnaolcpohaaC
namespace Go.Proofs.Ytdccpnaolcpohaa
open Go.RowKit

theorem cf42 (args : Array Value) (W : World) : Sem.run Try.prog (callFunc 42 args) W = .ok (.enter 42 args) W := by simp [go_sem]
theorem cf39 (args : Array Value) (W : World) : Sem.run Try.prog (callFunc 39 args) W = .ok (.enter 39 args) W := by simp [go_sem]

set_option maxHeartbeats 400000 in
theorem del_in (w : World) (n at_ : Int) (h0 : 0 ≤ at_) (h1 : at_ < sizeF n) : Calls Try.prog 19 #[.int .i64 n, .int .i64 at_] w (RetMap w (tab (fun i => aheadF at_ i) (sizeF n)) (sizeF n - 1)) := by
  have hs := sizeF_le n
  go_enter Try.func19, Try.ntmps19
  go_wp2_with (go_at_call 40; refine (size_any _ _).mono ?_; rintro e w1 ⟨rfl, rfl⟩)
  refine (made_any _ (sizeF n) _ 42 #[.int .i64 at_] #[] (fun i => aheadF at_ i) (by omega) cf42 (fun i W _ _ => ahead_any W at_ i (by omega) (by omega))).mono ?_
  rintro e w1 ⟨a, cap, rfl, hR, hb⟩
  have hB := res_blk hb
  have hr0 := hB.cell 0 _ rfl
  have hr1 := hB.cell 1 _ rfl
  have hf0 := hB.free 0
  have hf1 := hB.free 1
  go_wp2
  obtain ⟨c0, c1⟩ := res_cells (a := a) (len := (tab (fun i => aheadF at_ i) (sizeF n)).length) (cap := cap) (new := sizeF n - 1) hb
  exact bodyPost_ret (by simp [results, Try.results19, go_sem, c0, c1]) rfl (res_end hb hR)

set_option maxHeartbeats 400000 in
theorem del_out (w : World) (n at_ : Int) (h : at_ < 0 ∨ at_ ≥ sizeF n) : Calls Try.prog 19 #[.int .i64 n, .int .i64 at_] w (RetMap w (tab idx (sizeF n)) (sizeF n)) := by
  have hs := sizeF_le n
  have hss : sizeF (sizeF n) = sizeF n := by unfold sizeF; omega
  have fin : ∀ e w1, RetMap (w.alloc (.cells #[.slice none 0 0, .int .i64 0] 26)) (tab idx (sizeF (sizeF n))) (sizeF (sizeF n)) e w1 → RetMap (w.alloc (.cells #[.slice none 0 0, .int .i64 0] 26)) (tab idx (sizeF n)) (sizeF n) e w1 := by rw [hss]; exact fun _ _ h => h
  clear hss
  have FIN := Lib.hid fin
  clear fin
  rcases h with h | h
  all_goals
    go_enter Try.func19, Try.ntmps19
    go_wp2_with (go_at_call 40; refine (size_any _ _).mono ?_; rintro e w1 ⟨rfl, rfl⟩)
    refine (same_any _ (sizeF n)).mono ?_
    intro e w1 hr
    obtain ⟨a, cap, rfl, hR, hb⟩ := FIN.out e w1 hr
    clear hr
    have hB := res_blk hb
    have hr0 := hB.cell 0 _ rfl
    have hr1 := hB.cell 1 _ rfl
    have hf0 := hB.free 0
    have hf1 := hB.free 1
    go_wp2
    obtain ⟨c0, c1⟩ := res_cells (a := a) (len := (tab idx (sizeF n)).length) (cap := cap) (new := sizeF n) hb
    exact bodyPost_ret (by simp [results, Try.results19, go_sem, c0, c1]) rfl (res_end hb hR)

/-- Of an element of a row: its cell. -/
theorem RowK.at {K : IntKind} {w : World} {B : Nat} {a : Option Addr} {xs : List Int} (h : RowK K B w a xs) (i : Nat) (hi : i < xs.length) :
    ∃ b off, a = some ⟨b, off, none⟩ ∧ B ≤ b ∧ b < w.heap.size ∧ w.cell? ⟨b, off + i, none⟩ = some (.int K (xs.getD i 0)) := by
  rcases h with h | ⟨b, off, e, hB, hb, hc⟩
  · subst h; simp at hi
  · exact ⟨b, off, e, hB, hb, hc i hi⟩

set_option maxHeartbeats 1000000 in
theorem then1_any (w : World) (pb pa : Nat) (ab aa : Option Addr) (capb capa : Nat) (ys xs : List Int) (nb na : Int) (i : Nat) (hi : i < xs.length)
    (hB : Blk w pb [.slice ab ys.length capb, .int .i64 nb] 26) (hA : Blk w pa [.slice aa xs.length capa, .int .i64 na] 26) (hb : Row 0 w ab ys) (ha : Row 0 w aa xs)
    (hl : ys.length ≤ 4294967296) (hn0 : -4294967296 ≤ nb) (hn : nb ≤ 4294967296) (hx : xs.getD i 0 ≤ 2199023255552) (hla : xs.length ≤ 4294967296) :
    Calls Try.prog 39 #[.int .i64 i, .pointer (some ⟨pb, 0, none⟩), .pointer (some ⟨pa, 0, none⟩)] w fun e w' => e = .returned (.int .i64 (imageF ys nb (xs.getD i 0))) ∧ Below w.heap.size w w' := by
  obtain ⟨b, off, rfl, _, hlt, hc⟩ := ha.at i hi
  have IMG := Lib.hid (fun W (h : Row 0 W ab ys) => image_any W ab capb ys nb (xs.getD i 0) h hl hn0 hn hx)
  generalize xs.getD i 0 = x at *
  have h0 := hB.cell 0 _ rfl
  have h1 := hB.cell 1 _ rfl
  have h2 := hA.cell 0 _ rfl
  have hk0 : (0 : Int) ≤ (i : Int) := Int.natCast_nonneg _
  have hk1 : (i : Int) < (xs.length : Int) := by omega
  go_enter Try.func39, Try.ntmps39
  go_wp2_with fail
  go_region_held3 (fun w' => w'.cell? ⟨pb, 0, none⟩ = some (.slice ab ys.length capb) ∧ w'.cell? ⟨pb, 1, none⟩ = some (.int .i64 nb) ∧ w'.cell? ⟨pa, 0, none⟩ = some (.slice (some ⟨b, off, none⟩) xs.length capa) ∧ w'.cell? ⟨b, off + i, none⟩ = some (.int .i64 x))
    (first | exact ⟨(hb1.cell (p := ⟨pb, 0, none⟩) hB.lt).trans h0, (hb1.cell (p := ⟨pb, 1, none⟩) hB.lt).trans h1, (hb1.cell (p := ⟨pa, 0, none⟩) hA.lt).trans h2, (hb1.cell (p := ⟨b, off + i, none⟩) hlt).trans hc⟩ | go_keep)
    (first | (go_at_call 17; refine (IMG.out _ hb.drew).mono ?_; rintro e w1 ⟨rfl, hb1⟩))
  go_wp2
  go_ret
  exact ⟨rfl, (Below.refl _ _).drew.trans hb1⟩

def thenG (xs ys : List Int) (nb : Int) (i : Nat) : Int := imageF ys nb (xs.getD i 0)
def thenF (xs ys : List Int) (nb : Int) : List Int := xs.map (imageF ys nb)
theorem tab_then (xs ys : List Int) (nb : Int) : tab (thenG xs ys nb) xs.length = thenF xs ys nb := by
  apply List.ext_getElem
  · simp [tab, thenF]
  · intro i h1 h2
    simp [tab, thenF, thenG] at h1 ⊢
    simp [h1]

set_option maxHeartbeats 1000000 in
theorem then_any (w : World) (ab aa : Option Addr) (capb capa : Nat) (ys xs : List Int) (nb na : Int)
    (hb : Row 0 w ab ys) (ha : Row 0 w aa xs)
    (hl : ys.length ≤ 4294967296) (hn0 : -4294967296 ≤ nb) (hn : nb ≤ 4294967296) (hx : ∀ i, xs.getD i 0 ≤ 2199023255552) (hla : xs.length ≤ 4294967296) :
    Calls Try.prog 15 #[.agg #[.slice aa xs.length capa, .int .i64 na], .agg #[.slice ab ys.length capb, .int .i64 nb]] w (RetMap w (thenF xs ys nb) nb) := by
  rw [← tab_then]
  have HX := Lib.hid hx
  clear hx
  go_enter Try.func15, Try.ntmps15
  go_wp2_with fail
  refine (made_any _ xs.length nb 39 #[] #[.pointer (some ⟨w.heap.size + 1, 0, none⟩), .pointer (some ⟨w.heap.size, 0, none⟩)] (thenG xs ys nb) hla cf39 ?_).mono ?_
  · intro i W hi hW
    refine then1_any W (w.heap.size + 1) w.heap.size ab aa capb capa ys xs nb na i hi ?_ ?_ ?_ ?_ hl hn0 hn (HX.out i) hla
    · exact (((Blk.made (by simp) _ _).alloc _).below hW (by simp <;> omega))
    · exact ((((Blk.made (by simp) _ _).alloc _).alloc _).below hW (by simp <;> omega))
    · exact (((hb.alloc _).alloc _).alloc _).below hW
    · exact (((ha.alloc _).alloc _).alloc _).below hW
  rintro e w1 ⟨a, cap, rfl, hR, hb1⟩
  have hB := (Blk.made (w := (w.alloc (.cells #[.slice aa xs.length capa, .int .i64 na] 26)).alloc (.cells #[.slice ab ys.length capb, .int .i64 nb] 26)) (b := w.heap.size + 1 + 1) (by simp) [.slice none 0 0, .int .i64 0] 26).below hb1 (by simp)
  have hr0 := hB.cell 0 _ rfl
  have hr1 := hB.cell 1 _ rfl
  have hf0 := hB.free 0
  have hf1 := hB.free 1
  go_wp2
  have hB' := (hB.set 0 (.slice a (tab (thenG xs ys nb) xs.length).length cap)).set 1 (.int .i64 nb)
  have c0 := hB'.cell 0 _ rfl
  have c1 := hB'.cell 1 _ rfl
  refine bodyPost_ret (v := .agg #[.slice a (tab (thenG xs ys nb) xs.length).length cap, .int .i64 nb]) (by simp [results, Try.results15, go_sem, c0, c1]) rfl ?_
  refine ⟨a, cap, rfl, ((hR.set (by simp) _).set (by simp) _).from (by simp <;> omega), ?_⟩
  exact (((((Below.refl _ _).alloc (Nat.le_refl _) _).alloc (by simp) _).alloc (by simp <;> omega) _).trans (hb1.mono (by simp <;> omega))).setCell (by simp <;> omega) _ |>.setCell (by simp <;> omega) _
end Go.Proofs.Ytdccpnaolcpohaa
