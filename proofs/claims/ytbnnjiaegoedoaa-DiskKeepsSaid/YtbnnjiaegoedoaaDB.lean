/- The contracts of the law's sector, of Num, and of slices.Clone at []byte; bytes as strings. -/
import Derived.Test.YtbnnjiaegoedoaaDA
namespace Go.Proofs.Ytbnnjiaegoedoaa
open Go.RowKit

theorem Try.info5 : (Try.prog.info? 5).map (fun i => (i.zero, i.size, i.bytes)) = some (some (.int .u8 0), 1, 1) := by kernel_rfl

/-- 'append(s, t...)' onto bytes of the call's own: the law at this program's []byte. -/
theorem append_bytes {w : World} {ops : Array Oper} {rest : List Oper} {o : Oper} {a : Act} {Q : Exit → Act → World → Prop} (hgd : o.guard = none) (s x : Operand)
    (ho : o.op = .call { callee := .builtin .append, args := #[s, x], argTypes := #[22, 22] }) (B : Nat) (v : Value) (bs cs : List UInt8) (ad : Addr) (c : Nat)
    (hs : a.eval s = v) (hx : a.eval x = .slice (some ad) cs.length c) (hown : OwnB w B v bs) (hz : Bys 0 w (some ad) cs) (hl : bs.length + cs.length ≤ 4294967296) (hB : B ≤ w.heap.size)
    (h : ∀ a' cap' w', OwnB w' B (.slice a' (bs.length + cs.length) cap') (bs ++ cs) → w.grownBy w' v.ownBlock → (a' = none ↔ v = .slice none 0 0 ∧ cs.length = 0) → wpList Try.prog ops Q rest (a.put o.dst (.slice a' (bs.length + cs.length) cap')) w') : wpList Try.prog ops Q (o :: rest) a w := by
  obtain ⟨i0, hi, hz0, hz1, hz2⟩ := info_parts Try.info5
  refine wpList_append_own (P := Try.prog) w hgd s x 22 ho B 5 i0 (.int .u8 0) 1 1 Try.underlying22 hi hz0 hz1 hz2 rfl (by decide) v bs.length (byv bs) hs hown ad cs.length c (byv cs) hx (by simp [byv]) ?_ (byv_one cs) (by unfold maxLen; omega) (by omega) hB ?_
  · intro j u hj
    have hjl : j < cs.length := by have := (List.getElem?_eq_some_iff.1 hj).1; simpa [byv] using this
    rcases hz with hz | ⟨b, off, e, _, _, hc⟩
    · have : cs = [] := by simpa [nums] using hz
      subst this; simp at hjl
    · simp only [Option.some.injEq] at e
      subst e
      rw [Addr.add_mid, hc j (by rw [nums_length]; exact hjl)]
      rw [← hj]; simp [byv, nums, List.getD, hjl]
  · intro v' w' hown' hg hn
    have hO : OwnB w' B v' (bs ++ cs) := by
      unfold OwnB; rw [byv_append, List.length_append]; exact hown'
    obtain ⟨a', cap', e, _, _⟩ := hO.row
    rw [List.length_append] at e
    subst e
    refine h a' cap' w' hO hg ⟨fun e => ?_, fun e => ?_⟩
    · subst e
      apply hn.1
      obtain ⟨_, ⟨e1, _⟩ | ⟨g, cap, cur, e1, _⟩⟩ := hO
      · exact e1
      · simp at e1
    · have := hn.2 e
      simp only [Value.slice.injEq] at this
      exact this.1

def RetB (w : World) (bs : List UInt8) (e : Ending) (w' : World) : Prop :=
  ∃ a' cap', e = .returned (.slice a' bs.length cap') ∧ OwnB w' w.heap.size (.slice a' bs.length cap') bs ∧ Below w.heap.size w w'

set_option maxHeartbeats 1000000 in
theorem OwnB.nil (w : World) (B : Nat) : OwnB w B (.slice none 0 0) [] := World.ownsRow_nil w B 5 1
set_option maxHeartbeats 1000000 in
theorem clone_any (w : World) (a : Option Addr) (cap : Nat) (bs : List UInt8) (h : Bys 0 w a bs) (hl : bs.length ≤ 4294967296) :
    Calls Try.prog 21 #[.slice a bs.length cap] w (RetB w bs) := by
  have heq := fun (w : World) (l c : Nat) => Lib.run_eql_slice_nil (P := Try.prog) w 22 5 a l c 0 0 Try.underlying22
  cases a with
  | none =>
    have hb : bs = [] := by
      rcases h with h | ⟨b, off, e, _⟩
      · simpa [nums] using h
      · simp at e
    subst hb
    clear h
    go_enter Try.func21, Try.ntmps21
    go_wp2
    go_ret
    exact ⟨none, 0, rfl, OwnB.nil _ _, Below.refl _ _⟩
  | some ad =>
    have HH := Lib.hid h
    clear h
    go_enter Try.func21, Try.ntmps21
    go_wp2_with (at_builtin; refine append_bytes rfl _ _ rfl w.heap.size _ [] bs ad cap rfl rfl ?hown (HH.out.alloc _) (by simpa using hl) (by simp) ?_)
    case hown => exact ⟨by simp [byv], .inr ⟨w.heap.size, 0, #[], rfl, Nat.le_refl _, by show (w.heap.push _)[w.heap.size]? = _; simp, Nat.le_refl _, by decide, rfl, rfl⟩⟩
    intro a1 c1 w1 hO hg _
    go_wp2
    go_ret
    exact ⟨a1, c1, rfl, hO, (((Below.refl _ _).alloc (Nat.le_refl _) _).grown hg (by simp) (fun k e => by simp [Value.ownBlock] at e; omega))⟩

def str (bs : List UInt8) : Value := .string ⟨bs.toArray⟩
theorem conv_str {w : World} {B : Nat} {v : Value} {bs : List UInt8} (h : OwnB w B v bs) : (convert 22 9 v).run Try.prog w = .ok (str bs) w := by
  obtain ⟨a, cap, rfl, _, hB⟩ := h.row
  rcases hB with hB | ⟨b, off, rfl, _, _, hc⟩
  · have : bs = [] := by simpa [nums] using hB
    subst this
    cases a with
    | none => exact run_convert_bytes_nil w 22 5 Try.underlying22 Try.underlying5 _ _ 9 Try.underlying9
    | some a => exact run_convert_bytes_back w 22 9 5 a cap [] Try.underlying22 Try.underlying5 Try.underlying9 (fun j hj => by simp at hj)
  · refine run_convert_bytes_back w 22 9 5 _ cap bs Try.underlying22 Try.underlying5 Try.underlying9 (fun j hj => ?_)
    rw [Addr.add_mid, hc j (by rw [nums_length]; exact hj)]
    simp [nums, List.getD, hj]


def secAt (n : Int) (k : Nat) : UInt8 := UInt8.ofNat ((n + k) % 256).toNat
theorem secAt_num (n : Int) (k : Nat) : ((secAt n k).toNat : Int) = (n + k) % 256 := by
  unfold secAt
  rw [UInt8.toNat_ofNat']
  omega
/-- The law's sector by a number. -/
def secB (n : Int) : List UInt8 := (List.range 64).map (secAt n)
theorem secB_length (n : Int) : (secB n).length = 64 := by simp [secB]
def secK (n : Int) (k : Nat) : List Value := byv ((List.range k).map (secAt n)) ++ List.replicate (64 - k) (.int .u8 0)
theorem secK_length (n : Int) (k : Nat) (h : k ≤ 64) : (secK n k).length = 64 := by
  unfold secK; rw [List.length_append, byv_length, List.length_map, List.length_range, List.length_replicate]; omega
theorem secK_set (n : Int) (k : Nat) (h : k < 64) : (secK n k).set k (.int .u8 ((n + k) % 256)) = secK n (k + 1) := by
  have e : 64 - k = (64 - (k + 1)) + 1 := by omega
  unfold secK
  rw [e, List.set_append_right _ _ (by rw [byv_length, List.length_map, List.length_range]; exact Nat.le_refl _)]
  rw [byv_length, List.length_map, List.length_range, Nat.sub_self, List.replicate_succ, List.set_cons_zero, List.range_succ, List.map_append, byv_append, List.append_assoc]
  congr 1
  rw [← secAt_num]; rfl
theorem secK_full (n : Int) : secK n 64 = byv (secB n) := by unfold secK secB; simp

theorem num_any (w : World) (x : Int) : Calls Try.prog 12 #[.int .i64 x] w fun e w' => e = .returned (.int .i64 x) ∧ w = w' := by
  go_enter Try.func12, Try.ntmps12
  go_wp2
  go_ret
  exact ⟨rfl, rfl⟩

set_option maxHeartbeats 2000000 in
theorem sector_any (w : World) (n : Int) (h0 : 0 ≤ n) (h1 : n ≤ 255) : Calls Try.prog 8 #[.int .u8 n] w fun e w' => e = .returned (.slice (some ⟨w.heap.size, 0, none⟩) 64 64) ∧ Blk w' w.heap.size (byv (secB n)) 5 ∧ Below w.heap.size w w' := by
  have hz : (madeCells #[.int .u8 0] 64) = (secK n 0).toArray := by
    apply Array.ext'
    rw [List.toList_toArray, toList_madeCells_one]
    simp [secK, byv]
  have hmk : ∀ w : World, (Instr.makeSlice 22 (.int .i64 64) (.int .i64 64)).run Try.prog w = .ok (.slice (some ⟨w.heap.size, 0, none⟩) 64 64) (w.alloc (.cells (secK n 0).toArray 5)) := fun w => by
    rw [← hz]; exact run_make_row' (P := Try.prog) 22 5 (.int .u8 0) 1 Try.underlying22 Try.info5 rfl .i64 .i64 64 (by omega) (by omega) w
  clear hz
  go_enter Try.func8, Try.ntmps8
  go_wp2_with fail
  clear hmk
  go_loopg [4] 64 (fun G c wr => ∃ k : Nat, k ≤ 64 ∧ G = 64 - k ∧ c = .int .i64 k ∧ Blk wr w.heap.size (secK n k) 5 ∧ Below w.heap.size w wr)
  case atStart => exact ⟨0, by omega, rfl, rfl, Blk.new _ _ _, (Below.refl _ _).alloc (Nat.le_refl _) _⟩
  case round =>
    obtain ⟨k, hk, rfl, rfl, hB, hbel⟩ := hrel
    by_cases hlt : k < 64
    · have hk0 : (0 : Int) ≤ (k : Int) := Int.natCast_nonneg _
      have hk1 : (k : Int) < 64 := by omega
      have hc := hB.cell k _ (List.getElem?_eq_getElem (by rw [secK_length n k hk]; exact hlt))
      have hf := hB.free k
      go_wp2
      go_roundg (64 - (k + 1))
      case measure => omega
      case rel =>
        refine ⟨k + 1, by omega, rfl, by go_num, ?_, ?_⟩
        · have := hB.set k (.int .u8 ((n + k) % 256))
          rwa [secK_set n k hlt] at this
        · exact hbel.setCell (Nat.le_refl _) _
    · have hk1 : ¬ (k : Int) < 64 := by omega
      have e : k = 64 := by omega
      subst e
      rw [secK_full] at hB
      go_wp2
      go_ret
      exact ⟨rfl, hB, hbel⟩
end Go.Proofs.Ytbnnjiaegoedoaa
