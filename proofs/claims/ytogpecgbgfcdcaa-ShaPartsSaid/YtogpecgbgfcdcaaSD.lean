/- The rounds' numbers, and New. -/
import Derived.Test.YtogpecgbgfcdcaaSC
import Derived.Deep.MidRow
namespace Go.Proofs.Ytogpecgbgfcdcaa
open Go.RowKit

def kwords : List Nat := [
    0x428a2f98, 0x71374491, 0xb5c0fbcf, 0xe9b5dba5, 0x3956c25b, 0x59f111f1, 0x923f82a4, 0xab1c5ed5,
    0xd807aa98, 0x12835b01, 0x243185be, 0x550c7dc3, 0x72be5d74, 0x80deb1fe, 0x9bdc06a7, 0xc19bf174,
    0xe49b69c1, 0xefbe4786, 0x0fc19dc6, 0x240ca1cc, 0x2de92c6f, 0x4a7484aa, 0x5cb0a9dc, 0x76f988da,
    0x983e5152, 0xa831c66d, 0xb00327c8, 0xbf597fc7, 0xc6e00bf3, 0xd5a79147, 0x06ca6351, 0x14292967,
    0x27b70a85, 0x2e1b2138, 0x4d2c6dfc, 0x53380d13, 0x650a7354, 0x766a0abb, 0x81c2c92e, 0x92722c85,
    0xa2bfe8a1, 0xa81a664b, 0xc24b8b70, 0xc76c51a3, 0xd192e819, 0xd6990624, 0xf40e3585, 0x106aa070,
    0x19a4c116, 0x1e376c08, 0x2748774c, 0x34b0bcb5, 0x391c0cb3, 0x4ed8aa4a, 0x5b9cca4f, 0x682e6ff3,
    0x748f82ee, 0x78a5636f, 0x84c87814, 0x8cc70208, 0x90befffa, 0xa4506ceb, 0xbef9a3f7, 0xc67178f2]
def hwords : List Nat := [0x6a09e667, 0xbb67ae85, 0x3c6ef372, 0xa54ff53a, 0x510e527f, 0x9b05688c, 0x1f83d9ab, 0x5be0cd19]
def wds (l : List Nat) : List Value := l.map fun (n : Nat) => Value.int .u32 (n : Int)
def keysV : Value := .agg (wds kwords).toArray

theorem there_new (w : World) (cs : Array Value) (t : TypeId) : (w.alloc (.cells cs t)).there w.heap.size 0 cs.size := fun j hj => by
  rw [Nat.zero_add]
  exact ⟨by rw [World.cell?_alloc_new]; simp [hj], World.frozen?_alloc_new w cs t j⟩
theorem wds_one (l : List Nat) : ∀ v ∈ wds l, v.oneCell' = true := by
  intro v hv; obtain ⟨n, _, rfl⟩ := List.mem_map.1 hv; rfl
theorem Try.size52 : (Try.prog.info? 52).map (·.size) = some 64 := by kernel_rfl

def keysA : Array Value := (wds kwords).toArray

theorem results_cell {fn : Func} {p : Tmp} {ty : TypeId} (h : fn.results = #[.cell p ty]) (tmps : Array Value) (P : Program) (w : World) (a : Addr) (v : Value)
    (ha : tmps.getD p undef = .pointer (some a)) (hl : (loadVar ty a).run P w = .ok v w) : (results fn tmps).run P w = .ok v w := by
  simp only [results, h]
  have ha' : tmps[p]?.getD undef = .pointer (some a) := by simpa using ha
  simp [Sem.run_bind, Result.andThen, ha', asAddr, hl]

theorem below_setCells {B : Nat} {a w : World} (h : Below B a w) (b : Nat) (hb : B ≤ b) : ∀ (vs : List Value) (o : Nat), Below B a (w.setCells b o vs)
  | [], _ => h
  | v :: vs, o => by
    unfold World.setCells
    exact below_setCells (h.setCell (p := ⟨b, o, none⟩) hb v) b hb vs (o + 1)

set_option maxRecDepth 100000 in
set_option maxHeartbeats 1000000 in
theorem keys_any (w : World) : Calls Try.prog 25 #[] w fun e w' => e = .returned keysV ∧ Below w.heap.size w w' := by
  have hk : keysA.size = 64 := by decide +kernel
  have h1 : keysA.all (·.oneCell') = true := all_oneCell_toArray (wds_one kwords)
  go_enter Try.func25, Try.ntmps25
  go_wp2_with (refine wpList_store_mid rfl 52 _ _ rfl w.heap.size 0 keysA rfl rfl ?ht ?hi h1 ?_)
  case hi => rw [hk]; exact Try.size52
  case ht => rw [hk]; exact there_new w _ 52
  have hr := World.rangeAt_setCells_same (w.alloc (.cells (Array.replicate 64 (.int .u32 0)) 52)) w.heap.size 0 keysA.toList (by have := there_new w (Array.replicate 64 (.int .u32 0)) 52; simpa [hk] using this)
  refine bodyPost_ret (v := keysV) (results_cell rfl _ _ _ ⟨w.heap.size, 0, none⟩ _ rfl ?_) rfl ⟨rfl, below_setCells ((Below.refl _ _).alloc (Nat.le_refl _) _) _ (Nat.le_refl _) _ _⟩
  exact run_loadVar_mid _ _ _ 52 (wds kwords) _ hr Try.underlying52 rfl Try.size52

end Go.Proofs.Ytogpecgbgfcdcaa
