/-
  The library's stable sort at this program: at most 19 numbers, one block.
-/
import Derived.Shelf.SlSortCmp.Insertion
import Derived.Test.YtaopcpfgmjpliaaDoorBillA
namespace Go.Proofs.YtaopcpfgmjpliaaDoor
open Go.RowKit Go.Shelf Go.Sort Go.Proofs
def sort_ren : Go.Shelf.Ren := ⟨fun | 20 => 53 | n => n, fun | 0 => 0 | 3 => 3 | 4 => 4 | 22 => 31 | 24 => 3 | 25 => 56 | n => n, fun | n => n⟩
theorem sort_lays : Go.Proofs.SlLaysF.n20 Tryd.prog sort_ren := {
  mixed := by kernel_rfl
  f20 := ⟨"slices.insertionSortCmpFunc[int]", by decide, Tryd.func53.trans (congrArg some (by kernel_rfl))⟩
  t0 := Tryd.underlying0
  a0 := Tryd.isAgg0
  z0 := Tryd.sizeOf0
  v0 := Tryd.zeroValue0
  t3 := Tryd.underlying3
  a3 := Tryd.isAgg3
  z3 := Tryd.sizeOf3
  v3 := Tryd.zeroValue3
  t4 := Tryd.underlying4
  a4 := Tryd.isAgg4
  z4 := Tryd.sizeOf4
  v4 := Tryd.zeroValue4
  t22 := Tryd.underlying31
  a22 := Tryd.isAgg31
  z22 := Tryd.sizeOf31
  v22 := Tryd.zeroValue31
  a24 := Tryd.isAgg3
  z24 := Tryd.sizeOf3
  t25 := Tryd.underlying56
  a25 := Tryd.isAgg56
  z25 := Tryd.sizeOf56
  v25 := Tryd.zeroValue56 }
/-- The call hands back nothing; the world is W, and it may have drawn. -/
def RetPut (W : World) (e : Ending) (w' : World) : Prop := e = .returned (.tuple #[]) ∧ ∃ q, w' = W.drewN q
/-- A number below m + 1 as a value. -/
def encF (m : Nat) (x : Fin (m + 1)) : Value := .int .i64 x.val
theorem encF_one (m : Nat) : OneCell (encF m) := fun _ => rfl
section
variable (m : Nat) (cf : Fin (m + 1) → Fin (m + 1) → Int) (g : Nat) (cb : Array Value) (blk cap : Nat) (d : Array (Fin (m + 1))) (w : World)
theorem insertion_any (eg : ∀ args w, (callFunc g args).run Tryd.prog w = .ok (.enter g args) w) (hcmp : CmpReads Tryd.prog g cb (encF m) cf blk 0 d.size w) (hH : Holds (encF m) w blk 0 d) (hs : d.size ≤ 19) :
    Calls Tryd.prog 53 #[.slice (some ⟨blk, 0, none⟩) d.size cap, .int .i64 0, .int .i64 d.size, .func (.func g) #[] cb] w (RetPut (putRow (encF m) w blk 0 (Sort.insertionSort (ltOf cf) d 0 d.size))) :=
  Any.insertionSortCmpFunc_one sort_lays (encF m) (encF_one m) cf g cb blk 0 cap 0 d.size d w eg hcmp hH (Nat.zero_le _) (Nat.le_refl _) (by omega)
theorem stableCmp_any (eg : ∀ args w, (callFunc g args).run Tryd.prog w = .ok (.enter g args) w) (hcmp : CmpReads Tryd.prog g cb (encF m) cf blk 0 d.size w) (hH : Holds (encF m) w blk 0 d) (hs : d.size ≤ 19) :
    Calls Tryd.prog 44 #[.slice (some ⟨blk, 0, none⟩) d.size cap, .int .i64 d.size, .func (.func g) #[] cb] w (RetPut (putRow (encF m) w blk 0 (Sort.insertionSort (ltOf cf) d 0 d.size))) := by
  have CI := Lib.hid (insertion_any m cf g cb blk cap d w eg hcmp hH hs)
  generalize putRow (encF m) w blk 0 (Sort.insertionSort (ltOf cf) d 0 d.size) = W2 at *
  clear hcmp hH
  generalize d.size = n at *
  have h1 : ¬ (20 : Int) ≤ (n : Int) := by omega
  have h2 : ¬ (20 : Int) < (n : Int) := by omega
  have h3 : (n : Int) < 20 := by omega
  go_enter Tryd.func44, Tryd.ntmps44
  go_wp2
  go_loop [7, 8] (fun a b => a = .int .i64 0 ∧ b = .int .i64 20) (fun _ _ => 0)
  case atStart => exact ⟨rfl, rfl⟩
  case round =>
    obtain ⟨rfl, rfl⟩ := hrel
    go_wp2_with (first | (go_at_call 53; refine Calls.mono CI.out ?_; rintro e w1 ⟨rfl, q, rfl⟩))
    go_loop [6] (fun b => b = .int .i64 20) (fun _ => 0)
    case atStart => rfl
    case round =>
      obtain rfl := hrel
      go_wp2
      go_end0
      exact ⟨rfl, q, rfl⟩
theorem stable_any (eg : ∀ args w, (callFunc g args).run Tryd.prog w = .ok (.enter g args) w) (hcmp : CmpReads Tryd.prog g cb (encF m) cf blk 0 d.size w) (hH : Holds (encF m) w blk 0 d) (hs : d.size ≤ 19) :
    Calls Tryd.prog 22 #[.slice (some ⟨blk, 0, none⟩) d.size cap, .func (.func g) #[] cb] w (RetPut (putRow (encF m) w blk 0 (Sort.insertionSort (ltOf cf) d 0 d.size))) := by
  have CI := Lib.hid (stableCmp_any m cf g cb blk cap d w eg hcmp hH hs)
  generalize putRow (encF m) w blk 0 (Sort.insertionSort (ltOf cf) d 0 d.size) = W2 at *
  clear hcmp hH
  generalize d.size = n at *
  go_enter Tryd.func22, Tryd.ntmps22
  go_wp2_with (first | (go_at_call 44; refine Calls.mono CI.out ?_; rintro e w1 ⟨rfl, q, rfl⟩))
  go_end0
  exact ⟨rfl, q, rfl⟩
end
end Go.Proofs.YtaopcpfgmjpliaaDoor
