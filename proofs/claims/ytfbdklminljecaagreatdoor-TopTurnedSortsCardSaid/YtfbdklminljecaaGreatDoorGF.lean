/-
  Walks: the sum of counts; the order of a bill's remainders (BillFor's closure).
  The library's stable sort at this program: at most 19 numbers, one block.
  The stable sort of a bill's order, as it lies in memory.
  Plain law: the shares of a bill, what remains of it, and the steps up.
  What BillFor's loops keep in memory.
  A fount that was boxed at a call's beginning, in later worlds; an or over a list.
  Walks: lists of sorts: checkList, WidthOf.
  Walk: TextOf, what a list of sorts prints.
  Walks: NeedOf; the reference's error of a list, its width and its need.
  Plain law: the first error of a row.
  Walks: functions that only the fount's own laws reach (CheckCase, most).
-/
import Derived.Test.YtfbdklminljecaaGreatDoorGE
import Derived.Shelf.SlSortCmp.Insertion
import Derived.Test.YtfbdklminljecaaGreatDoorGA
import Derived.Deep.RegionHeld3
import Derived.StillTailTactics
namespace Go.Proofs.YtfbdklminljecaaGreatDoor
open Go.RowKit

def sumZ (zs : List Int) (n : Nat) : Int := sumTo (fun k => zs.getD k 0) n
/-- The call hands back a number; it may draw. -/
def RetQ (z : Int) (w : World) (e : Ending) (w' : World) : Prop := e = .returned (.int .i64 z) ∧ ∃ q, w' = w.drewN q
def diffB (total all : Int) (ns : List Int) (a b : Nat) : Int := (total * ns.getD b 0) % all - (total * ns.getD a 0) % all
end Go.Proofs.YtfbdklminljecaaGreatDoor
namespace Go.Proofs.YtfbdklminljecaaGreatDoor
open Go.RowKit Go.Shelf Go.Sort Go.Proofs
/-- The call hands back nothing; the world is W, and it may have drawn. -/
def RetPut (W : World) (e : Ending) (w' : World) : Prop := e = .returned (.tuple #[]) ∧ ∃ q, w' = W.drewN q
/-- A number below m + 1 as a value. -/
def encF (m : Nat) (x : Fin (m + 1)) : Value := .int .i64 x.val
theorem encF_one (m : Nat) : OneCell (encF m) := fun _ => rfl
section
variable (m : Nat) (cf : Fin (m + 1) → Fin (m + 1) → Int) (g : Nat) (cb : Array Value) (blk cap : Nat) (d : Array (Fin (m + 1))) (w : World)
end
end Go.Proofs.YtfbdklminljecaaGreatDoor
namespace Go.Proofs.YtfbdklminljecaaGreatDoor
open Go.RowKit Go.Shelf Go.Sort Go.Proofs

section
variable {α : Type} [Inhabited α] (lt : α → α → Bool)
theorem insInner_size (a : Nat) : ∀ (j : Nat) (d : Array α), (insInner lt a j d).size = d.size
  | 0, d => rfl
  | j + 1, d => by
    rw [insInner]
    split
    · rw [insInner_size a j]; simp [swp]
    · rfl
theorem insOuter_size (a b : Nat) : ∀ (n i : Nat) (d : Array α), b - i ≤ n → (insOuter lt a b i d).size = d.size
  | 0, i, d, h => by rw [insOuter, if_neg (by omega)]
  | n + 1, i, d, h => by
    rw [insOuter]
    split
    · rw [insOuter_size a b n (i + 1) _ (by omega), insInner_size]
    · rfl
theorem insertionSort_size (d : Array α) (a b : Nat) : (Sort.insertionSort lt d a b).size = d.size := insOuter_size lt a b _ _ d (Nat.le_refl _)
end

/-- The numbers 0 to n - 1. -/
def ids (n : Nat) : List Int := (List.range n).map Int.ofNat
theorem ids_len (n : Nat) : (ids n).length = n := by simp [ids]
theorem ids_at (n k : Nat) (h : k < n) : (ids n).getD k 0 = k := by
  unfold ids; rw [List.getD_eq_getElem?_getD, List.getElem?_map, List.getElem?_range h]; rfl
theorem ids_snoc (n : Nat) : ids (n + 1) = ids n ++ [(n : Int)] := by unfold ids; rw [List.range_succ, List.map_append]; rfl
/-- The order that the sort leaves. -/
def sortF (m : Nat) (cf : Fin (m + 1) → Fin (m + 1) → Int) : Array (Fin (m + 1)) := Sort.insertionSort (ltOf cf) (Array.ofFn id) 0 (m + 1)
def ordL (m : Nat) (cf : Fin (m + 1) → Fin (m + 1) → Int) : List Int := (sortF m cf).toList.map fun x => (x.val : Int)
theorem sortF_size (m : Nat) (cf : Fin (m + 1) → Fin (m + 1) → Int) : (sortF m cf).size = m + 1 := by unfold sortF; rw [insertionSort_size]; simp
theorem ordL_len (m : Nat) (cf : Fin (m + 1) → Fin (m + 1) → Int) : (ordL m cf).length = m + 1 := by unfold ordL; rw [List.length_map, Array.length_toList, sortF_size]
theorem ordL_at (m : Nat) (cf : Fin (m + 1) → Fin (m + 1) → Int) (k : Nat) (h : k < m + 1) : (ordL m cf).getD k 0 = ((sortF m cf)[k]!.val : Int) := by
  have hk : k < (sortF m cf).size := by rw [sortF_size]; exact h
  unfold ordL
  rw [List.getD_eq_getElem?_getD, List.getElem?_map, Array.getElem?_toList, Array.getElem?_eq_getElem hk, getElem!_pos _ k hk]; rfl
theorem ordL_bd (m : Nat) (cf : Fin (m + 1) → Fin (m + 1) → Int) (k : Nat) (h : k < m + 1) : ∃ j : Nat, j < m + 1 ∧ (ordL m cf).getD k 0 = j := ⟨_, (sortF m cf)[k]!.isLt, ordL_at m cf k h⟩

theorem holds_ids {w : World} {base g cap m : Nat} (hm : m + 1 ≤ 1000) (h : Own w base (.slice (some ⟨g, 0, none⟩) (m + 1) cap) (ids (m + 1))) : Holds (encF m) w g 0 (Array.ofFn (n := m + 1) id) := by
  intro j hj
  have hj' : j < m + 1 := by simpa using hj
  obtain ⟨A, c, hv, _, hr⟩ := h.form (by rw [ids_len]; omega)
  obtain ⟨hA, _, _⟩ := Value.slice.inj hv
  have hl : (ids (m + 1)).length = m + 1 := ids_len _
  obtain ⟨b, off, ha, _, hc⟩ := hr.2.2 (by omega)
  rw [← hA] at ha
  cases ha
  refine ⟨?_, ?_⟩
  · rw [hc j (by omega), ids_at _ _ hj']
    congr 1
    unfold encF
    rw [getElem!_pos _ j hj]
    simp
  · rcases h.2 with ⟨hv, _⟩ | ⟨g', cap', cur, hv, _, hb, _⟩
    · cases hv
    · obtain ⟨h1, _, _⟩ := Value.slice.inj hv
      cases h1
      simp [World.frozen?, hb]
theorem sortWorld_block {α : Type} [Inhabited α] (enc : α → Value) (w : World) (blk m : Nat) (dk : Array α) (os : Array Obj) {b : Nat} (hb : b < w.heap.size) (hne : b ≠ blk) : (sortWorld enc w blk 0 m dk os).heap[b]? = w.heap[b]? := by
  unfold sortWorld
  rw [heap_grow_old _ _ (by simpa [Sort.ahead] using hb)]
  simp [putRow, mapBlock, Sort.ahead, Array.getElem?_modify, Ne.symm hne]
theorem RI.block {w w' : World} {A : Option Addr} {n : Nat} {zs : List Int} (h : RI w A n zs) (hs : w.heap.size ≤ w'.heap.size) (hk : ∀ a, A = some a → a.block < w.heap.size → w'.heap[a.block]? = w.heap[a.block]?) : RI w' A n zs :=
  ⟨h.1, h.2.1, fun hn => by
    obtain ⟨b, off, ha, hb, hc⟩ := h.2.2 hn
    exact ⟨b, off, ha, Nat.lt_of_lt_of_le hb hs, fun k hk' => (World.cell?_of_block (a := ⟨b, off + k, none⟩) (hk ⟨b, off, none⟩ ha hb)).trans (hc k hk')⟩⟩

/-- The row at block g holds zs; nothing else has turned. -/
def RetSort (g n : Nat) (zs : List Int) (w : World) (e : Ending) (w' : World) : Prop := e = .returned (.tuple #[]) ∧ But [g] w w' ∧ RI w' (some ⟨g, 0, none⟩) n zs
def cfB (m : Nat) (total all : Int) (ns : List Int) (x y : Fin (m + 1)) : Int := diffB total all ns x.val y.val
end Go.Proofs.YtfbdklminljecaaGreatDoor
namespace Go.Proofs.YtfbdklminljecaaGreatDoor
open Go.RowKit

def shareB (total all : Int) (ns : List Int) (k : Nat) : Int := total * ns.getD k 0 / all
def baseB (total all : Int) (ns : List Int) : List Int := (List.range ns.length).map (shareB total all ns)
theorem baseB_len (total all : Int) (ns : List Int) : (baseB total all ns).length = ns.length := by simp [baseB]
theorem baseB_at (total all : Int) (ns : List Int) (k : Nat) (h : k < ns.length) : (baseB total all ns).getD k 0 = shareB total all ns k := by
  unfold baseB; rw [List.getD_eq_getElem?_getD, List.getElem?_map, List.getElem?_range h]; rfl
theorem sumTo_congr (g h : Nat → Int) : ∀ n, (∀ k, k < n → g k = h k) → sumTo g n = sumTo h n
  | 0, _ => rfl
  | n + 1, e => by rw [sumTo, sumTo, sumTo_congr g h n (fun k hk => e k (by omega)), e n (by omega)]
theorem sumTo_mul (a : Int) (g : Nat → Int) : ∀ n, sumTo (fun k => a * g k) n = a * sumTo g n
  | 0 => by simp [sumTo]
  | n + 1 => by rw [sumTo, sumTo, sumTo_mul a g n, Int.mul_add]
theorem sumTo_add (g h : Nat → Int) : ∀ n, sumTo (fun k => g k + h k) n = sumTo g n + sumTo h n
  | 0 => rfl
  | n + 1 => by rw [sumTo, sumTo, sumTo, sumTo_add g h n]; omega
theorem sumTo_one (g : Nat → Int) (n : Nat) (hg : ∀ k, k < n → 0 ≤ g k) : ∀ k, k < n → g k ≤ sumTo g n := by
  induction n with
  | zero => intro k hk; omega
  | succ n ih =>
    intro k hk
    have h0 : 0 ≤ sumTo g n := by
      clear ih hk
      induction n with
      | zero => simp [sumTo]
      | succ n ih => rw [sumTo]; have := ih (fun k hk => hg k (by omega)); have := hg n (by omega); omega
    rw [sumTo]
    by_cases h : k < n
    · have := ih (fun j hj => hg j (by omega)) k h; have := hg n (by omega); omega
    · obtain rfl : k = n := by omega
      omega

/-- What is left of the total when each has its share. -/
def restB (total all : Int) (ns : List Int) : Int := total - sumZ (baseB total all ns) ns.length
section
variable {total all : Int} {ns : List Int} (hall : all = sumZ ns ns.length) (ha : 1 ≤ all) (ht : 0 ≤ total) (hns : ∀ k, k < ns.length → 0 ≤ ns.getD k 0)
include ha ht hns in
theorem share_nonneg (k : Nat) (hk : k < ns.length) : 0 ≤ shareB total all ns k := Int.ediv_nonneg (Int.mul_nonneg ht (hns k hk)) (by omega)
include hall in
theorem rest_eq : all * restB total all ns = sumTo (fun k => total * ns.getD k 0 % all) ns.length := by
  have h1 : sumZ (baseB total all ns) ns.length = sumTo (shareB total all ns) ns.length := sumTo_congr _ _ _ fun k hk => baseB_at total all ns k hk
  have h2 : total * all = sumTo (fun k => all * shareB total all ns k + total * ns.getD k 0 % all) ns.length := by
    rw [hall]
    unfold sumZ
    rw [← sumTo_mul]
    refine sumTo_congr _ _ _ fun k _ => ?_
    exact (Int.mul_ediv_add_emod _ _).symm
  rw [sumTo_add, sumTo_mul] at h2
  unfold restB
  rw [h1, Int.mul_sub, Int.mul_comm all total]
  omega
include hall ha in
theorem rest_bd : 0 ≤ restB total all ns ∧ restB total all ns ≤ ns.length := by
  have h := rest_eq (total := total) hall
  have hb := sumTo_bd (fun k => total * ns.getD k 0 % all) all ns.length (fun k hk => ⟨Int.emod_nonneg _ (by omega), Int.le_of_lt (Int.emod_lt_of_pos _ (by omega))⟩)
  rw [← h] at hb
  constructor
  · exact Int.nonneg_of_mul_nonneg_right hb.1 (by omega)
  · have h2 : all * restB total all ns ≤ all * ns.length := by rw [Int.mul_comm all (ns.length : Int)]; exact hb.2
    exact Int.le_of_mul_le_mul_left h2 (by omega)
include hall ha ht hns in
theorem share_le (k : Nat) (hk : k < ns.length) : shareB total all ns k ≤ total := by
  have h0 : ns.getD k 0 ≤ all := by rw [hall]; exact sumTo_one (fun k => ns.getD k 0) ns.length hns k hk
  unfold shareB
  have h1 : total * ns.getD k 0 ≤ total * all := Int.mul_le_mul_of_nonneg_left h0 ht
  have h2 : total * ns.getD k 0 / all ≤ total * all / all := Int.ediv_le_ediv (by omega) h1
  rwa [Int.mul_ediv_cancel _ (by omega)] at h2
end
/-- One is added at each of the first n places that the order names. -/
def bumpTo (ord outs : List Int) : Nat → List Int
  | 0 => outs
  | j + 1 => (bumpTo ord outs j).set (ord.getD j 0).toNat ((bumpTo ord outs j).getD (ord.getD j 0).toNat 0 + 1)
theorem bump_len (ord outs : List Int) : ∀ n, (bumpTo ord outs n).length = outs.length
  | 0 => rfl
  | n + 1 => by rw [bumpTo, List.length_set, bump_len ord outs n]
theorem getD_set {l : List Int} {i j : Nat} {z : Int} (hi : i < l.length) : (l.set i z).getD j 0 = if j = i then z else l.getD j 0 := by
  rw [List.getD_eq_getElem?_getD, List.getElem?_set, List.getD_eq_getElem?_getD]
  by_cases h : j = i
  · subst h; simp [hi]
  · rw [if_neg (Ne.symm h), if_neg h]
theorem sumTo_bump (g : Nat → Int) (i : Nat) : ∀ n, i < n → sumTo (fun k => if k = i then g i + 1 else g k) n = sumTo g n + 1
  | n + 1, h => by
    rw [sumTo, sumTo]
    by_cases hi : i < n
    · rw [sumTo_bump g i n hi, if_neg (by omega)]; omega
    · obtain rfl : i = n := by omega
      rw [if_pos rfl, sumTo_congr (fun k => if k = i then g i + 1 else g k) g i (fun k hk => by rw [if_neg (by omega)])]; omega
section
variable {ord outs : List Int} (hord : ∀ k, k < outs.length → ∃ j : Nat, j < outs.length ∧ ord.getD k 0 = j)
include hord in
theorem bump_sum : ∀ n, n ≤ outs.length → sumZ (bumpTo ord outs n) outs.length = sumZ outs outs.length + n
  | 0, _ => by simp [bumpTo]
  | n + 1, h => by
    obtain ⟨j, hj, he⟩ := hord n (by omega)
    have ih := bump_sum n (by omega)
    have hl : j < (bumpTo ord outs n).length := by rw [bump_len]; exact hj
    have : sumZ (bumpTo ord outs (n + 1)) outs.length = sumZ (bumpTo ord outs n) outs.length + 1 := by
      unfold sumZ
      rw [← sumTo_bump (fun k => (bumpTo ord outs n).getD k 0) j outs.length hj]
      refine sumTo_congr _ _ _ fun k hk => ?_
      rw [bumpTo, he, Int.toNat_natCast, getD_set hl]
    rw [this, ih]; omega
include hord in
theorem bump_bd (hb : ∀ k, k < outs.length → 0 ≤ outs.getD k 0) : ∀ n, n ≤ outs.length → ∀ k, k < outs.length → 0 ≤ (bumpTo ord outs n).getD k 0
  | 0, _, k, hk => hb k hk
  | n + 1, h, k, hk => by
    obtain ⟨j, hj, he⟩ := hord n (by omega)
    have ih := bump_bd hb n (by omega)
    rw [bumpTo, he, Int.toNat_natCast, getD_set (by rw [bump_len]; exact hj)]
    split
    · have := ih j hj; omega
    · exact ih k hk
end
/-- What BillFor returns. -/
def billL (total : Int) (ns : List Int) : List Int :=
  bumpTo (ordL (ns.length - 1) (cfB (ns.length - 1) total (sumZ ns ns.length) ns)) (baseB total (sumZ ns ns.length) ns) (restB total (sumZ ns ns.length) ns).toNat
def billR (f : FT) (ns : List Int) (total : Int) : List Int × Int :=
  if caseErr f ns ≠ 0 then ([], caseErr f ns) else if ¬ (0 ≤ total ∧ total ≤ 1000000) then ([], 2) else if sumZ ns ns.length = 0 then ([], 11) else (billL total ns, 0)
theorem billL_len (total : Int) (ns : List Int) : (billL total ns).length = ns.length := by unfold billL; rw [bump_len, baseB_len]
theorem billL_sum {total : Int} {ns : List Int} (ha : 1 ≤ sumZ ns ns.length) (ht : 0 ≤ total) (hns : ∀ k, k < ns.length → 0 ≤ ns.getD k 0) :
    sumZ (billL total ns) ns.length = total ∧ ∀ k, k < ns.length → 0 ≤ (billL total ns).getD k 0 := by
  obtain ⟨r0, r1⟩ := rest_bd (total := total) rfl ha
  have hl := baseB_len total (sumZ ns ns.length) ns
  have hord : ∀ k, k < (baseB total (sumZ ns ns.length) ns).length → ∃ j : Nat, j < (baseB total (sumZ ns ns.length) ns).length ∧ (ordL (ns.length - 1) (cfB (ns.length - 1) total (sumZ ns ns.length) ns)).getD k 0 = j := fun k hk => by
    obtain ⟨j, hj, he⟩ := ordL_bd (ns.length - 1) (cfB (ns.length - 1) total (sumZ ns ns.length) ns) k (by omega)
    exact ⟨j, by omega, he⟩
  constructor
  · have := bump_sum hord (restB total (sumZ ns ns.length) ns).toNat (by omega)
    rw [hl] at this
    unfold billL
    rw [this]
    unfold restB at r0 ⊢
    omega
  · intro k hk
    exact bump_bd hord (fun k hk => by rw [hl] at hk; rw [baseB_at _ _ _ _ hk]; exact share_nonneg ha ht hns k hk) _ (by omega) k (by omega)
end Go.Proofs.YtfbdklminljecaaGreatDoor
namespace Go.Proofs.YtfbdklminljecaaGreatDoor
open Go.RowKit

theorem run_push2 {w : World} {base : Nat} {v : Value} {zs : List Int} {g0 : Nat} {z : Int} (hown : Own w base v zs) (hb : w.cell? ⟨g0, 0, none⟩ = some (.int .i64 z)) (hlen : zs.length ≤ 1000000) (hbase : base ≤ w.heap.size) (ty : TypeId) :
    ∃ v' w', (Builtin.append_ #[25, 25] ty #[v, .slice (some ⟨g0, 0, none⟩) 1 1]).run Tryz.prog w = .ok v' w' ∧ Own w' base v' (zs ++ [z]) ∧ w.grownBy w' v.ownBlock ∧ (∀ g, v'.ownBlock = some g → v.ownBlock = some g ∨ g = w.heap.size) := by
  obtain ⟨i0, hi, hz0, hz1, hz2⟩ := info_parts intInfo
  obtain ⟨g, cap, w', hr, h2, h3, h4, _⟩ := run_append_lies (P := Tryz.prog) w 25 ty base 3 i0 (.int .i64 0) 1 8 Tryz.underlying25 hi hz0 hz1 hz2 rfl (by decide) v zs.length _ hown ⟨g0, 0, none⟩ 1 1 [.int .i64 z] rfl
    (fun j u hj => by match j, hj with | 0, hj => simp at hj; subst hj; simpa [Addr.add] using hb) (fun u hu => by simp at hu; subst hu; rfl) (by decide) (by unfold maxLen; omega) (by omega) hbase _ rfl
  exact ⟨_, w', hr, by unfold Own; simpa using h2, h3, fun g' hg' => by
    have e : g = g' := by simpa [Value.ownBlock] using hg'
    rw [← e]; exact h4⟩
theorem list_push2 {w : World} {ops : Array Oper} {rest : List Oper} {o : Oper} {a : Act} {Q : Exit → Act → World → Prop} (hgd : o.guard = none) (s x : Operand) (ho : o.op = .call { callee := .builtin .append, args := #[s, x], argTypes := #[25, 25] })
    (base : Nat) (v : Value) (zs : List Int) (hs : a.eval s = v) (hown : Own w base v zs) (g0 : Nat) (z : Int) (hx : a.eval x = .slice (some ⟨g0, 0, none⟩) 1 1) (hb : w.cell? ⟨g0, 0, none⟩ = some (.int .i64 z)) (hlen : zs.length ≤ 1000000) (hbase : base ≤ w.heap.size)
    (h : ∀ v' w', Own w' base v' (zs ++ [z]) → w.grownBy w' v.ownBlock → (∀ g, v'.ownBlock = some g → v.ownBlock = some g ∨ g = w.heap.size) → wpList Tryz.prog ops Q rest (a.put o.dst v') w') : wpList Tryz.prog ops Q (o :: rest) a w := by
  refine wpList_plain hgd fun K hK => ?_
  obtain ⟨v', w', hr', h2, h3, h4⟩ := run_push2 hown hb hlen hbase o.type
  unfold Oper.wp execOp
  simp only [ho, resolve, invoke, builtin, Sem.run_bind, Sem.run_pure, Result.andThen_ok, List.map_toArray, List.map_cons, List.map_nil, hs, hx, hr']
  exact hK _ _ (h v' w' h2 h3 h4)
theorem Blk.new3 (w : World) (o o' o'' : Obj) (t : TypeId) (cs : Array Value) : Blk ((((w.alloc o).alloc o').alloc o'').alloc (.cells cs t)) (w.heap.size + 1 + 1 + 1) t cs := by
  have h := Blk.new (((w.alloc o).alloc o').alloc o'') t cs; rwa [World.size_alloc, World.size_alloc, World.size_alloc] at h
section
variable {a b : World} {base : Nat} {v : Value} {zs : List Int}
theorem Own.block (h : Own a base v zs) (hk : ∀ g, v.ownBlock = some g → b.heap[g]? = a.heap[g]?) : Own b base v zs := by
  refine ⟨h.1, ?_⟩
  rcases h.2 with h' | ⟨g, cap, cur, hv, hg, hh, r⟩
  · exact .inl h'
  · exact .inr ⟨g, cap, cur, hv, hg, (hk g (by rw [hv]; rfl)).trans hh, r⟩
theorem Own.blt (h : Own a base v zs) {g : Nat} (hg : v.ownBlock = some g) : base ≤ g ∧ g < a.heap.size := World.ownsRow.lt h g hg
theorem Own.but {L : List Nat} (h : Own a base v zs) (hb : But L a b) (hv : ∀ g, v.ownBlock = some g → g ∉ L) : Own b base v zs := h.block fun g hg => hb.block g (h.blt hg).2 (hv g hg)
theorem Own.other {row : Option Nat} (h : Own a base v zs) (hb : a.grownBy b row) (hv : ∀ g, v.ownBlock = some g → some g ≠ row) : Own b base v zs := h.block fun g hg => hb.block g (h.blt hg).2 (hv g hg)
theorem Own.set {g n cap : Nat} (h : Own a base (.slice (some ⟨g, 0, none⟩) n cap) zs) (i : Nat) (z : Int) : Own (a.setCell ⟨g, i, none⟩ (.int .i64 z)) base (.slice (some ⟨g, 0, none⟩) n cap) (zs.set i z) := by
  obtain ⟨_, h2⟩ := h
  refine ⟨by simp, ?_⟩
  rcases h2 with ⟨h', _⟩ | ⟨g', cap', cur, hv, hg, hh, r1, r2, r3, r4⟩
  · cases h'
  · obtain ⟨e1, _, _⟩ := Value.slice.inj hv
    cases e1
    have hb : Blk a g 3 cur := hh
    refine .inr ⟨g, cap', cur.setIfInBounds i (.int .i64 z), by rw [List.length_set]; exact hv, hg, hb.set_ i _, by rw [List.length_set]; exact r1, r2, by simpa using r3, ?_⟩
    rw [Array.toList_setIfInBounds, List.length_set, List.take_set, r4, List.map_set]
theorem Own.at (h : Own a base v zs) {g n cap : Nat} (hv : v = .slice (some ⟨g, 0, none⟩) n cap) (i : Nat) (hi : i < zs.length) : a.cell? ⟨g, i, none⟩ = some (.int .i64 (zs.getD i 0)) ∧ a.frozen? ⟨g, i, none⟩ = false ∧ n = zs.length ∧ n ≤ cap ∧ cap ≤ maxLen := by
  subst hv
  have h0 := h
  obtain ⟨h1, h2⟩ := h
  rcases h2 with ⟨h', _⟩ | ⟨g', cap', cur, hv, hg, hh, r1, r2, r3, r4⟩
  · cases h'
  · obtain ⟨e1, e2, e3⟩ := Value.slice.inj hv
    cases e1
    have hb : Blk a g 3 cur := hh
    refine ⟨hb.cell i _ ?_, hb.frozen i, e2, by omega, by rw [e3]; exact r2⟩
    have h4 : (cur.toList.take (zs.length * 1))[i]? = (zs.map (Value.int .i64))[i]? := by rw [r4]
    rw [List.getElem?_take_of_lt (by omega), Array.getElem?_toList, List.getElem?_map, List.getElem?_eq_getElem hi] at h4
    rw [h4, List.getD_eq_getElem?_getD, List.getElem?_eq_getElem hi]; rfl
end

/-- The closure's cells and all that lay, in a later world; what is made from block B on is the call's own. -/
structure BH (w : World) (b4 b5 b9 B : Nat) (total all : Int) (X : Option Addr) (n cx : Nat) (a : World) : Prop where
  ext : Ext w a
  c4 : a.cell? ⟨b4, 0, none⟩ = some (.slice X n cx)
  c5 : a.cell? ⟨b5, 0, none⟩ = some (.int .i64 total)
  c9 : a.cell? ⟨b9, 0, none⟩ = some (.int .i64 all)
  lt4 : b4 < B
  lt5 : b5 < B
  lt9 : b9 < B
  base : w.heap.size ≤ B
  here : B ≤ a.heap.size
section
variable {w : World} {b4 b5 b9 B : Nat} {total all : Int} {X : Option Addr} {n cx : Nat} {a b : World}
theorem BH.keep (h : BH w b4 b5 b9 B total all X n cx a) (hx : Ext w b) (hk : ∀ k, k < B → b.heap[k]? = a.heap[k]?) (hs : a.heap.size ≤ b.heap.size) : BH w b4 b5 b9 B total all X n cx b :=
  ⟨hx, (World.cell?_of_block (a := ⟨b4, 0, none⟩) (hk _ h.lt4)).trans h.c4, (World.cell?_of_block (a := ⟨b5, 0, none⟩) (hk _ h.lt5)).trans h.c5, (World.cell?_of_block (a := ⟨b9, 0, none⟩) (hk _ h.lt9)).trans h.c9, h.lt4, h.lt5, h.lt9, h.base, Nat.le_trans h.here hs⟩
theorem BH.next (h : BH w b4 b5 b9 B total all X n cx a) (hx : Ext a b) : BH w b4 b5 b9 B total all X n cx b := h.keep (h.ext.trans hx) (fun _ hk => hx.block (Nat.lt_of_lt_of_le hk h.here)) hx.size
theorem BH.grown {row : Option Nat} (h : BH w b4 b5 b9 B total all X n cx a) (hg : a.grownBy b row) (hr : ∀ k, row = some k → B ≤ k) : BH w b4 b5 b9 B total all X n cx b :=
  h.keep (h.ext.grown hg fun k hk => Nat.le_trans h.base (hr k hk)) (fun k hk => hg.block k (Nat.lt_of_lt_of_le hk h.here) (fun e => by have := hr k e.symm; omega)) hg.size
theorem BH.but {g : Nat} (h : BH w b4 b5 b9 B total all X n cx a) (hb : But [g] a b) (hg : B ≤ g) : BH w b4 b5 b9 B total all X n cx b :=
  h.keep (But.ext h.ext hb fun _ hk => by rw [List.mem_singleton.1 hk]; exact Nat.le_trans h.base hg) (fun k hk => hb.block k (Nat.lt_of_lt_of_le hk h.here) (fun e => by have := List.mem_singleton.1 e; omega)) hb.size
end
/-- Two rows of the call's own, apart. -/
structure Two (w : World) (b4 b5 b9 B : Nat) (total all : Int) (X : Option Addr) (n cx : Nat) (a : World) (v u : Value) (l k : List Int) : Prop where
  bh : BH w b4 b5 b9 B total all X n cx a
  one : Own a B v l
  two : Own a B u k
  far : ∀ g, v.ownBlock = some g → u.ownBlock ≠ some g
section
variable {w : World} {b4 b5 b9 B : Nat} {total all : Int} {X : Option Addr} {n cx : Nat} {a W W' : World} {v u t : Value} {l k m : List Int}
theorem Two.push1 (h : Two w b4 b5 b9 B total all X n cx a v u l k) (hx : Ext a W) (hg : W.grownBy W' v.ownBlock) (ho : Own W' B t m) (hn : ∀ g, t.ownBlock = some g → v.ownBlock = some g ∨ g = W.heap.size) : Two w b4 b5 b9 B total all X n cx W' t u m k :=
  ⟨(h.bh.next hx).grown hg fun g hg' => (h.one.blt hg').1, ho, (h.two.ext hx).other hg fun g hu hv => h.far g hv.symm hu, fun g ht hu => by
    rcases hn g ht with h1 | h1
    · exact h.far g h1 hu
    · have h2 := (h.two.blt hu).2; have := hx.size; omega⟩
theorem Two.push2 (h : Two w b4 b5 b9 B total all X n cx a v u l k) (hx : Ext a W) (hg : W.grownBy W' u.ownBlock) (ho : Own W' B t m) (hn : ∀ g, t.ownBlock = some g → u.ownBlock = some g ∨ g = W.heap.size) : Two w b4 b5 b9 B total all X n cx W' v t l m :=
  ⟨(h.bh.next hx).grown hg fun g hg' => (h.two.blt hg').1, (h.one.ext hx).other hg fun g hv hu => h.far g hv hu.symm, ho, fun g hv ht => by
    rcases hn g ht with h1 | h1
    · exact h.far g hv h1
    · have h2 := (h.one.blt hv).2; have := hx.size; omega⟩
end
/-- The bill's second loop: the row of shares, the order, apart. -/
structure Up (w : World) (b4 b5 b9 B : Nat) (total all : Int) (X : Option Addr) (n cx : Nat) (a : World) (h g : Nat) (capo : Nat) (l ord : List Int) : Prop where
  bh : BH w b4 b5 b9 B total all X n cx a
  own : Own a B (.slice (some ⟨h, 0, none⟩) n capo) l
  ri : RI a (some ⟨g, 0, none⟩) n ord
  far : h ≠ g
section
variable {w : World} {b4 b5 b9 B : Nat} {total all : Int} {X : Option Addr} {n cx : Nat} {a b : World} {h g capo : Nat} {l ord : List Int}
theorem Up.next (H : Up w b4 b5 b9 B total all X n cx a h g capo l ord) (hx : Ext a b) : Up w b4 b5 b9 B total all X n cx b h g capo l ord := ⟨H.bh.next hx, H.own.ext hx, H.ri.ext hx, H.far⟩
theorem Up.set (H : Up w b4 b5 b9 B total all X n cx a h g capo l ord) (i : Nat) (z : Int) : Up w b4 b5 b9 B total all X n cx (a.setCell ⟨h, i, none⟩ (.int .i64 z)) h g capo (l.set i z) ord :=
  ⟨H.bh.but (But.setCell a ⟨h, i, none⟩ _) (H.own.blt rfl).1, H.own.set i z, H.ri.block (But.setCell a ⟨h, i, none⟩ _).size fun p hp hl => (But.setCell a ⟨h, i, none⟩ _).block p.block hl (fun e => by
    have e1 : p.block = h := List.mem_singleton.1 e
    have e2 : p.block = g := by cases hp; rfl
    exact H.far (e1.symm.trans e2)), H.far⟩
end
theorem Two.sorted {w : World} {b4 b5 b9 B : Nat} {total all : Int} {X : Option Addr} {n cx : Nat} {a b : World} {h g capo cap : Nat} {l k ord : List Int}
    (H : Two w b4 b5 b9 B total all X n cx a (.slice (some ⟨h, 0, none⟩) n capo) (.slice (some ⟨g, 0, none⟩) n cap) l k) (hb : But [g] a b) (hr : RI b (some ⟨g, 0, none⟩) n ord) : Up w b4 b5 b9 B total all X n cx b h g capo l ord := by
  have hne : h ≠ g := fun e => H.far h rfl (by rw [e]; rfl)
  exact ⟨H.bh.but hb (H.two.blt rfl).1, H.one.but hb fun x hx hm => hne (by
    have e1 : h = x := by simpa [Value.ownBlock] using hx
    rw [e1, List.mem_singleton.1 hm]), hr, hne⟩
end Go.Proofs.YtfbdklminljecaaGreatDoor
namespace Go.Proofs.YtfbdklminljecaaGreatDoor
open Go.RowKit

/-- The fount's box, and all that lay, lie in wr. -/
structure Box (w : World) (name : ByteArray) (body : Int) (A : Option Addr) (n c : Nat) (wr : World) : Prop where
  ext : Ext w wr
  blk : Blk wr w.heap.size 24 #[.string name, .int .i64 body, .slice A n c]
section
variable {w a b : World} {name : ByteArray} {body : Int} {A : Option Addr} {n c : Nat}
theorem Box.next (h : Box w name body A n c a) (hx : Ext a b) : Box w name body A n c b := ⟨h.ext.trans hx, h.blk.ext hx⟩
theorem Box.start (w : World) (h : Ext (w.alloc (.cells #[.string name, .int .i64 body, .slice A n c] 24)) b) : Box w name body A n c b := ⟨h.of_alloc, (Blk.new _ _ _).ext h⟩
end
theorem few_ten {f : FT} {ns : List Int} (hfw : fewB f = true) (hc : caseErr f ns = 0) : ns.length ≤ 10 := by
  obtain ⟨_, h1, _⟩ := fewB_true.1 hfw
  obtain ⟨h2, h3⟩ := case_zero hc
  obtain ⟨_, _, h4, _⟩ := chk_zero h2
  obtain ⟨h5, _⟩ := counts_zero h3
  omega
/-- Some of the first n is not 0. -/
def anyTo (l : List Int) : Nat → Bool
  | 0 => false
  | n + 1 => anyTo l n || decide (l.getD n 0 ≠ 0)
theorem anyTo_false {l : List Int} : ∀ n, (∀ k, k < n → l.getD k 0 = 0) → anyTo l n = false
  | 0, _ => rfl
  | n + 1, h => by rw [anyTo, anyTo_false n (fun k hk => h k (by omega)), h n (by omega)]; simp
theorem anyTo_true {l : List Int} {k : Nat} (hk : l.getD k 0 ≠ 0) : ∀ n, k < n → anyTo l n = true
  | n + 1, h => by
    rw [anyTo]
    by_cases e : k < n
    · rw [anyTo_true hk n e]; rfl
    · obtain rfl : k = n := by omega
      rw [decide_eq_true hk, Bool.or_true]
theorem getD_mem0 {zs : List Int} (h : ∀ z ∈ zs, I64 z) (k : Nat) (hk : k < zs.length) : I64 (zs.getD k 0) := by
  rw [List.getD_eq_getElem?_getD, List.getElem?_eq_getElem hk]; exact h _ (List.getElem_mem hk)
end Go.Proofs.YtfbdklminljecaaGreatDoor
namespace Go.Proofs.YtfbdklminljecaaGreatDoor
open Go.RowKit

/-- A number that is no sort's of n ones. -/
def badIdx (n : Nat) (z : Int) : Bool := !(decide (0 ≤ z) && decide (z ≤ (n : Int) - 1))
theorem badIdx_false {n : Nat} {z : Int} : badIdx n z = false ↔ 0 ≤ z ∧ z < n := by
  unfold badIdx; rw [Bool.not_eq_false', Bool.and_eq_true, decide_eq_true_eq, decide_eq_true_eq]; omega
def listErr (n : Nat) (zs : List Int) : Int := if 10000 < zs.length then 8 else if (idxOf (badIdx n) zs zs.length).isSome = true then 6 else 0
def listChk (f : FT) (zs : List Int) : Int := if (chk f).2 ≠ 0 then (chk f).2 else listErr f.sorts.length zs
theorem listErr_zero {n : Nat} {zs : List Int} (h : listErr n zs = 0) : zs.length ≤ 10000 ∧ ∀ k, k < zs.length → 0 ≤ zs.getD k 0 ∧ zs.getD k 0 < n := by
  unfold listErr at h
  by_cases h1 : 10000 < zs.length
  · rw [if_pos h1] at h; exact absurd h (by decide)
  rw [if_neg h1] at h
  by_cases h2 : (idxOf (badIdx n) zs zs.length).isSome = true
  · rw [if_pos h2] at h; exact absurd h (by decide)
  refine ⟨by omega, fun k hk => badIdx_false.1 ?_⟩
  rw [Bool.eq_false_iff]
  intro hb
  exact h2 ((idxOf_isSome _ _ _).2 ⟨k, hk, hb⟩)
theorem listErr_of {n : Nat} {zs : List Int} (h1 : zs.length ≤ 10000) (h2 : ∀ k, k < zs.length → 0 ≤ zs.getD k 0 ∧ zs.getD k 0 < n) : listErr n zs = 0 := by
  unfold listErr
  rw [if_neg (by omega), if_neg]
  intro hs
  obtain ⟨k, hk, hb⟩ := (idxOf_isSome _ _ _).1 hs
  rw [badIdx_false.2 (h2 k hk)] at hb; cases hb
theorem listChk_zero {f : FT} {zs : List Int} (h : listChk f zs = 0) : (chk f).2 = 0 ∧ listErr f.sorts.length zs = 0 := by
  unfold listChk at h
  by_cases h1 : (chk f).2 ≠ 0
  · rw [if_pos h1] at h; exact absurd h h1
  · rw [if_neg h1] at h; exact ⟨by simpa using h1, h⟩
theorem sort_ok {f : FT} (h : (chk f).2 = 0) {k : Nat} (hk : k < f.sorts.length) : (1 ≤ (f.sorts.getD k TS.zero).kind ∧ (f.sorts.getD k TS.zero).kind ≤ 3) ∧ (1 ≤ (f.sorts.getD k TS.zero).width ∧ (f.sorts.getD k TS.zero).width ≤ 100000) ∧
    nameB (f.sorts.getD k TS.zero).name = true ∧ hasName f.sorts k (f.sorts.getD k TS.zero).name = false ∧ textErr f.sorts k (f.sorts.getD k TS.zero).kind (f.sorts.getD k TS.zero).text = 0 := by
  obtain ⟨_, _, _, hc⟩ := chk_zero h
  obtain ⟨h1, h2, h3, h4, h5⟩ := sort_zero (hc k hk)
  exact ⟨h3, h4, h1, h2, h5⟩
theorem badIdx_pred (b : Nat) (A : Option Addr) (n c : Nat) (w : World) (hn : n ≤ 120) (hb : b < w.heap.size) (hc : w.cell? ⟨b, 2, none⟩ = some (.slice A n c)) :
    PredI 95 #[.pointer (some ⟨b, 0, none⟩)] (badIdx n) w := fun W z hW => by
  show Calls Tryz.prog 95 #[.int .i64 z, .pointer (some ⟨b, 0, none⟩)] W _
  have c2 : W.cell? ⟨b, 2, none⟩ = some (.slice A n c) := (hW.cell (p := ⟨b, 2, none⟩) hb).trans hc
  have hbW : b < W.heap.size := Nat.lt_of_lt_of_le hb hW.size
  clear hc hW
  by_cases hz : 0 ≤ z ∧ z ≤ (n : Int) - 1
  · have HB : Hid (badIdx n z = false) := Lib.hid (badIdx_false.2 (by omega))
    rw [HB.out]
    go_enter Tryz.func95, Tryz.ntmps95
    go_wp2_with (first | (go_at_call 66; refine Calls.mono (within_yes _ _ _ _ ?_) ?_; (omega); rintro e w1 ⟨rfl, rfl⟩) | (go_at_call 66; refine Calls.mono (within_no _ _ _ _ ?_) ?_; (omega); rintro e w1 ⟨rfl, rfl⟩))
    go_ret
    exact ⟨rfl, rfl⟩
  · have HB : Hid (badIdx n z = true) := Lib.hid (by rw [← Bool.not_eq_false, badIdx_false]; omega)
    rw [HB.out]
    go_enter Tryz.func95, Tryz.ntmps95
    go_wp2_with (first | (go_at_call 66; refine Calls.mono (within_yes _ _ _ _ ?_) ?_; (omega); rintro e w1 ⟨rfl, rfl⟩) | (go_at_call 66; refine Calls.mono (within_no _ _ _ _ ?_) ?_; (omega); rintro e w1 ⟨rfl, rfl⟩))
    go_ret
    exact ⟨rfl, rfl⟩
set_option maxHeartbeats 1000000 in
theorem checkList_any (f : FT) (A : Option Addr) (c : Nat) (B : Option Addr) (d : Nat) (zs : List Int) (w : World) (hf : FR w A c f) (h : RI w B zs.length zs) :
    Calls Tryz.prog 81 #[f.val A c, .slice B zs.length d] w (Ret (.int .i64 (listChk f zs)) w) := by
  have cR := fun W h => checkFount_any f A c W h
  unfold ChkV at cR
  have HF := Lib.hid hf; have hbig := h.big; have HR := Lib.hid h; clear hf h
  by_cases hz : (chk f).2 = 0
  case neg =>
    have HE : Hid (listChk f zs = (chk f).2) := Lib.hid (by unfold listChk; rw [if_pos hz])
    generalize listChk f zs = r at *
    generalize chk f = p at *
    obtain ⟨n, z⟩ := p
    simp only at cR hz HE
    have e0 : (z != 0) = true := by simpa using hz
    obtain ⟨name, body, ss⟩ := f
    simp only [FT.val] at *
    have CR := Lib.hid cR; clear cR hz
    go_enter Tryz.func81, Tryz.ntmps81
    go_wp2_with (first | (go_at_call 43; refine Calls.mono (CR.out _ ?_) ?_; (exact HF.out.ext (by repeat (first | exact Ext.refl _ | assumption | refine Ext.alloc ?_ _ | refine Ext.drew ?_ | refine Ext.drewN ?_ _ | (refine Ext.setCell ?_ (by simp <;> omega) _) | refine Ext.trans ?_ (by assumption)))); rintro e w1 ⟨rfl, hb⟩))
    go_ret
    exact Ret.mk' (by rw [HE.out]; rfl) (by repeat (first | exact Ext.refl _ | assumption | refine Ext.alloc ?_ _ | refine Ext.drew ?_ | refine Ext.drewN ?_ _ | (refine Ext.setCell ?_ (by simp <;> omega) _) | refine Ext.trans ?_ (by assumption)))
  case pos =>
  have HE : Hid (listChk f zs = listErr f.sorts.length zs) := Lib.hid (by unfold listChk; rw [if_neg (by simpa using hz)])
  have hn := (chk_zero hz).2.2.1
  have HL : Hid (listErr f.sorts.length zs = if 10000 < zs.length then 8 else if (idxOf (badIdx f.sorts.length) zs zs.length).isSome = true then 6 else 0) := Lib.hid rfl
  rw [hz] at cR
  generalize listChk f zs = r at *
  generalize (chk f).1 = n1 at *
  clear hz
  have cC := fun b A c W hb hc h => containsFunc_any 95 #[.pointer (some ⟨b, 0, none⟩)] (fun _ _ => by kernel_rfl) (badIdx f.sorts.length) B zs.length d zs W h (badIdx_pred b A f.sorts.length c W hn hb hc)
  obtain ⟨name, body, ss⟩ := f
  simp only [FT.val] at *
  have CR := Lib.hid cR; clear cR
  by_cases hl : zs.length ≤ 10000
  case neg =>
    have i1 : (10000 : Int) < (zs.length : Int) := by omega
    have HL' : Hid (listErr ss.length zs = 8) := Lib.hid (by rw [HL.out, if_pos (by omega)])
    clear HL cC hl
    go_enter Tryz.func81, Tryz.ntmps81
    go_wp2_with (first | (go_at_call 43; refine Calls.mono (CR.out _ ?_) ?_; (exact HF.out.ext (by repeat (first | exact Ext.refl _ | assumption | refine Ext.alloc ?_ _ | refine Ext.drew ?_ | refine Ext.drewN ?_ _ | (refine Ext.setCell ?_ (by simp <;> omega) _) | refine Ext.trans ?_ (by assumption)))); rintro e w1 ⟨rfl, hb⟩))
    go_ret
    exact Ret.mk' (by rw [HE.out, HL'.out]; rfl) (by repeat (first | exact Ext.refl _ | assumption | refine Ext.alloc ?_ _ | refine Ext.drew ?_ | refine Ext.drewN ?_ _ | (refine Ext.setCell ?_ (by simp <;> omega) _) | refine Ext.trans ?_ (by assumption)))
  case pos =>
  have i1 : ¬ (10000 : Int) < (zs.length : Int) := by omega
  have HL' : Hid (listErr ss.length zs = if (idxOf (badIdx ss.length) zs zs.length).isSome = true then 6 else 0) := Lib.hid (by rw [HL.out, if_neg (by omega)])
  clear HL
  cases hs : (idxOf (badIdx ss.length) zs zs.length).isSome
  all_goals
    rw [hs] at HL'
    simp only [hs] at cC
    have CC := Lib.hid cC; clear cC
    clear hs
    go_enter Tryz.func81, Tryz.ntmps81
    go_wp2_with (first | (go_at_call 43; refine Calls.mono (CR.out _ ?_) ?_; (exact HF.out.ext (by repeat (first | exact Ext.refl _ | assumption | refine Ext.alloc ?_ _ | refine Ext.drew ?_ | refine Ext.drewN ?_ _ | (refine Ext.setCell ?_ (by simp <;> omega) _) | refine Ext.trans ?_ (by assumption)))); rintro e w1 ⟨rfl, hb⟩; have HB1 := Lib.hid ((Blk.new _ _ _).ext hb)) | (go_at_call 64; refine Calls.mono (CC.out w.heap.size A c _ ?_ ?_ ?_) ?_; (exact HB1.out.c3.2.2.2); (exact HB1.out.c3.2.2.1); (exact HR.out.ext (Ext.trans (by repeat (first | exact Ext.refl _ | assumption | refine Ext.alloc ?_ _ | refine Ext.drew ?_ | refine Ext.drewN ?_ _ | (refine Ext.setCell ?_ (by simp <;> omega) _) | refine Ext.trans ?_ (by assumption))) hb)); rintro e w2 ⟨rfl, rfl⟩))
    go_ret
    exact Ret.mk' (by rw [HE.out, HL'.out]; rfl) (by repeat (first | exact Ext.refl _ | assumption | refine Ext.alloc ?_ _ | refine Ext.drew ?_ | refine Ext.drewN ?_ _ | (refine Ext.setCell ?_ (by simp <;> omega) _) | refine Ext.trans ?_ (by assumption)))

/-- The width of the first n of a list. -/
def widthTo (ss : List TS) (zs : List Int) (n : Nat) : Int := sumTo (fun k => (ss.getD (zs.getD k 0).toNat TS.zero).width) n
def widthR (f : FT) (zs : List Int) : Int × Int := if listChk f zs ≠ 0 then (0, listChk f zs) else (widthTo f.sorts zs zs.length, 0)
def widthV (f : FT) (zs : List Int) : Value := .tuple #[.int .i64 (widthR f zs).1, .int .i64 (widthR f zs).2]
end Go.Proofs.YtfbdklminljecaaGreatDoor
namespace Go.Proofs.YtfbdklminljecaaGreatDoor
open Go.RowKit

def sortAt (ss : List TS) (zs : List Int) (k : Nat) : TS := ss.getD (zs.getD k 0).toNat TS.zero
def blankAt (ss : List TS) (zs : List Int) : Nat → Bool
  | 0 => false
  | k + 1 => decide ((sortAt ss zs k).kind = 3)
def textTo (ss : List TS) (zs : List Int) : Nat → List UInt8
  | 0 => []
  | k + 1 => textTo ss zs k ++ (if (sortAt ss zs k).kind = 3 ∧ blankAt ss zs k = false then [32] else []) ++ (sortAt ss zs k).text.data.toList
def textR (f : FT) (zs : List Int) : List UInt8 × Int := if listChk f zs ≠ 0 then ([], listChk f zs) else (textTo f.sorts zs zs.length, 0)
def textV (f : FT) (zs : List Int) : Value := .tuple #[.string ⟨(textR f zs).1.toArray⟩, .int .i64 (textR f zs).2]
theorem text_size {f : FT} (h : (chk f).2 = 0) {k : Nat} (hk : k < f.sorts.length) : (f.sorts.getD k TS.zero).text.size ≤ 4 := by
  have h5 := (sort_ok h hk).2.2.2.2
  generalize f.sorts.getD k TS.zero = x at *
  unfold textErr at h5
  by_cases hp : printsB x.kind x.text = false
  · rw [if_pos hp] at h5; exact absurd h5 (by decide)
  · have hp' : printsB x.kind x.text = true := by simpa using hp
    unfold printsB at hp'
    simp only [Bool.and_eq_true, decide_eq_true_eq] at hp'
    have h2 := hp'.1.2
    unfold printHi at h2
    split at h2
    · omega
    · split at h2 <;> omega
theorem textTo_bd {ss : List TS} {zs : List Int} : ∀ n, (∀ k, k < n → (sortAt ss zs k).text.size ≤ 4) → (textTo ss zs n).length ≤ 5 * n
  | 0, _ => by simp [textTo]
  | n + 1, h => by
    have ih := textTo_bd n (fun k hk => h k (by omega))
    have h1 := h n (by omega)
    rw [textTo, List.length_append, List.length_append, Array.length_toList]
    have h2 : (sortAt ss zs n).text.data.size = (sortAt ss zs n).text.size := rfl
    split <;> simp <;> omega
end Go.Proofs.YtfbdklminljecaaGreatDoor
namespace Go.Proofs.YtfbdklminljecaaGreatDoor
open Go.RowKit

/-- How often each of n sorts stands among the first of a list. -/
def needTo (n : Nat) (zs : List Int) : Nat → List Int
  | 0 => List.replicate n 0
  | k + 1 => (needTo n zs k).set (zs.getD k 0).toNat ((needTo n zs k).getD (zs.getD k 0).toNat 0 + 1)
theorem needTo_len (n : Nat) (zs : List Int) : ∀ k, (needTo n zs k).length = n
  | 0 => by simp [needTo]
  | k + 1 => by rw [needTo, List.length_set, needTo_len n zs k]
theorem needTo_bd (n : Nat) (zs : List Int) : ∀ k j, j < n → 0 ≤ (needTo n zs k).getD j 0 ∧ (needTo n zs k).getD j 0 ≤ k
  | 0, j, hj => by
    rw [needTo, List.getD_eq_getElem?_getD, List.getElem?_replicate, if_pos hj]; simp
  | k + 1, j, hj => by
    have ih := needTo_bd n zs k j hj
    rw [needTo]
    by_cases h : (zs.getD k 0).toNat < n
    · rw [getD_set (by rw [needTo_len]; exact h)]
      split
      · have := needTo_bd n zs k _ h; omega
      · omega
    · rw [List.set_eq_of_length_le (by rw [needTo_len]; omega)]; omega
def needR (f : FT) (zs : List Int) : List Int × Int := if listChk f zs ≠ 0 then ([], listChk f zs) else (needTo f.sorts.length zs zs.length, 0)
theorem needSL {w w0 : World} {base g n : Nat} {zs : List Int} (h : Own w base (.slice (some ⟨g, 0, none⟩) n n) zs) (hl : zs.length = n) (hn : n ≤ 1000000) (hb : w0.heap.size ≤ base) : SL w w0.heap.size (some ⟨g, 0, none⟩) n zs := by
  subst hl
  obtain ⟨A, c', he, hc, hr⟩ := h.form (by omega)
  obtain ⟨e1, _, e3⟩ := Value.slice.inj he
  subst e1 e3
  exact SL.mono ⟨h, hr, hc⟩ hb
set_option maxRecDepth 100000 in
set_option maxHeartbeats 4000000 in
theorem needOf_any (f : FT) (A : Option Addr) (c : Nat) (B : Option Addr) (d : Nat) (zs : List Int) (w : World) (hf : FR w A c f) (h : RI w B zs.length zs) :
    Calls Tryz.prog 63 #[f.val A c, .slice B zs.length d] w (RetSE (needR f zs).1 (needR f zs).2 w) := by
  have cL := fun W h1 h2 => checkList_any f A c B d zs W h1 h2
  have HF := Lib.hid hf; have HX := Lib.hid h; clear hf h
  by_cases hz : listChk f zs = 0
  case neg =>
    have HE : Hid (needR f zs = ([], listChk f zs)) := Lib.hid (by unfold needR; rw [if_pos hz])
    generalize needR f zs = r at *
    generalize listChk f zs = z at *
    have e0 : (z != 0) = true := by simpa using hz
    obtain ⟨name, body, ss⟩ := f
    simp only [FT.val] at *
    have CL := Lib.hid cL; clear cL hz
    go_enter Tryz.func63, Tryz.ntmps63
    go_wp2_with (first | (go_at_call 81; refine Calls.mono (CL.out _ ?_ ?_) ?_; (exact HF.out.ext (by repeat (first | exact Ext.refl _ | assumption | refine Ext.alloc ?_ _ | refine Ext.drew ?_ | refine Ext.drewN ?_ _ | (refine Ext.setCell ?_ (by simp <;> omega) _) | refine Ext.trans ?_ (by assumption)))); (exact HX.out.ext (by repeat (first | exact Ext.refl _ | assumption | refine Ext.alloc ?_ _ | refine Ext.drew ?_ | refine Ext.drewN ?_ _ | (refine Ext.setCell ?_ (by simp <;> omega) _) | refine Ext.trans ?_ (by assumption)))); rintro e w1 ⟨rfl, hb⟩))
    go_ret2
    rw [HE.out]
    exact ⟨none, 0, rfl, SL.nil _ _, (by repeat (first | exact Ext.refl _ | assumption | refine Ext.alloc ?_ _ | refine Ext.drew ?_ | refine Ext.drewN ?_ _ | (refine Ext.setCell ?_ (by simp <;> omega) _) | refine Ext.trans ?_ (by assumption)))⟩
  case pos =>
  obtain ⟨hck, hle⟩ := listChk_zero hz
  obtain ⟨hl, hb⟩ := listErr_zero hle
  have HIX := Lib.hid hb
  have HE : Hid (needR f zs = (needTo f.sorts.length zs zs.length, 0)) := Lib.hid (by unfold needR; rw [if_neg (by simpa using hz)])
  rw [hz] at cL
  have hss := (chk_zero hck).2.2.1
  clear hz hck hle hb
  generalize needR f zs = r at *
  obtain ⟨name, body, ss⟩ := f
  simp only [FT.val] at *
  have CL := Lib.hid cL; clear cL
  go_enter Tryz.func63, Tryz.ntmps63
  go_wp2_with (first | (go_at_call 81; refine Calls.mono (CL.out _ ?_ ?_) ?_; (exact HF.out.ext (by repeat (first | exact Ext.refl _ | assumption | refine Ext.alloc ?_ _ | refine Ext.drew ?_ | refine Ext.drewN ?_ _ | (refine Ext.setCell ?_ (by simp <;> omega) _) | refine Ext.trans ?_ (by assumption)))); (exact HX.out.ext (by repeat (first | exact Ext.refl _ | assumption | refine Ext.alloc ?_ _ | refine Ext.drew ?_ | refine Ext.drewN ?_ _ | (refine Ext.setCell ?_ (by simp <;> omega) _) | refine Ext.trans ?_ (by assumption)))); rintro e w1 ⟨rfl, hb⟩; have HB1 := Lib.hid ((Blk.new _ _ _).ext hb); have HE1 := Lib.hid (show Ext w w1 from Ext.trans (by repeat (first | exact Ext.refl _ | assumption | refine Ext.alloc ?_ _ | refine Ext.drew ?_ | refine Ext.drewN ?_ _ | (refine Ext.setCell ?_ (by simp <;> omega) _) | refine Ext.trans ?_ (by assumption))) hb); obtain ⟨k0, k1, k2, kl⟩ := HB1.out.c3; clear hb) | (at_make; refine list_makeI rfl (.tmp 18) (.tmp 18) rfl ss.length rfl rfl (by omega) ?_; intro W2 hS hx hlt; have HS2 := Lib.hid hS.own; have HE2 := Lib.hid (HE1.out.trans (Ext.trans (by repeat (first | exact Ext.refl _ | assumption | refine Ext.alloc ?_ _ | refine Ext.drew ?_ | refine Ext.drewN ?_ _ | (refine Ext.setCell ?_ (by simp <;> omega) _) | refine Ext.trans ?_ (by assumption))) hx)); clear hS hx))
  have hgb : w.heap.size ≤ w1.heap.size := HE1.out.size
  go_loopw [9, 22] (fun _ i wr => ∃ k : Nat, k ≤ zs.length ∧ i = .int .i64 k ∧ Own wr w1.heap.size (.slice (some ⟨w1.heap.size, 0, none⟩) ss.length ss.length) (needTo ss.length zs k) ∧ Ext w wr) (fun _ i _ => zs.length - (intOf i).toNat)
  case atStart => exact ⟨0, Nat.zero_le _, rfl, by have := HS2.out; rw [List.length_replicate] at this; exact this, HE2.out⟩
  case round =>
    obtain ⟨k, hk, rfl, hown, hxr⟩ := hrel
    have HO := Lib.hid hown; have HXR := Lib.hid hxr
    by_cases hlt : k < zs.length
    case pos =>
      obtain ⟨i1, i2⟩ := HIX.out k hlt
      obtain ⟨j, hj⟩ : ∃ j : Nat, zs.getD k 0 = (j : Int) := ⟨(zs.getD k 0).toNat, by omega⟩
      obtain ⟨b, off, rfl, hbw, hcell⟩ := (HX.out.ext hxr).2.2 (by omega)
      have c1 := hcell k hlt
      have HN : Hid (needTo ss.length zs (k + 1) = (needTo ss.length zs k).set j ((needTo ss.length zs k).getD j 0 + 1)) := Lib.hid (by rw [needTo, hj, Int.toNat_natCast])
      rw [hj] at c1 i1 i2
      have hjn : j < ss.length := by omega
      have hlen : j < (needTo ss.length zs k).length := by rw [needTo_len]; exact hjn
      have c2 := (hown.at rfl j hlen).1
      have c3 := (hown.at rfl j hlen).2.1
      have hnb := needTo_bd ss.length zs k j hjn
      have hki : (k : Int) < (zs.length : Int) := by omega
      have hji : (j : Int) < (ss.length : Int) := by omega
      clear hcell hj hlen hown hxr
      generalize (needTo ss.length zs k).getD j 0 = y at *
      obtain ⟨y1, y2⟩ := hnb
      go_wp2
      go_roundw
      case rel => exact ⟨k + 1, by omega, by go_num, by rw [HN.out]; exact HO.out.set j (y + 1), HXR.out.setCell hgb _⟩
      case measure => simp [intOf]; omega
    case neg =>
      obtain rfl : k = zs.length := by omega
      clear hown hxr
      go_wp2
      go_ret2
      rw [HE.out]
      exact ⟨some ⟨w1.heap.size, 0, none⟩, ss.length, by simp only [needTo_len]; rfl, needSL HO.out (needTo_len _ _ _) (by omega) hgb, HXR.out⟩

set_option maxRecDepth 100000 in
set_option maxHeartbeats 2000000 in
theorem rListErr_any (f : FT) (A : Option Addr) (c : Nat) (B : Option Addr) (d : Nat) (zs : List Int) (w : World) (hf : FR w A c f) (h : RI w B zs.length zs) :
    Calls Tryz.prog 7 #[f.val A c, .slice B zs.length d] w (Ret (.int .i64 (listErr f.sorts.length zs)) w) := by
  have hbig := h.big
  have hsb := hf.rt.big
  have HX := Lib.hid h; clear h hf
  obtain ⟨name, body, ss⟩ := f
  simp only [FT.val] at *
  have HL : Hid (listErr ss.length zs = if 10000 < zs.length then 8 else if (idxOf (badIdx ss.length) zs zs.length).isSome = true then 6 else 0) := Lib.hid rfl
  generalize listErr ss.length zs = r at *
  by_cases hl : zs.length ≤ 10000
  case neg =>
    have i1 : (10000 : Int) < (zs.length : Int) := by omega
    have HR : Hid (r = 8) := Lib.hid (by rw [HL.out, if_pos (by omega)])
    clear HL hl
    go_enter Tryz.func7, Tryz.ntmps7
    go_wp2
    go_ret
    exact Ret.mk' (by rw [HR.out]; rfl) (by repeat (first | exact Ext.refl _ | assumption | refine Ext.alloc ?_ _ | refine Ext.drew ?_ | refine Ext.drewN ?_ _ | (refine Ext.setCell ?_ (by simp <;> omega) _) | refine Ext.trans ?_ (by assumption)))
  case pos =>
  have i1 : ¬ (10000 : Int) < (zs.length : Int) := by omega
  have HR1 : Hid (∀ k, k < zs.length → badIdx ss.length (zs.getD k 0) = true → r = 6) := Lib.hid fun k hk hb => by
    rw [HL.out, if_neg (by omega), if_pos ((idxOf_isSome _ _ _).2 ⟨k, hk, hb⟩)]
  have HR2 : Hid ((∀ k, k < zs.length → badIdx ss.length (zs.getD k 0) = false) → r = 0) := Lib.hid fun hg => by
    rw [HL.out, if_neg (by omega), if_neg]
    intro hs
    obtain ⟨k, hk, hb⟩ := (idxOf_isSome _ _ _).1 hs
    rw [hg k hk] at hb; cases hb
  clear HL
  go_enter Tryz.func7, Tryz.ntmps7
  go_wp2
  go_loopw [5] (fun i wr => ∃ k : Nat, k ≤ zs.length ∧ i = .int .i64 k ∧ Hid (∀ j, j < k → badIdx ss.length (zs.getD j 0) = false) ∧ Ext (w.alloc (.cells #[.string name, .int .i64 body, .slice A ss.length c] 24)) wr) (fun i _ => zs.length - (intOf i).toNat)
  case atStart => exact ⟨0, Nat.zero_le _, rfl, Lib.hid (fun j hj => absurd hj (by omega)), Ext.refl _⟩
  case round =>
    obtain ⟨k, hk, rfl, hall, hx⟩ := hrel
    have HXR := Lib.hid hx
    have e2 := boxed hx 2 _ rfl
    have hsz := hx.lt_of_alloc
    by_cases hlt : k < zs.length
    · obtain ⟨b, off, rfl, hbw, hcell⟩ := (HX.out.ext hx.of_alloc).2.2 (by omega)
      have c1 := hcell k hlt
      have hki : (k : Int) < (zs.length : Int) := by omega
      have HK1 := Lib.hid (HR1.out k hlt)
      have HK2 : Hid (badIdx ss.length (zs.getD k 0) = false → ∀ j, j < k + 1 → badIdx ss.length (zs.getD j 0) = false) := Lib.hid (fun h j hj => by
        by_cases e : j < k
        · exact hall.out j e
        · obtain rfl : j = k := by omega
          exact h)
      generalize zs.getD k 0 = z at *
      clear hcell hx
      by_cases hz : 0 ≤ z ∧ z ≤ (ss.length : Int) - 1
      · have HB := Lib.hid (HK2.out (badIdx_false.2 (by omega)))
        have j1 : IntKind.i64.wrap ((ss.length : Int) - 1) = (ss.length : Int) - 1 := IntWalk.i64_in _ (by omega)
        go_wp2
        go_quiet ((go_at_call 13; exact Same.quiet (bWithin_yes _ _ _ _ (by omega))))
        clear j1
        go_wp2
        go_roundw
        case rel => exact ⟨k + 1, by omega, by go_num, HB, HXR.out.trans (by repeat (first | exact Ext.refl _ | assumption | refine Ext.alloc ?_ _ | refine Ext.drew ?_ | refine Ext.drewN ?_ _ | (refine Ext.setCell ?_ (by simp <;> omega) _) | refine Ext.trans ?_ (by assumption)))⟩
        case measure => simp [intOf]; omega
      · have HB : Hid (r = 6) := Lib.hid (HK1.out (by rw [← Bool.not_eq_false, badIdx_false]; omega))
        clear HK1 HK2
        have j1 : IntKind.i64.wrap ((ss.length : Int) - 1) = (ss.length : Int) - 1 := IntWalk.i64_in _ (by omega)
        go_wp2
        go_quiet ((go_at_call 13; exact Same.quiet (bWithin_no _ _ _ _ (by omega))))
        clear j1
        go_wp2
        go_ret
        exact Ret.mk' (by rw [HB.out]; rfl) (HXR.out.of_alloc.trans (by repeat (first | exact Ext.refl _ | assumption | refine Ext.alloc ?_ _ | refine Ext.drew ?_ | refine Ext.drewN ?_ _ | (refine Ext.setCell ?_ (by simp <;> omega) _) | refine Ext.trans ?_ (by assumption))))
    · obtain rfl : k = zs.length := by omega
      clear hx
      go_wp2
      go_ret
      exact Ret.mk' (by rw [HR2.out hall.out]; rfl) HXR.out.of_alloc
/-- A list of sorts of a fount. -/
structure Good (n : Nat) (zs : List Int) : Prop where
  few : zs.length ≤ 10000
  ix : ∀ k, k < zs.length → 0 ≤ zs.getD k 0 ∧ zs.getD k 0 < n
theorem Good.of {n : Nat} {zs : List Int} (h : listErr n zs = 0) : Good n zs := ⟨(listErr_zero h).1, (listErr_zero h).2⟩
end Go.Proofs.YtfbdklminljecaaGreatDoor
namespace Go.Proofs.YtfbdklminljecaaGreatDoor
open Go.RowKit

/-- The first error of n. -/
def firstE (g : Nat → Int) : Nat → Int
  | 0 => 0
  | k + 1 => if firstE g k ≠ 0 then firstE g k else g k
theorem firstE_zero {g : Nat → Int} : ∀ {n : Nat}, firstE g n = 0 → ∀ k, k < n → g k = 0
  | n + 1, h, k, hk => by
    rw [firstE] at h
    split at h
    · rename_i h1; exact absurd h h1
    · rename_i h1
      rcases Nat.lt_or_ge k n with h2 | h2
      · exact firstE_zero (by simpa using h1) k h2
      · obtain rfl : k = n := by omega
        exact h
theorem firstE_none {g : Nat → Int} : ∀ {n : Nat}, (∀ k, k < n → g k = 0) → firstE g n = 0
  | 0, _ => rfl
  | n + 1, h => by rw [firstE, if_neg (by rw [firstE_none fun k hk => h k (by omega)]; simp)]; exact h n (by omega)
theorem firstE_hit {g : Nat → Int} {k : Nat} (h0 : ∀ j, j < k → g j = 0) (hb : g k ≠ 0) : ∀ {n : Nat}, k < n → firstE g n = g k
  | n + 1, h => by
    rw [firstE]
    rcases Nat.lt_or_ge k n with h2 | h2
    · rw [firstE_hit h0 hb h2, if_pos hb]
    · obtain rfl : k = n := by omega
      rw [if_neg (by rw [firstE_none h0]; simp)]
end Go.Proofs.YtfbdklminljecaaGreatDoor
namespace Go.Proofs.YtfbdklminljecaaGreatDoor
open Go.RowKit
set_option maxHeartbeats 1000000 in
theorem checkCase_any (f : FT) (A : Option Addr) (c : Nat) (B : Option Addr) (d : Nat) (zs : List Int) (w : World) (hf : FR w A c f) (h : RI w B zs.length zs) :
    Calls Tryz.prog 24 #[f.val A c, .slice B zs.length d] w (Ret (.int .i64 (caseErr f zs)) w) := by
  have cC := fun X W h1 h2 => check_any f A c X 1 1 [⟨B, d, zs⟩] W h1 h2
  rw [checkErr_one] at cC
  have HF := Lib.hid hf; have HR := Lib.hid h; clear hf h
  simp only at cC
  generalize caseErr f zs = z at *
  obtain ⟨name, body, ss⟩ := f
  simp only [FT.val] at *
  have CC := Lib.hid cC; clear cC
  go_enter Tryz.func24, Tryz.ntmps24
  go_wp2_with (first | (go_at_call 21; refine Calls.mono (CC.out _ _ ?_ ?_) ?_; (exact HF.out.ext (by repeat (first | exact Ext.refl _ | assumption | refine Ext.alloc ?_ _ | refine Ext.drew ?_ | refine Ext.drewN ?_ _ | (refine Ext.setCell ?_ (by simp <;> omega) _) | refine Ext.trans ?_ (by assumption)))); (exact RL.one (Blk.new1 _ _ _ _) (HR.out.ext (by repeat (first | exact Ext.refl _ | assumption | refine Ext.alloc ?_ _ | refine Ext.drew ?_ | refine Ext.drewN ?_ _ | (refine Ext.setCell ?_ (by simp <;> omega) _) | refine Ext.trans ?_ (by assumption))))); rintro e w1 ⟨rfl, hb⟩))
  go_ret
  exact Ret.mk' rfl (by repeat (first | exact Ext.refl _ | assumption | refine Ext.alloc ?_ _ | refine Ext.drew ?_ | refine Ext.drewN ?_ _ | (refine Ext.setCell ?_ (by simp <;> omega) _) | refine Ext.trans ?_ (by assumption)))

end Go.Proofs.YtfbdklminljecaaGreatDoor
