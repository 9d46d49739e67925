/-
  What BillFor's loops keep in memory.
-/
import Derived.Test.YtaopcpfgmjpliaaDoorBillLaw
namespace Go.Proofs.YtaopcpfgmjpliaaDoor
open Go.RowKit

theorem run_push2 {w : World} {base : Nat} {v : Value} {zs : List Int} {g0 : Nat} {z : Int} (hown : Own w base v zs) (hb : w.cell? ⟨g0, 0, none⟩ = some (.int .i64 z)) (hlen : zs.length ≤ 1000000) (hbase : base ≤ w.heap.size) (ty : TypeId) :
    ∃ v' w', (Builtin.append_ #[31, 31] ty #[v, .slice (some ⟨g0, 0, none⟩) 1 1]).run Tryd.prog w = .ok v' w' ∧ Own w' base v' (zs ++ [z]) ∧ w.grownBy w' v.ownBlock ∧ (∀ g, v'.ownBlock = some g → v.ownBlock = some g ∨ g = w.heap.size) := by
  obtain ⟨i0, hi, hz0, hz1, hz2⟩ := info_parts intInfo
  obtain ⟨g, cap, w', hr, h2, h3, h4, _⟩ := run_append_lies (P := Tryd.prog) w 31 ty base 3 i0 (.int .i64 0) 1 8 Tryd.underlying31 hi hz0 hz1 hz2 rfl (by decide) v zs.length _ hown ⟨g0, 0, none⟩ 1 1 [.int .i64 z] rfl
    (fun j u hj => by match j, hj with | 0, hj => simp at hj; subst hj; simpa [Addr.add] using hb) (fun u hu => by simp at hu; subst hu; rfl) (by decide) (by unfold maxLen; omega) (by omega) hbase _ rfl
  exact ⟨_, w', hr, by unfold Own; simpa using h2, h3, fun g' hg' => by
    have e : g = g' := by simpa [Value.ownBlock] using hg'
    rw [← e]; exact h4⟩
theorem list_push2 {w : World} {ops : Array Oper} {rest : List Oper} {o : Oper} {a : Act} {Q : Exit → Act → World → Prop} (hgd : o.guard = none) (s x : Operand) (ho : o.op = .call { callee := .builtin .append, args := #[s, x], argTypes := #[31, 31] })
    (base : Nat) (v : Value) (zs : List Int) (hs : a.eval s = v) (hown : Own w base v zs) (g0 : Nat) (z : Int) (hx : a.eval x = .slice (some ⟨g0, 0, none⟩) 1 1) (hb : w.cell? ⟨g0, 0, none⟩ = some (.int .i64 z)) (hlen : zs.length ≤ 1000000) (hbase : base ≤ w.heap.size)
    (h : ∀ v' w', Own w' base v' (zs ++ [z]) → w.grownBy w' v.ownBlock → (∀ g, v'.ownBlock = some g → v.ownBlock = some g ∨ g = w.heap.size) → wpList Tryd.prog ops Q rest (a.put o.dst v') w') : wpList Tryd.prog ops Q (o :: rest) a w := by
  refine wpList_plain hgd fun K hK => ?_
  obtain ⟨v', w', hr', h2, h3, h4⟩ := run_push2 hown hb hlen hbase o.type
  unfold Oper.wp execOp
  simp only [ho, resolve, invoke, builtin, Sem.run_bind, Sem.run_pure, Result.andThen_ok, List.map_toArray, List.map_cons, List.map_nil, hs, hx, hr']
  exact hK _ _ (h v' w' h2 h3 h4)
theorem Blk.new3 (w : World) (o o' o'' : Obj) (t : TypeId) (cs : Array Value) : Blk ((((w.alloc o).alloc o').alloc o'').alloc (.cells cs t)) (w.heap.size + 1 + 1 + 1) t cs := by
  have h := Blk.new (((w.alloc o).alloc o').alloc o'') t cs; rwa [World.size_alloc, World.size_alloc, World.size_alloc] at h
section
variable {a b : World} {base : Nat} {v : Value} {zs : List Int}
theorem Own.block (h : Own a base v zs) (hk : ∀ g, v.ownBlock = some g → b.heap[g]? = a.heap[g]?) : Own b base v zs := by
  refine ⟨h.1, ?_⟩
  rcases h.2 with h' | ⟨g, cap, cur, hv, hg, hh, r⟩
  · exact .inl h'
  · exact .inr ⟨g, cap, cur, hv, hg, (hk g (by rw [hv]; rfl)).trans hh, r⟩
theorem Own.blt (h : Own a base v zs) {g : Nat} (hg : v.ownBlock = some g) : base ≤ g ∧ g < a.heap.size := World.ownsRow.lt h g hg
theorem Own.but {L : List Nat} (h : Own a base v zs) (hb : But L a b) (hv : ∀ g, v.ownBlock = some g → g ∉ L) : Own b base v zs := h.block fun g hg => hb.block g (h.blt hg).2 (hv g hg)
theorem Own.other {row : Option Nat} (h : Own a base v zs) (hb : a.grownBy b row) (hv : ∀ g, v.ownBlock = some g → some g ≠ row) : Own b base v zs := h.block fun g hg => hb.block g (h.blt hg).2 (hv g hg)
theorem Own.set {g n cap : Nat} (h : Own a base (.slice (some ⟨g, 0, none⟩) n cap) zs) (i : Nat) (z : Int) : Own (a.setCell ⟨g, i, none⟩ (.int .i64 z)) base (.slice (some ⟨g, 0, none⟩) n cap) (zs.set i z) := by
  obtain ⟨_, h2⟩ := h
  refine ⟨by simp, ?_⟩
  rcases h2 with ⟨h', _⟩ | ⟨g', cap', cur, hv, hg, hh, r1, r2, r3, r4⟩
  · cases h'
  · obtain ⟨e1, _, _⟩ := Value.slice.inj hv
    cases e1
    have hb : Blk a g 3 cur := hh
    refine .inr ⟨g, cap', cur.setIfInBounds i (.int .i64 z), by rw [List.length_set]; exact hv, hg, hb.set_ i _, by rw [List.length_set]; exact r1, r2, by simpa using r3, ?_⟩
    rw [Array.toList_setIfInBounds, List.length_set, List.take_set, r4, List.map_set]
theorem Own.at (h : Own a base v zs) {g n cap : Nat} (hv : v = .slice (some ⟨g, 0, none⟩) n cap) (i : Nat) (hi : i < zs.length) : a.cell? ⟨g, i, none⟩ = some (.int .i64 (zs.getD i 0)) ∧ a.frozen? ⟨g, i, none⟩ = false ∧ n = zs.length ∧ n ≤ cap ∧ cap ≤ maxLen := by
  subst hv
  have h0 := h
  obtain ⟨h1, h2⟩ := h
  rcases h2 with ⟨h', _⟩ | ⟨g', cap', cur, hv, hg, hh, r1, r2, r3, r4⟩
  · cases h'
  · obtain ⟨e1, e2, e3⟩ := Value.slice.inj hv
    cases e1
    have hb : Blk a g 3 cur := hh
    refine ⟨hb.cell i _ ?_, hb.frozen i, e2, by omega, by rw [e3]; exact r2⟩
    have h4 : (cur.toList.take (zs.length * 1))[i]? = (zs.map (Value.int .i64))[i]? := by rw [r4]
    rw [List.getElem?_take_of_lt (by omega), Array.getElem?_toList, List.getElem?_map, List.getElem?_eq_getElem hi] at h4
    rw [h4, List.getD_eq_getElem?_getD, List.getElem?_eq_getElem hi]; rfl
end

/-- The closure's cells and all that lay, in a later world; what is made from block B on is the call's own. -/
structure BH (w : World) (b4 b5 b9 B : Nat) (total all : Int) (X : Option Addr) (n cx : Nat) (a : World) : Prop where
  ext : Ext w a
  c4 : a.cell? ⟨b4, 0, none⟩ = some (.slice X n cx)
  c5 : a.cell? ⟨b5, 0, none⟩ = some (.int .i64 total)
  c9 : a.cell? ⟨b9, 0, none⟩ = some (.int .i64 all)
  lt4 : b4 < B
  lt5 : b5 < B
  lt9 : b9 < B
  base : w.heap.size ≤ B
  here : B ≤ a.heap.size
section
variable {w : World} {b4 b5 b9 B : Nat} {total all : Int} {X : Option Addr} {n cx : Nat} {a b : World}
theorem BH.keep (h : BH w b4 b5 b9 B total all X n cx a) (hx : Ext w b) (hk : ∀ k, k < B → b.heap[k]? = a.heap[k]?) (hs : a.heap.size ≤ b.heap.size) : BH w b4 b5 b9 B total all X n cx b :=
  ⟨hx, (World.cell?_of_block (a := ⟨b4, 0, none⟩) (hk _ h.lt4)).trans h.c4, (World.cell?_of_block (a := ⟨b5, 0, none⟩) (hk _ h.lt5)).trans h.c5, (World.cell?_of_block (a := ⟨b9, 0, none⟩) (hk _ h.lt9)).trans h.c9, h.lt4, h.lt5, h.lt9, h.base, Nat.le_trans h.here hs⟩
theorem BH.next (h : BH w b4 b5 b9 B total all X n cx a) (hx : Ext a b) : BH w b4 b5 b9 B total all X n cx b := h.keep (h.ext.trans hx) (fun _ hk => hx.block (Nat.lt_of_lt_of_le hk h.here)) hx.size
theorem BH.grown {row : Option Nat} (h : BH w b4 b5 b9 B total all X n cx a) (hg : a.grownBy b row) (hr : ∀ k, row = some k → B ≤ k) : BH w b4 b5 b9 B total all X n cx b :=
  h.keep (h.ext.grown hg fun k hk => Nat.le_trans h.base (hr k hk)) (fun k hk => hg.block k (Nat.lt_of_lt_of_le hk h.here) (fun e => by have := hr k e.symm; omega)) hg.size
theorem BH.but {g : Nat} (h : BH w b4 b5 b9 B total all X n cx a) (hb : But [g] a b) (hg : B ≤ g) : BH w b4 b5 b9 B total all X n cx b :=
  h.keep (But.ext h.ext hb fun _ hk => by rw [List.mem_singleton.1 hk]; exact Nat.le_trans h.base hg) (fun k hk => hb.block k (Nat.lt_of_lt_of_le hk h.here) (fun e => by have := List.mem_singleton.1 e; omega)) hb.size
end
/-- Two rows of the call's own, apart. -/
structure Two (w : World) (b4 b5 b9 B : Nat) (total all : Int) (X : Option Addr) (n cx : Nat) (a : World) (v u : Value) (l k : List Int) : Prop where
  bh : BH w b4 b5 b9 B total all X n cx a
  one : Own a B v l
  two : Own a B u k
  far : ∀ g, v.ownBlock = some g → u.ownBlock ≠ some g
section
variable {w : World} {b4 b5 b9 B : Nat} {total all : Int} {X : Option Addr} {n cx : Nat} {a W W' : World} {v u t : Value} {l k m : List Int}
theorem Two.push1 (h : Two w b4 b5 b9 B total all X n cx a v u l k) (hx : Ext a W) (hg : W.grownBy W' v.ownBlock) (ho : Own W' B t m) (hn : ∀ g, t.ownBlock = some g → v.ownBlock = some g ∨ g = W.heap.size) : Two w b4 b5 b9 B total all X n cx W' t u m k :=
  ⟨(h.bh.next hx).grown hg fun g hg' => (h.one.blt hg').1, ho, (h.two.ext hx).other hg fun g hu hv => h.far g hv.symm hu, fun g ht hu => by
    rcases hn g ht with h1 | h1
    · exact h.far g h1 hu
    · have h2 := (h.two.blt hu).2; have := hx.size; omega⟩
theorem Two.push2 (h : Two w b4 b5 b9 B total all X n cx a v u l k) (hx : Ext a W) (hg : W.grownBy W' u.ownBlock) (ho : Own W' B t m) (hn : ∀ g, t.ownBlock = some g → u.ownBlock = some g ∨ g = W.heap.size) : Two w b4 b5 b9 B total all X n cx W' v t l m :=
  ⟨(h.bh.next hx).grown hg fun g hg' => (h.two.blt hg').1, (h.one.ext hx).other hg fun g hv hu => h.far g hv hu.symm, ho, fun g hv ht => by
    rcases hn g ht with h1 | h1
    · exact h.far g hv h1
    · have h2 := (h.one.blt hv).2; have := hx.size; omega⟩
end
/-- The bill's second loop: the row of shares, the order, apart. -/
structure Up (w : World) (b4 b5 b9 B : Nat) (total all : Int) (X : Option Addr) (n cx : Nat) (a : World) (h g : Nat) (capo : Nat) (l ord : List Int) : Prop where
  bh : BH w b4 b5 b9 B total all X n cx a
  own : Own a B (.slice (some ⟨h, 0, none⟩) n capo) l
  ri : RI a (some ⟨g, 0, none⟩) n ord
  far : h ≠ g
section
variable {w : World} {b4 b5 b9 B : Nat} {total all : Int} {X : Option Addr} {n cx : Nat} {a b : World} {h g capo : Nat} {l ord : List Int}
theorem Up.next (H : Up w b4 b5 b9 B total all X n cx a h g capo l ord) (hx : Ext a b) : Up w b4 b5 b9 B total all X n cx b h g capo l ord := ⟨H.bh.next hx, H.own.ext hx, H.ri.ext hx, H.far⟩
theorem Up.set (H : Up w b4 b5 b9 B total all X n cx a h g capo l ord) (i : Nat) (z : Int) : Up w b4 b5 b9 B total all X n cx (a.setCell ⟨h, i, none⟩ (.int .i64 z)) h g capo (l.set i z) ord :=
  ⟨H.bh.but (But.setCell a ⟨h, i, none⟩ _) (H.own.blt rfl).1, H.own.set i z, H.ri.block (But.setCell a ⟨h, i, none⟩ _).size fun p hp hl => (But.setCell a ⟨h, i, none⟩ _).block p.block hl (fun e => by
    have e1 : p.block = h := List.mem_singleton.1 e
    have e2 : p.block = g := by cases hp; rfl
    exact H.far (e1.symm.trans e2)), H.far⟩
end
theorem sortBill {n : Nat} (w : World) (base g cap : Nat) (b5 b4 b9 : Nat) (total all : Int) (X : Option Addr) (cx : Nat) (ns : List Int) (hn : ns.length = n) (h1 : 1 ≤ n) (hm : n ≤ 19) (hown : Own w base (.slice (some ⟨g, 0, none⟩) n cap) (ids n))
    (h5 : w.cell? ⟨b5, 0, none⟩ = some (.int .i64 total)) (h4 : w.cell? ⟨b4, 0, none⟩ = some (.slice X n cx)) (h9 : w.cell? ⟨b9, 0, none⟩ = some (.int .i64 all)) (hb5 : b5 < base) (hb4 : b4 < base) (hb9 : b9 < base) (hX : ∀ a, X = some a → a.block < base)
    (hr : RI w X n ns) (ht : 0 ≤ total ∧ total ≤ 1000000) (ha : 1 ≤ all ∧ all ≤ 1000000000) (hns : ∀ k, k < n → 0 ≤ ns.getD k 0 ∧ ns.getD k 0 ≤ 1000000) :
    Calls Tryd.prog 22 #[.slice (some ⟨g, 0, none⟩) n cap, .func (.func 36) #[] #[.pointer (some ⟨b5, 0, none⟩), .pointer (some ⟨b4, 0, none⟩), .pointer (some ⟨b9, 0, none⟩)]] w
      (RetSort g n (ordL (n - 1) (cfB (n - 1) total all ns)) w) := by
  obtain ⟨m, rfl⟩ : ∃ m, n = m + 1 := ⟨n - 1, by omega⟩
  exact sortBill_any m w base g cap b5 b4 b9 total all X cx ns hn hm hown h5 (by rw [hn]; exact h4) h9 hb5 hb4 hb9 hX (by rw [hn]; exact hr) ht ha (by rw [hn]; exact hns)
theorem Two.sorted {w : World} {b4 b5 b9 B : Nat} {total all : Int} {X : Option Addr} {n cx : Nat} {a b : World} {h g capo cap : Nat} {l k ord : List Int}
    (H : Two w b4 b5 b9 B total all X n cx a (.slice (some ⟨h, 0, none⟩) n capo) (.slice (some ⟨g, 0, none⟩) n cap) l k) (hb : But [g] a b) (hr : RI b (some ⟨g, 0, none⟩) n ord) : Up w b4 b5 b9 B total all X n cx b h g capo l ord := by
  have hne : h ≠ g := fun e => H.far h rfl (by rw [e]; rfl)
  exact ⟨H.bh.but hb (H.two.blt rfl).1, H.one.but hb fun x hx hm => hne (by
    have e1 : h = x := by simpa [Value.ownBlock] using hx
    rw [e1, List.mem_singleton.1 hm]), hr, hne⟩
end Go.Proofs.YtaopcpfgmjpliaaDoor
