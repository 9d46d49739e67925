/-
  Walks: a strings.Builder that the call itself made: what is written to it, and what else stays as it is.
-/
import Derived.Test.YtaopcpfgmjpliaaDoorLib
import Derived.Test.YtaopcpfgmjpliaaDoorShelf
import Derived.Lib.Builder
import Derived.Lib.AppendStr
import Derived.Lib.UnsafeStr
import Derived.Laws.Externs
namespace Go.Proofs.YtaopcpfgmjpliaaDoor
open Go.RowKit

/-- A builder in block b, its buffer v (from block B on), holding the bytes l. -/
structure Bld (w : World) (B b : Nat) (v : Value) (l : List UInt8) : Prop where
  blk : ∃ p, (p = Value.pointer none ∨ p = Value.pointer (some ⟨b, 0, none⟩)) ∧ Blk w b 66 #[p, v]
  own : w.ownsRow B 5 1 v l.length (Lib.byteCells l)
  lt : b < B
/-- What a write may turn: the builder's own block, and its buffer's. -/
def bldL (b : Nat) (v : Value) : List Nat := b :: v.ownBlock.toList
theorem strCells_eq (s : ByteArray) : Lib.strCells s = Lib.byteCells s.data.toList := rfl
theorem byteCells_append (a b : List UInt8) : Lib.byteCells (a ++ b) = Lib.byteCells a ++ Lib.byteCells b := by simp [Lib.byteCells]
section
variable {w w' : World} {B b : Nat} {v : Value} {l : List UInt8}
theorem bldL_ge (h : Bld w B b v l) : ∀ g ∈ bldL b v, b ≤ g := by
  intro g hg
  rcases List.mem_cons.1 hg with h1 | h1
  · omega
  · have h2 : v.ownBlock = some g := by simpa using h1
    have := (World.ownsRow.lt h.own g h2).1; have := h.lt; omega
theorem Bld.far (h : Bld w B b v l) {k : Nat} {T : TypeId} {cs : Array Value} (hk : Blk w k T cs) (hT : T ≠ 5) (hkb : k ≠ b) : k ∉ bldL b v := by
  intro hm
  rcases List.mem_cons.1 hm with h1 | h1
  · exact hkb h1
  · exact Lib.ownBlock_ne h.own hk hT (by simpa using h1)
theorem Bld.ext (h : Bld w B b v l) (hx : Ext w w') : Bld w' B b v l := by
  obtain ⟨p, hp, hb⟩ := h.blk
  refine ⟨⟨p, hp, hb.ext hx⟩, ?_, h.lt⟩
  refine World.ownsRow.kept (row := none) h.own ⟨hx.os, hx.tape, hx.output, hx.size, fun k hk _ => hx.block hk⟩ ?_
  cases hv : v.ownBlock with
  | none => exact .inl rfl
  | some g => exact .inr (by simp)
theorem Bld.new (w : World) (B : Nat) (hB : w.heap.size < B) : Bld (w.alloc (.cells #[.pointer none, .slice none 0 0] 66)) B w.heap.size (.slice none 0 0) [] :=
  ⟨⟨_, .inl rfl, Blk.new _ _ _⟩, World.ownsRow_nil _ _ _ _, hB⟩
theorem But.extL (h : Ext w w') (h2 : Bld w' B b v l) (hb : w.heap.size ≤ b) {c : World} (k : But (bldL b v) w' c) : Ext w c :=
  But.ext h k fun g hg => Nat.le_trans hb (bldL_ge h2 g hg)
theorem Bld.isBuilder (h : Bld w B b v l) : Lib.IsBuilder 66 5 b b (Lib.byteCells l) w := by
  obtain ⟨p, hp, hb⟩ := h.blk
  have ho : w.ownsRow b 5 1 v (Lib.byteCells l).length (Lib.byteCells l) := by
    rw [Lib.byteCells_length]
    refine ⟨h.own.1, ?_⟩
    rcases h.own.2 with h' | ⟨g, cap, cur, hv, hg, r⟩
    · exact .inl h'
    · exact .inr ⟨g, cap, cur, hv, by have := h.lt; omega, r⟩
  have hne : v.ownBlock ≠ some b := Lib.ownBlock_ne h.own hb (by decide)
  rcases hp with rfl | rfl
  · exact .inl ⟨Nat.le_refl _, v, hb, ho, hne⟩
  · exact .inr ⟨Nat.le_refl _, v, hb, ho, hne⟩
end

/-- A block that was laid ahead of a write, behind it. -/
theorem box_kept {wr W2 : World} {B b : Nat} {v : Value} {l : List UInt8} {T : TypeId} {cs : Array Value} (h : Bld wr B b v l) (hT : T ≠ 5) (hb : But (bldL b v) (wr.alloc (.cells cs T)) W2) : Blk W2 wr.heap.size T cs := by
  have hlt : b < wr.heap.size := by obtain ⟨p, _, hb⟩ := h.blk; exact hb.lt
  exact (Blk.new wr T cs).but hb ((h.ext ((Ext.refl wr).alloc (.cells cs T))).far (Blk.new wr T cs) hT (by omega))

/-- Behind copyCheck. -/
def CkPost (b : Nat) (v : Value) (w : World) (e : Ending) (w' : World) : Prop := e = .returned (.tuple #[]) ∧ Blk w' b 66 #[.pointer (some ⟨b, 0, none⟩), v] ∧ But [b] w w' ∧ w'.heap.size = w.heap.size
theorem run_noEsc (p : Option Addr) (w : World) : (callFunc 56 #[.pointer p]).run Tryd.prog w = .ok (.value (.pointer p)) w := by
  rw [run_callFunc_extern Tryd.func56 (by kernel_rfl) (by kernel_rfl) (by kernel_rfl) (e := Extern.AbiNoEscape.same) (by kernel_rfl)]
  rfl
set_option maxRecDepth 100000 in
set_option maxHeartbeats 1000000 in
theorem copyCheck_any (b : Nat) (p v : Value) (w : World) (hp : p = .pointer none ∨ p = .pointer (some ⟨b, 0, none⟩)) (hb : Blk w b 66 #[p, v]) :
    Calls Tryd.prog 47 #[.pointer (some ⟨b, 0, none⟩)] w (CkPost b v w) := by
  obtain ⟨j, hj, hjs⟩ := Option.map_eq_some_iff.1 (show (Tryd.prog.info? 66).map (·.size) = some 2 by kernel_rfl)
  have hsh : w.shape? b = some (66, 2) := by unfold Blk at hb; simp [World.shape?, hb]
  obtain ⟨h0, h1, fz, _, hl⟩ := hb.c2
  have HB := Lib.hid hb; clear hb
  rcases hp with rfl | rfl
  · go_enter Tryd.func47, Tryd.ntmps47
    go_wp2
    rw [Lib.run_to_unsafe w ⟨b, 0, none⟩ Tryd.underlying63 Tryd.underlying94 hj (by rw [hjs]; decide) hsh (Nat.zero_lt_succ 1)]
    simp only [Result.andThen]
    rw [Oper.upon_value]
    go_wp2
    rw [run_callFunc_extern Tryd.func56 (by kernel_rfl) (by kernel_rfl) (by kernel_rfl) (e := Extern.AbiNoEscape.same) (by kernel_rfl)]
    rw [Lib.run_noEscape]
    simp only [Result.andThen]
    rw [Oper.upon_value]
    go_wp2
    rw [Lib.run_from_unsafe w ⟨b, 0, none⟩ Tryd.underlying94 Tryd.underlying63 hj hsh (by kernel_rfl)]
    simp only [Result.andThen]
    rw [Oper.upon_value]
    go_wp2
    go_end0
    exact ⟨rfl, HB.out.set_ 0 _, But.setCell w ⟨b, 0, none⟩ _, by simp [World.setCell]⟩
  · go_enter Tryd.func47, Tryd.ntmps47
    go_wp2
    rw [Lib.run_neq_ptr_same w _ Tryd.underlying63 hj]
    go_wp2
    go_end0
    exact ⟨rfl, HB.out, ⟨rfl, rfl, rfl, Nat.le_refl _, fun _ _ _ => rfl⟩, rfl⟩

/-- Behind a write. -/
def WrPost (V : Value) (B b : Nat) (v : Value) (l : List UInt8) (w : World) (e : Ending) (w' : World) : Prop := e = .returned V ∧ ∃ v', Bld w' B b v' l ∧ But (bldL b v) w w'
theorem But.mono {a b : World} {L M : List Nat} (h : But L a b) (hs : ∀ x ∈ L, x ∈ M) : But M a b := ⟨h.os, h.tape, h.output, h.size, fun k hk hn => h.block k hk (fun hm => hn (hs k hm))⟩
theorem But.grownL {a b : World} {v : Value} {L : List Nat} (h : a.grownBy b v.ownBlock) (hs : ∀ g, v.ownBlock = some g → g ∈ L) : But L a b :=
  ⟨h.os, h.tape, h.output, h.size, fun i hi hn => h.block i hi (fun e => hn (hs i e.symm))⟩
theorem u8Info : (Tryd.prog.info? 5).map (fun i => (i.zero, i.size, i.bytes)) = some (some (.int .u8 0), 1, 1) := by kernel_rfl
set_option maxRecDepth 100000 in
set_option maxHeartbeats 2000000 in
theorem writeString_any (B b : Nat) (v : Value) (l : List UInt8) (s : ByteArray) (w : World) (h : Bld w B b v l) (hlen : l.length + s.size ≤ 100000000) (hB : B ≤ w.heap.size) :
    Calls Tryd.prog 31 #[.pointer (some ⟨b, 0, none⟩), .string s] w (WrPost (.tuple #[.int .i64 s.size, .nilIface]) B b v (l ++ s.data.toList) w) := by
  obtain ⟨i0, hi, hz0, hz1, hz2⟩ := info_parts u8Info
  obtain ⟨p, hp, hb⟩ := h.blk
  have HW := Lib.hid h
  go_enter Tryd.func31, Tryd.ntmps31
  go_wp2_with (go_at_call 47; refine Calls.mono (copyCheck_any b p v _ hp hb) ?_)
  rintro e w1 ⟨rfl, hb1, hbut, hsz⟩
  have c0 := hb1.c2.1
  have c1 := hb1.c2.2.1
  have hl1 := hb1.c2.2.2.2.2
  have HS := Lib.hid hsz; clear hsz
  have hown : w1.ownsRow B 5 1 v l.length (Lib.byteCells l) := by
    refine World.ownsRow.kept (row := some b) HW.out.own ⟨hbut.os, hbut.tape, hbut.output, hbut.size, fun k hk hne => hbut.block k hk (fun hm => hne (by rw [List.mem_singleton.1 hm]))⟩ ?_
    cases hv : v.ownBlock with
    | none => exact .inl rfl
    | some g => exact .inr (by rw [← hv]; exact Lib.ownBlock_ne HW.out.own hb (by decide))
  go_wp2_with (at_builtin; refine Lib.wpList_append_own_string _ rfl _ _ 64 9 rfl B 5 i0 Tryd.underlying64 Tryd.underlying9 hi hz0 hz1 hz2 _ _ _ rfl hown s rfl ?c3 ?c4 ?c5 ?_)
  case c3 => unfold maxLen; omega
  case c4 => omega
  case c5 => have := HS.out; omega
  intro v' w2 hown' hgrow _
  obtain ⟨ao, n', cap, hve⟩ : ∃ ao n' cap, v' = .slice ao n' cap := by
    rcases hown'.2 with ⟨hv, _⟩ | ⟨g, cap, cur, hv, _⟩
    · exact ⟨_, _, _, hv⟩
    · exact ⟨_, _, _, hv⟩
  subst hve
  have hne : v.ownBlock ≠ some b := Lib.ownBlock_ne hown hb1 (by decide)
  have hb2 : Blk w2 b 66 #[.pointer (some ⟨b, 0, none⟩), v] := (hgrow.block b hl1 (fun e => hne e.symm)).trans hb1
  obtain ⟨d0, d1, _, f1, _⟩ := hb2.c2
  have HO := Lib.hid hown'; have HG := Lib.hid hgrow; have HB1 := Lib.hid hbut; have HB2 := Lib.hid hb2
  clear hown' hgrow hbut hb2 hown h
  go_wp2
  go_ret2
  have hx : But [b] w2 (w2.setCell ⟨b, 1, none⟩ (.slice ao n' cap)) := But.setCell w2 ⟨b, 1, none⟩ _
  have hsub : ∀ x ∈ [b], x ∈ bldL b v := fun x hx => by rw [List.mem_singleton.1 hx]; exact List.mem_cons_self
  refine ⟨rfl, .slice ao n' cap, ⟨⟨_, .inr rfl, HB2.out.set_ 1 _⟩, ?_, HW.out.lt⟩, ?_⟩
  · have ho : w2.ownsRow B 5 1 (.slice ao n' cap) (l ++ s.data.toList).length (Lib.byteCells (l ++ s.data.toList)) := by
      rw [byteCells_append, ← strCells_eq, List.length_append, show s.data.toList.length = s.size from rfl]; exact HO.out
    refine World.ownsRow.kept (row := some b) ho ⟨hx.os, hx.tape, hx.output, hx.size, fun k hk hne => hx.block k hk (fun hm => hne (by rw [List.mem_singleton.1 hm]))⟩ ?_
    cases hv : (Value.slice ao n' cap).ownBlock with
    | none => exact .inl rfl
    | some g => exact .inr (by rw [← hv]; exact Lib.ownBlock_ne HO.out HB2.out (by decide))
  · exact ((HB1.out.mono hsub).trans (But.grownL HG.out (fun g hg => List.mem_cons_of_mem _ (by rw [hg]; simp)))).trans (hx.mono hsub)
set_option maxRecDepth 100000 in
set_option maxHeartbeats 2000000 in
theorem writeByte_any (B b : Nat) (v : Value) (l : List UInt8) (c : UInt8) (w : World) (h : Bld w B b v l) (hlen : l.length ≤ 100000000) (hB : B ≤ w.heap.size) :
    Calls Tryd.prog 30 #[.pointer (some ⟨b, 0, none⟩), .int .u8 c.toNat] w (WrPost .nilIface B b v (l ++ [c]) w) := by
  obtain ⟨i0, hi, hz0, hz1, hz2⟩ := info_parts u8Info
  obtain ⟨p, hp, hb⟩ := h.blk
  have HW := Lib.hid h
  go_enter Tryd.func30, Tryd.ntmps30
  go_wp2_with (go_at_call 47; refine Calls.mono (copyCheck_any b p v _ hp hb) ?_)
  rintro e w1 ⟨rfl, hb1, hbut, hsz⟩
  have c0 := hb1.c2.1
  have c1 := hb1.c2.2.1
  have hl1 := hb1.c2.2.2.2.2
  have HS := Lib.hid hsz; clear hsz
  have hown : w1.ownsRow B 5 1 v l.length (Lib.byteCells l) := by
    refine World.ownsRow.kept (row := some b) HW.out.own ⟨hbut.os, hbut.tape, hbut.output, hbut.size, fun k hk hne => hbut.block k hk (fun hm => hne (by rw [List.mem_singleton.1 hm]))⟩ ?_
    cases hv : v.ownBlock with
    | none => exact .inl rfl
    | some g => exact .inr (by rw [← hv]; exact Lib.ownBlock_ne HW.out.own hb (by decide))
  go_wp2_with (at_builtin; refine wpList_append_own _ rfl _ _ 64 rfl B 5 i0 (.int .u8 0) 1 1 Tryd.underlying64 hi hz0 hz1 hz2 rfl (by decide) _ _ _ rfl (hown.alloc _) ⟨w1.heap.size, 0, none⟩ 1 1 [.int .u8 c.toNat] rfl rfl ?c1 ?c2 ?c3 ?c4 ?c5 ?_)
  case c1 =>
    intro j u hj
    match j, hj with
    | 0, hj => simp at hj; subst hj; simp [Addr.add]
  case c2 => intro u hu; simp at hu; subst hu; rfl
  case c3 => unfold maxLen; omega
  case c4 => omega
  case c5 => have := HS.out; simp; omega
  intro v' w2 hown' hgrow _
  obtain ⟨ao, n', cap, hve⟩ : ∃ ao n' cap, v' = .slice ao n' cap := by
    rcases hown'.2 with ⟨hv, _⟩ | ⟨g, cap, cur, hv, _⟩
    · exact ⟨_, _, _, hv⟩
    · exact ⟨_, _, _, hv⟩
  subst hve
  have hne : v.ownBlock ≠ some b := Lib.ownBlock_ne hown hb1 (by decide)
  have hb2 : Blk w2 b 66 #[.pointer (some ⟨b, 0, none⟩), v] := (hgrow.block b (by simp; omega) (fun e => hne e.symm)).trans (hb1.alloc _)
  obtain ⟨d0, d1, _, f1, _⟩ := hb2.c2
  have HO := Lib.hid hown'; have HG := Lib.hid hgrow; have HB1 := Lib.hid hbut; have HB2 := Lib.hid hb2
  clear hown' hgrow hbut hb2 hown h
  go_wp2
  go_ret
  have hx : But [b] w2 (w2.setCell ⟨b, 1, none⟩ (.slice ao n' cap)) := But.setCell w2 ⟨b, 1, none⟩ _
  have hsub : ∀ x ∈ [b], x ∈ bldL b v := fun x hx => by rw [List.mem_singleton.1 hx]; exact List.mem_cons_self
  refine ⟨rfl, .slice ao n' cap, ⟨⟨_, .inr rfl, HB2.out.set_ 1 _⟩, ?_, HW.out.lt⟩, ?_⟩
  · have ho : w2.ownsRow B 5 1 (.slice ao n' cap) (l ++ [c]).length (Lib.byteCells (l ++ [c])) := by
      rw [byteCells_append, List.length_append]; exact HO.out
    refine World.ownsRow.kept (row := some b) ho ⟨hx.os, hx.tape, hx.output, hx.size, fun k hk hne => hx.block k hk (fun hm => hne (by rw [List.mem_singleton.1 hm]))⟩ ?_
    cases hv : (Value.slice ao n' cap).ownBlock with
    | none => exact .inl rfl
    | some g => exact .inr (by rw [← hv]; exact Lib.ownBlock_ne HO.out HB2.out (by decide))
  · exact (((HB1.out.mono hsub).trans (But.of_ext ((Ext.refl w1).alloc _) _)).trans (But.grownL HG.out (fun g hg => List.mem_cons_of_mem _ (by rw [hg]; simp)))).trans (hx.mono hsub)
theorem string_any (B b : Nat) (v : Value) (l : List UInt8) (w : World) (h : Bld w B b v l) (hB : B ≤ w.heap.size) :
    Calls Tryd.prog 32 #[.pointer (some ⟨b, 0, none⟩)] w fun e w' => e = .returned (.string ⟨l.toArray⟩) ∧ Below b w w' :=
  Tryd.Builder_String_any b b l w h.isBuilder (by have := h.lt; omega)
end Go.Proofs.YtaopcpfgmjpliaaDoor
