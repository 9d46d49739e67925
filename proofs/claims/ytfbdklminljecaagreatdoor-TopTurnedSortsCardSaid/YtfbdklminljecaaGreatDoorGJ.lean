/-
  Plain law: lines in memory, the error of lines, and where sorts lack.
  Walks: chapter 5: the errors of lines.
  Walks: chapter 5: Turned.
  Pairs of numbers are compared.
-/
import Derived.Test.YtfbdklminljecaaGreatDoorGF
import Derived.Test.YtfbdklminljecaaGreatDoorGI
import Derived.ChangeKeysEq
namespace Go.Proofs.YtfbdklminljecaaGreatDoor
open Go.RowKit

/-- A line: its measure, and its sorts as they lie. -/
structure LN where
  m : Int
  s : SI
def LN.zero : LN := ⟨0, SI.none_⟩
/-- A slice of lines reads as ls. -/
def RLN (w : World) (A : Option Addr) (n : Nat) (ls : List LN) : Prop :=
  ls.length = n ∧ n ≤ 9223372036854775807 ∧ (0 < n → ∃ b off, A = some ⟨b, off, none⟩ ∧ b < w.heap.size ∧ ∀ k, k < n → w.cell? ⟨b, off + k * 2, none⟩ = some (.int .i64 (ls.getD k LN.zero).m) ∧ w.cell? ⟨b, off + k * 2 + 1, none⟩ = some (ls.getD k LN.zero).s.val) ∧
  ∀ k, k < n → RI w (ls.getD k LN.zero).s.A (ls.getD k LN.zero).s.zs.length (ls.getD k LN.zero).s.zs
theorem RLN.ext {w w' : World} {A : Option Addr} {n : Nat} {ls : List LN} (h : RLN w A n ls) (hx : Ext w w') : RLN w' A n ls :=
  ⟨h.1, h.2.1, fun hn => let ⟨b, off, ha, hb, hc⟩ := h.2.2.1 hn; ⟨b, off, ha, Nat.lt_of_lt_of_le hb hx.size, fun k hk => by
    rw [hx.cell (p := ⟨b, _, none⟩) hb, hx.cell (p := ⟨b, _, none⟩) hb]; exact hc k hk⟩, fun k hk => (h.2.2.2 k hk).ext hx⟩
def linesE (f : FT) (ls : List LN) : Int := if 100 < ls.length then 8 else firstE (fun k => listChk f (ls.getD k LN.zero).s.zs) ls.length
theorem linesE_zero {f : FT} {ls : List LN} (h : linesE f ls = 0) : ls.length ≤ 100 ∧ ∀ k, k < ls.length → listChk f (ls.getD k LN.zero).s.zs = 0 := by
  unfold linesE at h
  split at h
  · cases h
  · exact ⟨by omega, firstE_zero h⟩
/-- The sorts of the first k lines' need, of n sorts. -/
def lineZ (ls : List LN) (k : Nat) : List Int := (ls.getD k LN.zero).s.zs
/-- One sort is taken from a case, or it lacks. -/
def trStep (i k : Nat) (z : Int) (p : List Int × List (Nat × Nat)) : List Int × List (Nat × Nat) :=
  if p.1.getD z.toNat 0 = 0 then (p.1, p.2 ++ [(i, k)]) else (p.1.set z.toNat (p.1.getD z.toNat 0 - 1), p.2)
def trLine (i : Nat) (zs : List Int) (p : List Int × List (Nat × Nat)) : Nat → List Int × List (Nat × Nat)
  | 0 => p
  | k + 1 => trStep i k (zs.getD k 0) (trLine i zs p k)
def trTo (ls : List LN) (cs : List Int) : Nat → List Int × List (Nat × Nat)
  | 0 => (cs, [])
  | i + 1 => trLine i (lineZ ls i) (trTo ls cs i) (lineZ ls i).length
theorem trStep_len (i k : Nat) (z : Int) (p : List Int × List (Nat × Nat)) : (trStep i k z p).1.length = p.1.length := by
  unfold trStep; split
  · rfl
  · simp
theorem trLine_len (i : Nat) (zs : List Int) (p : List Int × List (Nat × Nat)) : ∀ k, (trLine i zs p k).1.length = p.1.length
  | 0 => rfl
  | k + 1 => by rw [trLine, trStep_len, trLine_len i zs p k]
theorem trTo_len (ls : List LN) (cs : List Int) : ∀ i, (trTo ls cs i).1.length = cs.length
  | 0 => rfl
  | i + 1 => by rw [trTo, trLine_len, trTo_len ls cs i]
/-- Counts stay between 0 and what they were. -/
def CntB (M : Int) (n : Nat) (l : List Int) : Prop := ∀ j, j < n → 0 ≤ l.getD j 0 ∧ l.getD j 0 ≤ M
theorem trStep_bd {M : Int} {n i k : Nat} {z : Int} {p : List Int × List (Nat × Nat)} (h : CntB M n p.1) (hl : p.1.length = n) : CntB M n (trStep i k z p).1 := fun j hj => by
  unfold trStep
  split
  · exact h j hj
  · rename_i hz
    by_cases hzn : z.toNat < p.1.length
    · simp only
      rw [getD_set hzn]
      split
      · have := h z.toNat (by omega); omega
      · exact h j hj
    · simp only
      rw [List.set_eq_of_length_le (by omega)]
      exact h j hj
theorem trLine_bd {M : Int} {n i : Nat} {zs : List Int} {p : List Int × List (Nat × Nat)} (h : CntB M n p.1) (hl : p.1.length = n) : ∀ k, CntB M n (trLine i zs p k).1
  | 0 => h
  | k + 1 => trStep_bd (trLine_bd h hl k) (by rw [trLine_len]; exact hl)
theorem trTo_bd {M : Int} {n : Nat} {ls : List LN} {cs : List Int} (h : CntB M n cs) (hl : cs.length = n) : ∀ i, CntB M n (trTo ls cs i).1
  | 0 => h
  | i + 1 => trLine_bd (trTo_bd h hl i) (by rw [trTo_len]; exact hl) _
theorem trStep_few (i k : Nat) (z : Int) (p : List Int × List (Nat × Nat)) : (trStep i k z p).2.length ≤ p.2.length + 1 := by
  unfold trStep; split
  · simp
  · simp
theorem trLine_few (i : Nat) (zs : List Int) (p : List Int × List (Nat × Nat)) : ∀ k, (trLine i zs p k).2.length ≤ p.2.length + k
  | 0 => Nat.le_refl _
  | k + 1 => by have h1 := trStep_few i k (zs.getD k 0) (trLine i zs p k); have h2 := trLine_few i zs p k; rw [trLine]; omega
theorem trTo_few {ls : List LN} {cs : List Int} {N : Nat} (h : ∀ k, k < ls.length → (lineZ ls k).length ≤ N) : ∀ i, i ≤ ls.length → (trTo ls cs i).2.length ≤ i * N
  | 0, _ => by simp [trTo]
  | i + 1, hi => by
    have h1 := trLine_few i (lineZ ls i) (trTo ls cs i) (lineZ ls i).length
    have h2 := trTo_few (cs := cs) h i (by omega)
    have h3 := h i (by omega)
    rw [trTo, Nat.succ_mul]; omega
/-- The places where sorts lack, or the error. -/
def turnE (f : FT) (cs : List Int) (ls : List LN) : Int := if caseErr f cs ≠ 0 then caseErr f cs else linesE f ls
def turnL (f : FT) (cs : List Int) (ls : List LN) : List (Nat × Nat) := if turnE f cs ls ≠ 0 then [] else (trTo ls cs ls.length).2

/-- Pairs of numbers in memory. -/
def prCells : List (Nat × Nat) → List Value
  | [] => []
  | p :: r => .int .i64 (p.1 : Int) :: .int .i64 (p.2 : Int) :: prCells r
theorem prCells_len : ∀ ps : List (Nat × Nat), (prCells ps).length = ps.length * 2
  | [] => rfl
  | p :: r => by simp [prCells, prCells_len r]; omega
theorem prCells_at : ∀ (ps : List (Nat × Nat)) (k : Nat), k < ps.length → (prCells ps)[k * 2]? = some (.int .i64 ((ps.getD k (0, 0)).1 : Int)) ∧ (prCells ps)[k * 2 + 1]? = some (.int .i64 ((ps.getD k (0, 0)).2 : Int))
  | p :: r, 0, _ => ⟨rfl, rfl⟩
  | p :: r, k + 1, h => by
    obtain ⟨h0, h1⟩ := prCells_at r k (by simpa using h)
    rw [show (k + 1) * 2 = k * 2 + 2 by omega]
    exact ⟨h0, h1⟩
theorem prCells_one : ∀ (ps : List (Nat × Nat)), ∀ u ∈ prCells ps, u.oneCell' = true
  | [], u, hu => by cases hu
  | p :: r, u, hu => by
    simp only [prCells, List.mem_cons] at hu
    rcases hu with rfl | rfl | h
    · rfl
    · rfl
    · exact prCells_one r u h
theorem prCells_app : ∀ (ps qs : List (Nat × Nat)), prCells (ps ++ qs) = prCells ps ++ prCells qs
  | [], _ => rfl
  | p :: r, qs => by simp [prCells, prCells_app r qs]
def OwnP (w : World) (base : Nat) (v : Value) (ps : List (Nat × Nat)) : Prop := w.ownsRow base 66 2 v ps.length (prCells ps)
def RPR (w : World) (A : Option Addr) (ps : List (Nat × Nat)) : Prop := 0 < ps.length → ∃ b, A = some ⟨b, 0, none⟩ ∧ b < w.heap.size ∧ ∀ k, k < ps.length → w.cell? ⟨b, k * 2, none⟩ = some (.int .i64 ((ps.getD k (0, 0)).1 : Int)) ∧ w.cell? ⟨b, k * 2 + 1, none⟩ = some (.int .i64 ((ps.getD k (0, 0)).2 : Int))
theorem RPR.ext {w w' : World} {A : Option Addr} {ps : List (Nat × Nat)} (h : RPR w A ps) (hx : Ext w w') : RPR w' A ps := fun hn => by
  obtain ⟨b, ha, hb, hc⟩ := h hn
  refine ⟨b, ha, Nat.lt_of_lt_of_le hb hx.size, fun k hk => ?_⟩
  rw [hx.cell (p := ⟨b, _, none⟩) hb, hx.cell (p := ⟨b, _, none⟩) hb]
  exact hc k hk
theorem OwnP.nil (w : World) (base : Nat) : OwnP w base (.slice none 0 0) [] := World.ownsRow_nil _ _ _ _
theorem OwnP.form {w : World} {base : Nat} {v : Value} {ps : List (Nat × Nat)} (h : OwnP w base v ps) (_hz : ps.length ≤ 10000000) : ∃ A c, v = .slice A ps.length c ∧ ps.length ≤ c ∧ c ≤ maxLen ∧ RPR w A ps := by
  rcases h.2 with ⟨h1, h2⟩ | ⟨g, cap, cur, hv, hg, hh, hnc, hcm, hcs, htk⟩
  · exact ⟨none, 0, by rw [h1, h2], by omega, by unfold maxLen; omega, fun h => absurd h (by omega)⟩
  · refine ⟨some ⟨g, 0, none⟩, cap, hv, hnc, hcm, fun _ => ⟨g, rfl, ?_, fun k hk => ?_⟩⟩
    · exact (Blk.lt (show Blk w g 66 cur from hh))
    · have hb : Blk w g 66 cur := hh
      have key : ∀ j u, (prCells ps)[j]? = some u → w.cell? ⟨g, j, none⟩ = some u := fun j u hj => by
        have hjl : j < ps.length * 2 := by
          rcases Nat.lt_or_ge j (ps.length * 2) with h | h
          · exact h
          · rw [List.getElem?_eq_none (by rw [prCells_len]; exact h)] at hj; cases hj
        refine hb.cell j u ?_
        have : (cur.toList.take (ps.length * 2))[j]? = (prCells ps)[j]? := by rw [htk]
        rw [List.getElem?_take_of_lt hjl, Array.getElem?_toList] at this
        rw [this, hj]
      obtain ⟨s0, s1⟩ := prCells_at ps k hk
      exact ⟨key _ _ s0, key _ _ s1⟩
theorem prInfo : (Tryz.prog.info? 66).map (fun i => (i.zero, i.size, i.bytes)) = some (some (.agg #[.int .i64 0, .int .i64 0]), 2, 16) := by kernel_rfl
theorem OwnP.ext {w w' : World} {base : Nat} {v : Value} {ps : List (Nat × Nat)} (h : OwnP w base v ps) (hx : Ext w w') : OwnP w' base v ps := by
  refine World.ownsRow.kept (row := none) h ⟨hx.os, hx.tape, hx.output, hx.size, fun k hk _ => hx.block hk⟩ ?_
  cases hv : v.ownBlock with
  | none => exact .inl rfl
  | some g => exact .inr (by simp)
theorem run_pushP {w : World} {base : Nat} {v : Value} {ps : List (Nat × Nat)} {g0 i k : Nat} (hown : OwnP w base v ps) (hb0 : w.cell? ⟨g0, 0, none⟩ = some (.int .i64 (i : Int))) (hb1 : w.cell? ⟨g0, 1, none⟩ = some (.int .i64 (k : Int))) (hlen : ps.length ≤ 10000000) (hbase : base ≤ w.heap.size) (ty : TypeId) :
    ∃ v' w', (Builtin.append_ #[39, 39] ty #[v, .slice (some ⟨g0, 0, none⟩) 1 1]).run Tryz.prog w = .ok v' w' ∧ OwnP w' base v' (ps ++ [(i, k)]) ∧ w.grownBy w' v.ownBlock := by
  obtain ⟨i0, hi, hz0, hz1, hz2⟩ := info_parts prInfo
  obtain ⟨g, cap, w', hr, h2, h3, _⟩ := run_append_lies (P := Tryz.prog) w 39 ty base 66 i0 (.agg #[.int .i64 0, .int .i64 0]) 2 16 Tryz.underlying39 hi hz0 hz1 hz2 rfl (by decide) v ps.length _ hown ⟨g0, 0, none⟩ 1 1 [.int .i64 (i : Int), .int .i64 (k : Int)] rfl
    (fun j u hj => by
      match j, hj with
      | 0, hj => simp at hj; subst hj; simpa [Addr.add] using hb0
      | 1, hj => simp at hj; subst hj; simpa [Addr.add] using hb1)
    (fun u hu => by
      simp at hu
      rcases hu with rfl | rfl
      · rfl
      · rfl) (by decide) (by unfold maxLen; omega) (by omega) hbase _ rfl
  exact ⟨_, w', hr, by unfold OwnP; rw [prCells_app]; simpa [prCells] using h2, h3⟩
theorem list_pushP {w : World} {ops : Array Oper} {rest : List Oper} {o : Oper} {a : Act} {Q : Exit → Act → World → Prop} (hgd : o.guard = none) (s x : Operand) (ho : o.op = .call { callee := .builtin .append, args := #[s, x], argTypes := #[39, 39] })
    (base : Nat) (v : Value) (ps : List (Nat × Nat)) (hs : a.eval s = v) (hown : OwnP w base v ps) (g0 i k : Nat) (hx : a.eval x = .slice (some ⟨g0, 0, none⟩) 1 1) (hb0 : w.cell? ⟨g0, 0, none⟩ = some (.int .i64 (i : Int))) (hb1 : w.cell? ⟨g0, 1, none⟩ = some (.int .i64 (k : Int))) (hlen : ps.length ≤ 10000000) (hbase : base ≤ w.heap.size)
    (h : ∀ v' w', OwnP w' base v' (ps ++ [(i, k)]) → w.grownBy w' v.ownBlock → wpList Tryz.prog ops Q rest (a.put o.dst v') w') : wpList Tryz.prog ops Q (o :: rest) a w := by
  refine wpList_plain hgd fun K hK => ?_
  obtain ⟨v', w', hr', h2, h3⟩ := run_pushP hown hb0 hb1 hlen hbase o.type
  unfold Oper.wp execOp
  simp only [ho, resolve, invoke, builtin, Sem.run_bind, Sem.run_pure, Result.andThen_ok, List.map_toArray, List.map_cons, List.map_nil, hs, hx, hr']
  exact hK _ _ (h v' w' h2 h3)
end Go.Proofs.YtfbdklminljecaaGreatDoor
namespace Go.Proofs.YtfbdklminljecaaGreatDoor
open Go.RowKit

def sortsE (f : FT) (rows : List SI) : Int := firstE (fun k => listChk f (rows.getD k SI.none_).zs) rows.length
theorem sortsE_one (f : FT) (r : SI) : sortsE f [r] = listChk f r.zs := by unfold sortsE; simp [firstE]
set_option maxHeartbeats 2000000 in
theorem sortsErr_any (f : FT) (A : Option Addr) (c : Nat) (B : Option Addr) (n d : Nat) (rows : List SI) (w : World) (hf : FR w A c f) (h : RL w B n rows) :
    Calls Tryz.prog 44 #[f.val A c, .slice B n d] w (Ret (.int .i64 (sortsE f rows)) w) := by
  have hbig := h.2.1
  have hln := h.1
  have cC := fun X e zs W h1 h2 => needOf_any f A c X e zs W h1 h2
  have HE : Hid (sortsE f rows = firstE (fun k => listChk f (rows.getD k SI.none_).zs) n) := Lib.hid (by unfold sortsE; rw [hln])
  have HF := Lib.hid hf; have HR := Lib.hid h; clear hf h hln
  have HZ : Hid ((∀ k, k < n → listChk f (rows.getD k SI.none_).zs = 0) → sortsE f rows = 0) := Lib.hid fun h => by rw [HE.out]; exact firstE_none h
  have HH : Hid (∀ k, (∀ j, j < k → listChk f (rows.getD j SI.none_).zs = 0) → k < n → listChk f (rows.getD k SI.none_).zs ≠ 0 → sortsE f rows = listChk f (rows.getD k SI.none_).zs) := Lib.hid fun k h0 hk hb => by rw [HE.out]; exact firstE_hit (g := fun k => listChk f (rows.getD k SI.none_).zs) h0 hb hk
  clear HE
  have HN2 : Hid (∀ zs, (needR f zs).2 = listChk f zs) := Lib.hid fun zs => by
    unfold needR; split
    · rfl
    · rename_i h1; simp only; simpa using Eq.symm (Decidable.not_not.1 h1)
  generalize sortsE f rows = R at *
  obtain ⟨name, body, ss⟩ := f
  simp only [FT.val] at *
  have CC := Lib.hid cC; clear cC
  go_enter Tryz.func44, Tryz.ntmps44
  go_wp2
  have F1 := Blk.new w 24 #[.string name, .int .i64 body, .slice A ss.length c]
  go_loopw [6, 7, 8, 11] (fun _ _ _ i wr => ∃ k : Nat, k ≤ n ∧ i = .int .i64 k ∧ Hid (∀ j, j < k → listChk ⟨name, body, ss⟩ (rows.getD j SI.none_).zs = 0) ∧ Ext w wr ∧ Blk wr w.heap.size 24 #[.string name, .int .i64 body, .slice A ss.length c]) (fun _ _ _ i _ => n - (intOf i).toNat)
  case atStart => exact ⟨0, Nat.zero_le _, rfl, Lib.hid (fun j hj => absurd hj (by omega)), (by repeat (first | exact Ext.refl _ | assumption | refine Ext.alloc ?_ _ | refine Ext.drew ?_ | refine Ext.drewN ?_ _ | (refine Ext.setCell ?_ (by simp <;> omega) _) | refine Ext.trans ?_ (by assumption))), F1⟩
  case round =>
    obtain ⟨k, hk, rfl, H0, hx, hB⟩ := hrel
    obtain ⟨f0, f1, f2, fl⟩ := hB.c3
    have HX := Lib.hid hx; have HBB := Lib.hid hB
    clear F1
    by_cases hlt : k < n
    · obtain ⟨b, off, rfl, hbw, hcell⟩ := (HR.out.ext hx).2.2.1 (by omega)
      have hrow := (HR.out.ext hx).2.2.2 k hlt
      have c1 := hcell k hlt
      have HB1 := Lib.hid (HH.out k H0.out hlt)
      have HS1 : Hid (listChk ⟨name, body, ss⟩ (rows.getD k SI.none_).zs = 0 → ∀ j, j < k + 1 → listChk ⟨name, body, ss⟩ (rows.getD j SI.none_).zs = 0) := Lib.hid fun hz j hj => by
        rcases Nat.lt_or_ge j k with h9 | h9
        · exact H0.out j h9
        · obtain rfl : j = k := by omega
          exact hz
      have cc := fun W h1 h2 => CC.out (rows.getD k SI.none_).A (rows.getD k SI.none_).c (rows.getD k SI.none_).zs W h1 h2
      have HE2 := Lib.hid (HN2.out (rows.getD k SI.none_).zs)
      clear hx hB hcell
      have hki : (k : Int) < (n : Int) := by omega
      generalize rows.getD k SI.none_ = r at *
      obtain ⟨X, e, zs⟩ := r
      simp only [SI.val] at *
      generalize listChk ⟨name, body, ss⟩ zs = y at *
      generalize (needR ⟨name, body, ss⟩ zs).1 = nz at *
      generalize (needR ⟨name, body, ss⟩ zs).2 = y2 at *
      have hy2 := HE2.out; subst hy2; clear HE2
      have C1 := Lib.hid cc; clear cc
      have HRW := Lib.hid hrow; clear hrow
      by_cases hy : y2 = 0
      · have HS2 := Lib.hid (HS1.out hy); clear HS1
        subst hy
        go_wp2_with (first | (go_at_call 63; refine Calls.mono (C1.out _ ?_ ?_) ?_; (exact HF.out.ext (HX.out.trans (by repeat (first | exact Ext.refl _ | assumption | refine Ext.alloc ?_ _ | refine Ext.drew ?_ | refine Ext.drewN ?_ _ | (refine Ext.setCell ?_ (by simp <;> omega) _) | refine Ext.trans ?_ (by assumption))))); (exact HRW.out.ext (by repeat (first | exact Ext.refl _ | assumption | refine Ext.alloc ?_ _ | refine Ext.drew ?_ | refine Ext.drewN ?_ _ | (refine Ext.setCell ?_ (by simp <;> omega) _) | refine Ext.trans ?_ (by assumption)))); rintro e w2 ⟨Z, cz, rfl, hS2, hb2⟩; clear hS2))
        go_roundw
        case rel => exact ⟨k + 1, by omega, by go_num, Lib.hid HS2.out, HX.out.trans hb2, HBB.out.ext hb2⟩
        case measure => simp [intOf]; omega
      · have e0 : (y2 != 0) = true := by simpa using hy
        have HY := Lib.hid hy; clear hy
        go_wp2_with (first | (go_at_call 63; refine Calls.mono (C1.out _ ?_ ?_) ?_; (exact HF.out.ext (HX.out.trans (by repeat (first | exact Ext.refl _ | assumption | refine Ext.alloc ?_ _ | refine Ext.drew ?_ | refine Ext.drewN ?_ _ | (refine Ext.setCell ?_ (by simp <;> omega) _) | refine Ext.trans ?_ (by assumption))))); (exact HRW.out.ext (by repeat (first | exact Ext.refl _ | assumption | refine Ext.alloc ?_ _ | refine Ext.drew ?_ | refine Ext.drewN ?_ _ | (refine Ext.setCell ?_ (by simp <;> omega) _) | refine Ext.trans ?_ (by assumption)))); rintro e w2 ⟨Z, cz, rfl, hS2, hb2⟩; clear hS2))
        go_ret
        exact Ret.mk' (by rw [HB1.out HY.out]; rfl) (HX.out.trans hb2)
    · obtain rfl : k = n := by omega
      clear hx hB
      go_wp2
      go_ret
      exact Ret.mk' (by rw [HZ.out H0.out]; rfl) HX.out

set_option maxHeartbeats 2000000 in
theorem linesErr_any (f : FT) (A : Option Addr) (c : Nat) (B : Option Addr) (n d : Nat) (ls : List LN) (w : World) (hf : FR w A c f) (h : RLN w B n ls) :
    Calls Tryz.prog 20 #[f.val A c, .slice B n d] w (Ret (.int .i64 (linesE f ls)) w) := by
  have hbig := h.2.1
  have hln := h.1
  by_cases hmany : 100 < n
  case pos =>
    have hv : Hid (linesE f ls = 8) := Lib.hid (by unfold linesE; rw [if_pos (by omega)])
    have i1 : (100 : Int) < (n : Int) := by omega
    clear h hf hln
    generalize linesE f ls = R at *
    obtain ⟨name, body, ss⟩ := f
    simp only [FT.val] at *
    go_enter Tryz.func20, Tryz.ntmps20
    go_wp2
    go_ret
    exact Ret.mk' (by rw [hv.out]; rfl) (by repeat (first | exact Ext.refl _ | assumption | refine Ext.alloc ?_ _ | refine Ext.drew ?_ | refine Ext.drewN ?_ _ | (refine Ext.setCell ?_ (by simp <;> omega) _) | refine Ext.trans ?_ (by assumption)))
  case neg =>
  have i1 : ¬ (100 : Int) < (n : Int) := by omega
  have HE : Hid (linesE f ls = firstE (fun k => listChk f (ls.getD k LN.zero).s.zs) n) := Lib.hid (by unfold linesE; rw [if_neg (by omega), hln])
  have cC := fun X W g h1 (h2 : RL W (some ⟨g, 0, none⟩) 1 [X]) => sortsErr_any f A c (some ⟨g, 0, none⟩) 1 1 [X] W h1 h2
  have HF := Lib.hid hf; have HR := Lib.hid h; clear hf h hln hmany
  have HZ : Hid ((∀ k, k < n → listChk f (ls.getD k LN.zero).s.zs = 0) → linesE f ls = 0) := Lib.hid fun h => by rw [HE.out]; exact firstE_none h
  have HH : Hid (∀ k, (∀ j, j < k → listChk f (ls.getD j LN.zero).s.zs = 0) → k < n → listChk f (ls.getD k LN.zero).s.zs ≠ 0 → linesE f ls = listChk f (ls.getD k LN.zero).s.zs) := Lib.hid fun k h0 hk hb => by rw [HE.out]; exact firstE_hit (g := fun k => listChk f (ls.getD k LN.zero).s.zs) h0 hb hk
  clear HE
  generalize linesE f ls = R at *
  obtain ⟨name, body, ss⟩ := f
  simp only [FT.val, sortsE_one] at *
  have CC := Lib.hid cC; clear cC
  go_enter Tryz.func20, Tryz.ntmps20
  go_wp2
  have F1 := Blk.new w 24 #[.string name, .int .i64 body, .slice A ss.length c]
  go_loopw [6, 7, 13] (fun _ _ i wr => ∃ k : Nat, k ≤ n ∧ i = .int .i64 k ∧ Hid (∀ j, j < k → listChk ⟨name, body, ss⟩ (ls.getD j LN.zero).s.zs = 0) ∧ Ext w wr ∧ Blk wr w.heap.size 24 #[.string name, .int .i64 body, .slice A ss.length c]) (fun _ _ i _ => n - (intOf i).toNat)
  case atStart => exact ⟨0, Nat.zero_le _, rfl, Lib.hid (fun j hj => absurd hj (by omega)), (by repeat (first | exact Ext.refl _ | assumption | refine Ext.alloc ?_ _ | refine Ext.drew ?_ | refine Ext.drewN ?_ _ | (refine Ext.setCell ?_ (by simp <;> omega) _) | refine Ext.trans ?_ (by assumption))), F1⟩
  case round =>
    obtain ⟨k, hk, rfl, H0, hx, hB⟩ := hrel
    obtain ⟨f0, f1, f2, fl⟩ := hB.c3
    have HX := Lib.hid hx; have HBB := Lib.hid hB
    clear F1
    by_cases hlt : k < n
    · obtain ⟨b, off, rfl, hbw, hcell⟩ := (HR.out.ext hx).2.2.1 (by omega)
      have hrow := (HR.out.ext hx).2.2.2 k hlt
      obtain ⟨c0, c1⟩ := hcell k hlt
      have HB1 := Lib.hid (HH.out k H0.out hlt)
      have HS1 : Hid (listChk ⟨name, body, ss⟩ (ls.getD k LN.zero).s.zs = 0 → ∀ j, j < k + 1 → listChk ⟨name, body, ss⟩ (ls.getD j LN.zero).s.zs = 0) := Lib.hid fun hz j hj => by
        rcases Nat.lt_or_ge j k with h9 | h9
        · exact H0.out j h9
        · obtain rfl : j = k := by omega
          exact hz
      have cc := fun W g h1 h2 => CC.out (ls.getD k LN.zero).s W g h1 h2
      clear hx hB hcell
      have hki : (k : Int) < (n : Int) := by omega
      generalize ls.getD k LN.zero = r at *
      obtain ⟨mm, X, e, zs⟩ := r
      simp only [SI.val] at *
      generalize listChk ⟨name, body, ss⟩ zs = y at *
      have C1 := Lib.hid cc; clear cc
      have HRW := Lib.hid hrow; clear hrow
      by_cases hy : y = 0
      · have HS2 := Lib.hid (HS1.out hy); clear HS1
        subst hy
        go_wp2_with (first | (go_at_call 44; refine Calls.mono (C1.out _ _ ?_ ?_) ?_; (exact HF.out.ext (HX.out.trans (by repeat (first | exact Ext.refl _ | assumption | refine Ext.alloc ?_ _ | refine Ext.drew ?_ | refine Ext.drewN ?_ _ | (refine Ext.setCell ?_ (by simp <;> omega) _) | refine Ext.trans ?_ (by assumption))))); (exact RL.one (Blk.new1 _ _ _ _) (HRW.out.ext (by repeat (first | exact Ext.refl _ | assumption | refine Ext.alloc ?_ _ | refine Ext.drew ?_ | refine Ext.drewN ?_ _ | (refine Ext.setCell ?_ (by simp <;> omega) _) | refine Ext.trans ?_ (by assumption))))); rintro e w2 ⟨rfl, hb2⟩))
        go_roundw
        case rel => exact ⟨k + 1, by omega, by go_num, Lib.hid HS2.out, HX.out.trans (Ext.trans (by repeat (first | exact Ext.refl _ | assumption | refine Ext.alloc ?_ _ | refine Ext.drew ?_ | refine Ext.drewN ?_ _ | (refine Ext.setCell ?_ (by simp <;> omega) _) | refine Ext.trans ?_ (by assumption))) hb2), HBB.out.ext (Ext.trans (by repeat (first | exact Ext.refl _ | assumption | refine Ext.alloc ?_ _ | refine Ext.drew ?_ | refine Ext.drewN ?_ _ | (refine Ext.setCell ?_ (by simp <;> omega) _) | refine Ext.trans ?_ (by assumption))) hb2)⟩
        case measure => simp [intOf]; omega
      · have e0 : (y != 0) = true := by simpa using hy
        have HY := Lib.hid hy; clear hy
        go_wp2_with (first | (go_at_call 44; refine Calls.mono (C1.out _ _ ?_ ?_) ?_; (exact HF.out.ext (HX.out.trans (by repeat (first | exact Ext.refl _ | assumption | refine Ext.alloc ?_ _ | refine Ext.drew ?_ | refine Ext.drewN ?_ _ | (refine Ext.setCell ?_ (by simp <;> omega) _) | refine Ext.trans ?_ (by assumption))))); (exact RL.one (Blk.new1 _ _ _ _) (HRW.out.ext (by repeat (first | exact Ext.refl _ | assumption | refine Ext.alloc ?_ _ | refine Ext.drew ?_ | refine Ext.drewN ?_ _ | (refine Ext.setCell ?_ (by simp <;> omega) _) | refine Ext.trans ?_ (by assumption))))); rintro e w2 ⟨rfl, hb2⟩))
        go_ret
        exact Ret.mk' (by rw [HB1.out HY.out]; rfl) (HX.out.trans (Ext.trans (by repeat (first | exact Ext.refl _ | assumption | refine Ext.alloc ?_ _ | refine Ext.drew ?_ | refine Ext.drewN ?_ _ | (refine Ext.setCell ?_ (by simp <;> omega) _) | refine Ext.trans ?_ (by assumption))) hb2))
    · obtain rfl : k = n := by omega
      clear hx hB
      go_wp2
      go_ret
      exact Ret.mk' (by rw [HZ.out H0.out]; rfl) HX.out
end Go.Proofs.YtfbdklminljecaaGreatDoor
namespace Go.Proofs.YtfbdklminljecaaGreatDoor
open Go.RowKit

theorem OwnP.blk {w : World} {base : Nat} {v : Value} {ps : List (Nat × Nat)} (h : OwnP w base v ps) {k : Nat} (hk : v.ownBlock = some k) : ∃ cs, Blk w k 66 cs := by
  rcases h.2 with ⟨h1, h2⟩ | ⟨g, cap, cur, hv, hg, hh, hnc, hcm, hcs, htk⟩
  · rw [h1] at hk; cases hk
  · rw [hv] at hk
    cases hk
    exact ⟨cur, hh⟩
theorem Own.blk {w : World} {base : Nat} {v : Value} {zs : List Int} (h : Own w base v zs) {k : Nat} (hk : v.ownBlock = some k) : ∃ cs, Blk w k 3 cs := by
  rcases h.2 with ⟨h1, h2⟩ | ⟨g, cap, cur, hv, hg, hh, hnc, hcm, hcs, htk⟩
  · rw [h1] at hk; cases hk
  · rw [hv] at hk
    cases hk
    exact ⟨cur, hh⟩
theorem own_neP {w : World} {b1 b2 : Nat} {v u : Value} {zs : List Int} {ps : List (Nat × Nat)} (h : Own w b1 v zs) (k : OwnP w b2 u ps) {i j : Nat} (hi : v.ownBlock = some i) (hj : u.ownBlock = some j) : i ≠ j := by
  obtain ⟨cs, h1⟩ := h.blk hi
  obtain ⟨ds, h2⟩ := k.blk hj
  exact h1.ne h2 (by decide)
theorem OwnP.block {a b : World} {base : Nat} {v : Value} {ps : List (Nat × Nat)} (h : OwnP a base v ps) (hk : ∀ g, v.ownBlock = some g → b.heap[g]? = a.heap[g]?) : OwnP b base v ps := by
  refine ⟨h.1, ?_⟩
  rcases h.2 with h1 | ⟨g, cap, cur, hv, hg, hh, hr⟩
  · exact .inl h1
  · exact .inr ⟨g, cap, cur, hv, hg, (hk g (by rw [hv]; rfl)).trans hh, hr⟩
theorem Own.low {w : World} {base base' : Nat} {v : Value} {zs : List Int} (h : Own w base v zs) (hb : base' ≤ base) : Own w base' v zs := by
  refine ⟨h.1, ?_⟩
  rcases h.2 with h1 | ⟨g, cap, cur, hv, hg, hr⟩
  · exact .inl h1
  · exact .inr ⟨g, cap, cur, hv, by omega, hr⟩
theorem trStep_zero {i k : Nat} {z : Int} {p : List Int × List (Nat × Nat)} (h : p.1.getD z.toNat 0 = 0) : trStep i k z p = (p.1, p.2 ++ [(i, k)]) := by unfold trStep; rw [if_pos h]
theorem trStep_more {i k : Nat} {z : Int} {p : List Int × List (Nat × Nat)} (h : p.1.getD z.toNat 0 ≠ 0) : trStep i k z p = (p.1.set z.toNat (p.1.getD z.toNat 0 - 1), p.2) := by unfold trStep; rw [if_neg h]
/-- What Turned's loops keep: what is left, and the places where sorts lack. -/
structure TuS (w : World) (g m cap : Nat) (v : Value) (p : List Int × List (Nat × Nat)) (W : World) : Prop where
  ext : Ext w W
  left : Own W w.heap.size (.slice (some ⟨g, 0, none⟩) m cap) p.1
  out : OwnP W w.heap.size v p.2
section
variable {w W W' : World} {g m cap : Nat} {v : Value} {p : List Int × List (Nat × Nat)}
theorem TuS.next (h : TuS w g m cap v p W) (hx : Ext W W') : TuS w g m cap v p W' := ⟨h.ext.trans hx, h.left.ext hx, h.out.ext hx⟩
theorem TuS.put (h : TuS w g m cap v p W) (i : Nat) (z : Int) : TuS w g m cap v (p.1.set i z, p.2) (W.setCell ⟨g, i, none⟩ (.int .i64 z)) := by
  refine ⟨h.ext.setCell (p := ⟨g, i, none⟩) (h.left.base_le g rfl) _, h.left.set i z, h.out.block fun k hk => ?_⟩
  exact Below.heap_setCell _ _ _ _ (fun e => own_neP h.left h.out rfl hk e.symm)
theorem TuS.push (h : TuS w g m cap v p W) (hx : Ext W W') {W2 : World} {v' : Value} {q : Nat × Nat} (hg : W'.grownBy W2 v.ownBlock) (ho : OwnP W2 w.heap.size v' (p.2 ++ [q])) : TuS w g m cap v' (p.1, p.2 ++ [q]) W2 := by
  have h1 := h.next hx
  exact ⟨h1.ext.grown hg fun k hk => (World.ownsRow.lt h1.out k hk).1, h1.left.other hg fun i hi e => own_neP h1.left h1.out hi (e.symm) rfl, ho⟩
end
/-- Pairs and an error. -/
def RetP (ps : List (Nat × Nat)) (z : Int) (w : World) (e : Ending) (w' : World) : Prop := ∃ P c, e = .returned (.tuple #[.slice P ps.length c, .int .i64 z]) ∧ RPR w' P ps ∧ Ext w w'
theorem RetP.none_ {z : Int} {w w' : World} (h : Ext w w') : RetP [] z w (.returned (.tuple #[.slice none 0 0, .int .i64 z])) w' := ⟨none, 0, rfl, fun h => absurd h (by simp), h⟩
theorem clone_any (X : Option Addr) (c : Nat) (cs : List Int) (w : World) (h : RI w X cs.length cs) (h1 : 1 ≤ cs.length) (h2 : cs.length ≤ 1000000) :
    Calls Tryz.prog 25 #[.slice X cs.length c] w fun e w' => ∃ g cap, e = .returned (.slice (some ⟨g, 0, none⟩) cs.length cap) ∧ Own w' w.heap.size (.slice (some ⟨g, 0, none⟩) cs.length cap) cs ∧ Ext w w' := by
  obtain ⟨b, off, rfl, hb, hc⟩ := h.2.2 (by omega)
  refine (Tryz.slices_Clone_int b off cs.length c cs w (Nat.le_refl _) (by omega) hc).mono fun e w' ⟨v', he, ho, _, hx⟩ => ?_
  rw [List.take_length] at ho
  have ho' : Own w' w.heap.size v' cs := ho
  obtain ⟨g, cap, hv, _⟩ := World.ownsRow.form ho (by omega)
  subst hv
  exact ⟨g, cap, he, ho', hx⟩
set_option maxRecDepth 100000 in
set_option maxHeartbeats 4000000 in
theorem turned_any (f : FT) (A : Option Addr) (c : Nat) (X : Option Addr) (cx : Nat) (cs : List Int) (B : Option Addr) (d : Nat) (ls : List LN) (w : World) (hf : FR w A c f) (hx : RI w X cs.length cs) (h : RLN w B ls.length ls) :
    Calls Tryz.prog 10 #[f.val A c, .slice X cs.length cx, .slice B ls.length d] w (RetP (turnL f cs ls) (turnE f cs ls) w) := by
  have cC := fun W h h' => checkCase_any f A c X cx cs W h h'
  have cL := fun W h h' => linesErr_any f A c B ls.length d ls W h h'
  have HF := Lib.hid hf; have HX := Lib.hid hx; have HR := Lib.hid h; clear hf hx h
  by_cases h1 : caseErr f cs = 0
  case neg =>
    have hE : turnE f cs ls = caseErr f cs := by unfold turnE; rw [if_pos h1]
    have hL : turnL f cs ls = [] := by unfold turnL; rw [if_pos (by rw [hE]; exact h1)]
    rw [hE, hL]
    have e0 : (caseErr f cs != 0) = true := by simpa using h1
    generalize caseErr f cs = z at *
    obtain ⟨name, body, ss⟩ := f
    simp only [FT.val] at *
    have CC := Lib.hid cC; clear cC cL h1 hE hL
    go_enter Tryz.func10, Tryz.ntmps10
    go_wp2_with (first | (go_at_call 24; refine Calls.mono (CC.out _ ?_ ?_) ?_; (exact HF.out.ext (by repeat (first | exact Ext.refl _ | assumption | refine Ext.alloc ?_ _ | refine Ext.drew ?_ | refine Ext.drewN ?_ _ | (refine Ext.setCell ?_ (by simp <;> omega) _) | refine Ext.trans ?_ (by assumption)))); (exact HX.out.ext (by repeat (first | exact Ext.refl _ | assumption | refine Ext.alloc ?_ _ | refine Ext.drew ?_ | refine Ext.drewN ?_ _ | (refine Ext.setCell ?_ (by simp <;> omega) _) | refine Ext.trans ?_ (by assumption)))); rintro e w1 ⟨rfl, hb⟩))
    go_ret2
    exact RetP.none_ (Ext.trans (by repeat (first | exact Ext.refl _ | assumption | refine Ext.alloc ?_ _ | refine Ext.drew ?_ | refine Ext.drewN ?_ _ | (refine Ext.setCell ?_ (by simp <;> omega) _) | refine Ext.trans ?_ (by assumption))) hb)
  case pos =>
  rw [h1] at cC
  by_cases h2 : linesE f ls = 0
  case neg =>
    have hE : turnE f cs ls = linesE f ls := by unfold turnE; rw [if_neg (by simpa using h1)]
    have hL : turnL f cs ls = [] := by unfold turnL; rw [if_pos (by rw [hE]; exact h2)]
    rw [hE, hL]
    have e0 : (linesE f ls != 0) = true := by simpa using h2
    generalize linesE f ls = z at *
    obtain ⟨name, body, ss⟩ := f
    simp only [FT.val] at *
    have CC := Lib.hid cC; have CL := Lib.hid cL; clear cC cL h1 h2 hE hL
    go_enter Tryz.func10, Tryz.ntmps10
    go_wp2_with (first | (go_at_call 24; refine Calls.mono (CC.out _ ?_ ?_) ?_; (exact HF.out.ext (by repeat (first | exact Ext.refl _ | assumption | refine Ext.alloc ?_ _ | refine Ext.drew ?_ | refine Ext.drewN ?_ _ | (refine Ext.setCell ?_ (by simp <;> omega) _) | refine Ext.trans ?_ (by assumption)))); (exact HX.out.ext (by repeat (first | exact Ext.refl _ | assumption | refine Ext.alloc ?_ _ | refine Ext.drew ?_ | refine Ext.drewN ?_ _ | (refine Ext.setCell ?_ (by simp <;> omega) _) | refine Ext.trans ?_ (by assumption)))); rintro e w1 ⟨rfl, hb⟩; have HB1 := Lib.hid ((Blk.new w 24 #[.string name, .int .i64 body, .slice A ss.length c]).ext hb); have HE1 : Hid (Ext w w1) := Lib.hid (Ext.trans (by repeat (first | exact Ext.refl _ | assumption | refine Ext.alloc ?_ _ | refine Ext.drew ?_ | refine Ext.drewN ?_ _ | (refine Ext.setCell ?_ (by simp <;> omega) _) | refine Ext.trans ?_ (by assumption))) hb); obtain ⟨k0, k1, k2, kl⟩ := HB1.out.c3; clear hb) | (go_at_call 20; refine Calls.mono (CL.out _ ?_ ?_) ?_; (exact HF.out.ext (HE1.out.trans (by repeat (first | exact Ext.refl _ | assumption | refine Ext.alloc ?_ _ | refine Ext.drew ?_ | refine Ext.drewN ?_ _ | (refine Ext.setCell ?_ (by simp <;> omega) _) | refine Ext.trans ?_ (by assumption))))); (exact HR.out.ext (HE1.out.trans (by repeat (first | exact Ext.refl _ | assumption | refine Ext.alloc ?_ _ | refine Ext.drew ?_ | refine Ext.drewN ?_ _ | (refine Ext.setCell ?_ (by simp <;> omega) _) | refine Ext.trans ?_ (by assumption))))); rintro e w2 ⟨rfl, hb⟩))
    go_ret2
    exact RetP.none_ (HE1.out.trans hb)
  case pos =>
  rw [h2] at cL
  have hE : turnE f cs ls = 0 := by unfold turnE; rw [if_neg (by simpa using h1)]; exact h2
  have hL : turnL f cs ls = (trTo ls cs ls.length).2 := by unfold turnL; rw [if_neg (by simpa using hE)]
  rw [hE, hL]
  obtain ⟨hck, hco⟩ := case_zero h1
  obtain ⟨hcl, hcb⟩ := counts_zero hco
  obtain ⟨_, hs1, hs2, _⟩ := chk_zero hck
  obtain ⟨hl1, hl2⟩ := linesE_zero h2
  have HCB : Hid (CntB 1000000 cs.length cs) := Lib.hid fun j hj => hcb j hj
  have HG : Hid (∀ i, i < ls.length → (lineZ ls i).length ≤ 10000 ∧ ∀ k, k < (lineZ ls i).length → 0 ≤ (lineZ ls i).getD k 0 ∧ (lineZ ls i).getD k 0 < cs.length) := Lib.hid fun i hi => by
    obtain ⟨q1, q2⟩ := listErr_zero (listChk_zero (hl2 i hi)).2
    rw [hcl]; exact ⟨q1, q2⟩
  have hc1 : 1 ≤ cs.length := by omega
  have hc2 : cs.length ≤ 120 := by omega
  have CK := Lib.hid (fun W h => clone_any X cx cs W h hc1 (by omega))
  have HT0 : Hid (trTo ls cs 0 = (cs, [])) := Lib.hid rfl
  obtain ⟨name, body, ss⟩ := f
  simp only [FT.val] at *
  have CC := Lib.hid cC; have CL := Lib.hid cL; clear cC cL h1 h2 hE hL hck hco hcl hcb hl2 hs1 hs2
  go_enter Tryz.func10, Tryz.ntmps10
  go_wp2_with (first | (go_at_call 24; refine Calls.mono (CC.out _ ?_ ?_) ?_; (exact HF.out.ext (by repeat (first | exact Ext.refl _ | assumption | refine Ext.alloc ?_ _ | refine Ext.drew ?_ | refine Ext.drewN ?_ _ | (refine Ext.setCell ?_ (by simp <;> omega) _) | refine Ext.trans ?_ (by assumption)))); (exact HX.out.ext (by repeat (first | exact Ext.refl _ | assumption | refine Ext.alloc ?_ _ | refine Ext.drew ?_ | refine Ext.drewN ?_ _ | (refine Ext.setCell ?_ (by simp <;> omega) _) | refine Ext.trans ?_ (by assumption)))); rintro e w1 ⟨rfl, hb⟩; have HB1 := Lib.hid ((Blk.new w 24 #[.string name, .int .i64 body, .slice A ss.length c]).ext hb); have HE1 : Hid (Ext w w1) := Lib.hid (Ext.trans (by repeat (first | exact Ext.refl _ | assumption | refine Ext.alloc ?_ _ | refine Ext.drew ?_ | refine Ext.drewN ?_ _ | (refine Ext.setCell ?_ (by simp <;> omega) _) | refine Ext.trans ?_ (by assumption))) hb); obtain ⟨k0, k1, k2, kl⟩ := HB1.out.c3; clear hb) | (go_at_call 20; refine Calls.mono (CL.out _ ?_ ?_) ?_; (exact HF.out.ext (HE1.out.trans (by repeat (first | exact Ext.refl _ | assumption | refine Ext.alloc ?_ _ | refine Ext.drew ?_ | refine Ext.drewN ?_ _ | (refine Ext.setCell ?_ (by simp <;> omega) _) | refine Ext.trans ?_ (by assumption))))); (exact HR.out.ext (HE1.out.trans (by repeat (first | exact Ext.refl _ | assumption | refine Ext.alloc ?_ _ | refine Ext.drew ?_ | refine Ext.drewN ?_ _ | (refine Ext.setCell ?_ (by simp <;> omega) _) | refine Ext.trans ?_ (by assumption))))); rintro e w2 ⟨rfl, hb⟩; have HE2 : Hid (Ext w w2) := Lib.hid (HE1.out.trans hb); clear hb k0 k1 k2 kl) | (go_at_call 25; refine Calls.mono (CK.out _ ?_) ?_; (exact HX.out.ext (HE2.out.trans (by repeat (first | exact Ext.refl _ | assumption | refine Ext.alloc ?_ _ | refine Ext.drew ?_ | refine Ext.drewN ?_ _ | (refine Ext.setCell ?_ (by simp <;> omega) _) | refine Ext.trans ?_ (by assumption))))); rintro e w3 ⟨g, cap, rfl, ho, hb⟩; have HO3 := Lib.hid ho; have HE3 : Hid (Ext w w3) := Lib.hid (HE2.out.trans hb); clear ho hb))
  have HS0 : Hid (TuS w g cs.length cap (.slice none 0 0) (trTo ls cs 0) w3) := Lib.hid (by rw [HT0.out]; exact ⟨HE3.out, HO3.out.low HE2.out.size, OwnP.nil _ _⟩)
  go_loopw [11, 32] (fun v i wr => ∃ k : Nat, k ≤ ls.length ∧ i = .int .i64 (k : Int) ∧ Hid (TuS w g cs.length cap v (trTo ls cs k) wr)) (fun _ i _ => ls.length - (intOf i).toNat)
  case atStart => exact ⟨0, Nat.zero_le _, rfl, HS0⟩
  case round =>
    obtain ⟨k, hk, rfl, HS⟩ := hrel
    clear HS0 HO3 HE3
    have HFW := Lib.hid (trTo_few (ls := ls) (cs := cs) (N := 10000) (fun i hi => (HG.out i hi).1) k hk)
    by_cases hlt : k < ls.length
    case neg =>
      obtain rfl : k = ls.length := by omega
      have hS := HS.out
      have hfw := HFW.out
      obtain ⟨P, cP, rfl, hP1, hP2, hP3⟩ := hS.out.form (by omega)
      have HP := Lib.hid hP3; clear hP3 hP1 hP2 hS hfw
      generalize trTo ls cs ls.length = p at *
      go_wp2
      go_ret2
      exact ⟨P, cP, rfl, HP.out, HS.out.ext⟩
    case pos =>
      have hkl : (k : Int) < (ls.length : Int) := by omega
      have HT1 : Hid (trTo ls cs (k + 1) = trLine k (lineZ ls k) (trTo ls cs k) (lineZ ls k).length) := Lib.hid rfl
      have hG1 := HG.out k hlt
      have hCN := fun j => trLine_bd (i := k) (zs := lineZ ls k) (trTo_bd HCB.out rfl k) (trTo_len ls cs k) j
      have hLN : ∀ j, (trLine k (lineZ ls k) (trTo ls cs k) j).1.length = cs.length := fun j => by rw [trLine_len, trTo_len]
      have hFE : ∀ j, (trLine k (lineZ ls k) (trTo ls cs k) j).2.length ≤ 1000000 + j := fun j => by
        have h1 := trLine_few k (lineZ ls k) (trTo ls cs k) j
        have h2 := HFW.out
        have h3 : k * 10000 ≤ 1000000 := by omega
        omega
      obtain ⟨b, off, rfl, hbw, hcell⟩ := (HR.out.ext HS.out.ext).2.2.1 (by omega)
      have hrow := HR.out.2.2.2 k hlt
      obtain ⟨c0, c1⟩ := hcell k hlt
      have HP0 : Hid (trLine k (lineZ ls k) (trTo ls cs k) 0 = trTo ls cs k) := Lib.hid rfl
      have HPS : Hid (∀ j, trLine k (lineZ ls k) (trTo ls cs k) (j + 1) = trStep k j ((lineZ ls k).getD j 0) (trLine k (lineZ ls k) (trTo ls cs k) j)) := Lib.hid fun _ => rfl
      have HGN := Lib.hid hG1; have HCN := Lib.hid hCN; have HLN := Lib.hid hLN; have HFE := Lib.hid hFE
      clear hG1 hCN hLN hFE hcell HFW
      unfold lineZ at *
      generalize trTo ls cs k = p at *
      generalize ls.getD k LN.zero = r at *
      obtain ⟨mm, X2, e2, zs⟩ := r
      simp only [SI.val] at *
      have HRW := Lib.hid hrow; clear hrow
      have hzl := HGN.out.1
      obtain ⟨wa, rfl⟩ : ∃ x, x = wr := ⟨_, rfl⟩
      go_wp2
      go_loopw [11, 40] (fun v i wr => ∃ j : Nat, j ≤ zs.length ∧ i = .int .i64 (j : Int) ∧ Hid (TuS w g cs.length cap v (trLine k zs p j) wr)) (fun _ i _ => zs.length - (intOf i).toNat)
      case atStart => exact ⟨0, Nat.zero_le _, rfl, Lib.hid (by rw [HP0.out]; exact HS.out.next (by repeat (first | exact Ext.refl _ | assumption | refine Ext.alloc ?_ _ | refine Ext.drew ?_ | refine Ext.drewN ?_ _ | (refine Ext.setCell ?_ (by simp <;> omega) _) | refine Ext.trans ?_ (by assumption))))⟩
      case round =>
        obtain ⟨j, hj, rfl, HS2⟩ := hrel
        clear HS HP0
        by_cases hjl : j < zs.length
        case neg =>
          obtain rfl : j = zs.length := by omega
          clear c0 c1
          go_wp2
          go_roundw
          case rel => exact ⟨k + 1, by omega, by go_num, Lib.hid (by rw [HT1.out]; exact HS2.out)⟩
          case measure => simp [intOf]; omega
        case pos =>
          have hji : (j : Int) < (zs.length : Int) := by omega
          obtain ⟨i1, i2⟩ := HGN.out.2 j hjl
          obtain ⟨q, hq⟩ : ∃ q : Nat, zs.getD j 0 = (q : Int) := ⟨(zs.getD j 0).toNat, by omega⟩
          have HN := Lib.hid (HPS.out j)
          have hln := HLN.out j
          have hfe := HFE.out j
          have hcn := HCN.out j
          rw [hq] at i2
          have hqn : q < cs.length := by omega
          obtain ⟨y1, y2⟩ := hcn q hqn
          obtain ⟨b2, off2, rfl, hb2, hc2⟩ := (HRW.out.ext HS2.out.ext).2.2 (by omega)
          have r1 := hc2 j hjl
          rw [hq] at r1
          have HQ : Hid ((zs.getD j 0).toNat = q) := Lib.hid (by rw [hq, Int.toNat_natCast])
          have hS := HS2.out
          generalize trLine k zs p j = P at *
          have l1 := (hS.left.at rfl q (by omega)).1
          have l2 := (hS.left.at rfl q (by omega)).2.1
          have hqi : (q : Int) < (cs.length : Int) := by omega
          clear hc2 hcn c0 c1 hq i1
          by_cases hy : P.1.getD q 0 = 0
          case pos =>
            have HN2 : Hid (trLine k zs p (j + 1) = (P.1, P.2 ++ [(k, j)])) := Lib.hid (by rw [HN.out, trStep_zero (by rw [HQ.out]; exact hy)])
            rw [hy] at l1
            have HFE2 : Hid (P.2.length ≤ 10000000) := Lib.hid (by omega)
            clear hS hln hfe y1 y2 hy HN
            go_wp2_with (first | (at_builtin; refine list_pushP rfl (.tmp 50) (.tmp 54) rfl w.heap.size _ P.2 rfl (HS2.out.next (by repeat (first | exact Ext.refl _ | assumption | refine Ext.alloc ?_ _ | refine Ext.drew ?_ | refine Ext.drewN ?_ _ | (refine Ext.setCell ?_ (by simp <;> omega) _) | refine Ext.trans ?_ (by assumption)))).out wr.heap.size k j rfl (by simp) (by simp) HFE2.out (by have := HS2.out.ext.size; simp; omega) ?_; intro v' w' ho hg; have HS3 := Lib.hid (HS2.out.push (by repeat (first | exact Ext.refl _ | assumption | refine Ext.alloc ?_ _ | refine Ext.drew ?_ | refine Ext.drewN ?_ _ | (refine Ext.setCell ?_ (by simp <;> omega) _) | refine Ext.trans ?_ (by assumption))) hg ho); clear ho hg))
            go_roundw
            case rel => exact ⟨j + 1, by omega, by go_num, Lib.hid (by rw [HN2.out]; exact HS3.out)⟩
            case measure => simp [intOf]; omega
          case neg =>
            have HN2 : Hid (trLine k zs p (j + 1) = (P.1.set q (P.1.getD q 0 - 1), P.2)) := Lib.hid (by rw [HN.out, trStep_more (by rw [HQ.out]; exact hy), HQ.out])
            have e0 : (P.1.getD q 0 == 0) = false := by simpa using hy
            obtain ⟨y, hyy⟩ : ∃ y, P.1.getD q 0 = y := ⟨_, rfl⟩
            rw [hyy] at l1 e0 y1 y2 HN2
            have hy0 : 1 ≤ y := by omega
            clear hS hln hfe hy HN hyy
            go_wp2
            go_roundw
            case rel => exact ⟨j + 1, by omega, by go_num, Lib.hid (by rw [HN2.out]; exact HS2.out.put q (y - 1))⟩
            case measure => simp [intOf]; omega
end Go.Proofs.YtfbdklminljecaaGreatDoor
namespace Go.Proofs.YtfbdklminljecaaGreatDoor
open Go.RowKit
theorem eq_int (n : Nat) (a b : Int) (w : World) : (Op.equalIn (n + 1) 3 (.int .i64 a) (.int .i64 b)).run Tryz.prog w = .ok (a == b) w := by
  simp [Op.equalIn, run_underlying Tryz.underlying3]
theorem part_int (xs : Array Value) (i : Nat) (z : Int) (w : World) (h : xs[i]? = some (.int .i64 z)) : (part 3 xs i).run Tryz.prog w = .ok (.int .i64 z) w := by
  simp [part, h, go_sem]
theorem eq_pair' (a b c d : Int) (w : World) : (Op.equalIn (9999 + 1) 66 (.agg #[.int .i64 a, .int .i64 b]) (.agg #[.int .i64 c, .int .i64 d])).run Tryz.prog w = .ok (a == c && b == d) w := by
  obtain ⟨i0, hi, hz0, hz1, hz2⟩ := info_parts intInfo
  rw [run_equalIn_array w 9999 #[.int .i64 a, .int .i64 b] #[.int .i64 c, .int .i64 d] Tryz.underlying66 hi]
  have hc : Tryz.prog.cellsOf 3 = 1 := by kernel_rfl
  simp only [hc, List.range_succ, List.range_zero, List.nil_append, List.cons_append, Op.eqItems, Sem.run_bind]
  rw [part_int _ _ a _ rfl]
  simp only [Result.andThen_ok]
  rw [part_int _ _ c _ rfl]
  simp only [Result.andThen_ok]
  rw [eq_int 9998]
  simp only [Result.andThen_ok]
  cases h : (a == c) with
  | false => simp
  | true =>
    simp only [Bool.not_true, Bool.false_eq_true, if_false, Sem.run_bind]
    rw [part_int _ _ b _ rfl]
    simp only [Result.andThen_ok]
    rw [part_int _ _ d _ rfl]
    simp only [Result.andThen_ok]
    rw [eq_int 9998]
    simp only [Result.andThen_ok]
    cases h : (b == d) <;> simp
theorem eq_pair (a b c d : Int) (w : World) : (Op.equalIn 10000 66 (.agg #[.int .i64 a, .int .i64 b]) (.agg #[.int .i64 c, .int .i64 d])).run Tryz.prog w = .ok (a == c && b == d) w := eq_pair' a b c d w
end Go.Proofs.YtfbdklminljecaaGreatDoor
