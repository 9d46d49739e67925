/-
  Walk: the reference's readPattern.
-/
import Derived.Test.YtccdnieoaejgdaaGreatDoorT2BI
import Derived.Test.YtccdnieoaejgdaaGreatDoorT2AQ
set_option linter.unusedVariables false
set_option linter.unusedSimpArgs false
set_option linter.unusedSectionVars false
namespace Go.Proofs.YtccdnieoaejgdaaGreatDoor
open Go.RowKit Go.Lib
attribute [local go_sem] stateAt vu known List.map_cons List.map_nil Option.getD_some

/-- What readPattern answers. -/
def RetRP (o : Option Pat) (w : World) (e : Ending) (w' : World) : Prop :=
  (∃ p A c, o = some p ∧ e = .returned (.tuple #[.agg #[.string (strL (itemsL p)), .slice A (levsL p).length c], .bool true]) ∧ Own w' w.heap.size (.slice A (levsL p).length c) (levsL p) ∧ Ext w w') ∨
  (o = none ∧ ∃ s A n c, e = .returned (.tuple #[.agg #[.string s, .slice A n c], .bool false]) ∧ Ext w w')
/-- A pattern that is read: the result's cells, the pattern's, its levels. -/
structure RpW (w : World) (pb : Nat) (it : List UInt8) (v : Value) (vs : List Int) (W : World) : Prop where
  ext : Ext w W
  rb : Blk W w.heap.size 139 #[.string ⟨#[]⟩, .slice none 0 0]
  lo : pb = w.heap.size + 1
  pb' : Blk W pb 139 #[.string (strL it), v]
  own : Own W w.heap.size v vs
/-- .. while a letter is laid: the append (a), the letters (b), the levels (c) are stored. -/
structure Rp3 (w : World) (pb : Nat) (it it2 : List UInt8) (v : Value) (vs : List Int) (z : Int) (a b c : Bool) (W : World) : Prop where
  ext : Ext w W
  rb : Blk W w.heap.size 139 #[.string ⟨#[]⟩, .slice none 0 0]
  lo : pb = w.heap.size + 1
  ex : ∃ x, Blk W pb 139 #[.string (strL (if b = true then it2 else it)), x] ∧ (c = false → x = v) ∧ (c = true → Own W w.heap.size x (vs ++ [z]))
  own : a = false → Own W w.heap.size v vs
def LitQ (z : Int) (x : Value) (W : World) : Prop := ∃ g, x = .slice (some ⟨g, 0, none⟩) 1 1 ∧ Blk W g 3 #[.int .i64 z]
def ApQ (w : World) (ys : List Int) (x : Value) (W : World) : Prop := ∃ X n c, x = .slice X n c ∧ Own W w.heap.size x ys
theorem Own.sto {W : World} {base pb i : Nat} {ys : List Int} {x u : Value} {T : TypeId} {cs : Array Value} (h : Own W base x ys) (hb : Blk W pb T cs) (hT : 3 ≠ T) : Own (W.setCell ⟨pb, i, none⟩ u) base x ys :=
  h.keptB (set_grownB W ⟨pb, i, none⟩ u) (fun k hk e => by
    obtain ⟨c9, hb9⟩ := h.is hk
    exact blk_neT hb9 hb hT (Option.some.inj e).symm)
section
variable {w W W' : World} {pb i : Nat} {it it2 : List UInt8} {v x u : Value} {vs ys : List Int} {z : Int} {a b c : Bool} {cs : Array Value}
theorem LitQ.ext (h : LitQ z x W) (hx : Ext W W') : LitQ z x W' := let ⟨g, h1, h2⟩ := h; ⟨g, h1, h2.ext hx⟩
theorem LitQ.sto (h : LitQ z x W) (hb : ∃ cs, Blk W pb 139 cs) : LitQ z x (W.setCell ⟨pb, i, none⟩ u) := let ⟨g, h1, h2⟩ := h; let ⟨_, hb⟩ := hb; ⟨g, h1, h2.far (p := ⟨pb, i, none⟩) (blk_neT h2 hb (by decide)) _⟩
theorem ApQ.of (h : Own W w.heap.size x ys) : ApQ w ys x W := let ⟨X, n, c, e⟩ := own_slice h; ⟨X, n, c, e, h⟩
theorem ApQ.ext (h : ApQ w ys x W) (hx : Ext W W') : ApQ w ys x W' := let ⟨X, n, c, e, h⟩ := h; ⟨X, n, c, e, h.ext hx⟩
theorem ApQ.sto (h : ApQ w ys x W) (hb : ∃ cs, Blk W pb 139 cs) : ApQ w ys x (W.setCell ⟨pb, i, none⟩ u) := let ⟨X, n, c, e, h⟩ := h; let ⟨_, hb⟩ := hb; ⟨X, n, c, e, h.sto hb (by decide)⟩
theorem RpW.next (h : RpW w pb it v vs W) (hx : Ext W W') : RpW w pb it v vs W' := ⟨h.ext.trans hx, h.rb.ext hx, h.lo, h.pb'.ext hx, h.own.ext hx⟩
theorem RpW.rp3 (h : RpW w pb it v vs W) (it2 : List UInt8) (z : Int) : Rp3 w pb it it2 v vs z false false false W := ⟨h.ext, h.rb, h.lo, ⟨v, h.pb', fun _ => rfl, fun e => (by cases e)⟩, fun _ => h.own⟩
theorem Rp3.pb' (h : Rp3 w pb it it2 v vs z a b c W) : ∃ cs, Blk W pb 139 cs := let ⟨x, h1, _⟩ := h.ex; ⟨_, h1⟩
theorem Rp3.next (h : Rp3 w pb it it2 v vs z a b c W) (hx : Ext W W') : Rp3 w pb it it2 v vs z a b c W' :=
  ⟨h.ext.trans hx, h.rb.ext hx, h.lo, let ⟨x, h1, h2, h3⟩ := h.ex; ⟨x, h1.ext hx, h2, fun e => (h3 e).ext hx⟩, fun e => (h.own e).ext hx⟩
theorem Rp3.c0 (h : Rp3 w pb it it2 v vs z a false c W) : W.cell? ⟨pb, 0, none⟩ = some (.string (strL it)) ∧ W.frozen? ⟨pb, 0, none⟩ = false ∧ pb < W.heap.size := by
  obtain ⟨x, h1, _⟩ := h.ex
  exact ⟨h1.cell 0 _ rfl, h1.frozen 0, h1.lt⟩
theorem Rp3.c1 (h : Rp3 w pb it it2 v vs z a b false W) : W.cell? ⟨pb, 1, none⟩ = some v ∧ W.frozen? ⟨pb, 1, none⟩ = false ∧ pb < W.heap.size := by
  obtain ⟨x, h1, h2, _⟩ := h.ex
  rw [h2 rfl] at h1
  exact ⟨h1.cell 1 _ rfl, h1.frozen 1, h1.lt⟩
theorem Rp3.app (h : Rp3 w pb it it2 v vs z false b false W) (hg : W.grownBy W' v.ownBlock) : Rp3 w pb it it2 v vs z true b false W' := by
  have ho := h.own rfl
  have far : ∀ {g : Nat} {cs : Array Value}, Blk W g 139 cs → v.ownBlock ≠ some g := fun hb e => by
    obtain ⟨c9, h9⟩ := ho.is e
    exact blk_neT h9 hb (by decide) rfl
  obtain ⟨x, h1, h2, h3⟩ := h.ex
  exact ⟨h.ext.grown hg (fun k e => (World.ownsRow.lt ho k e).1), h.rb.grownB hg (far h.rb), h.lo, ⟨x, h1.grownB hg (far h1), h2, fun e => (by cases e)⟩, fun e => (by cases e)⟩
theorem Rp3.sto0 (h : Rp3 w pb it it2 v vs z a false c W) : Rp3 w pb it it2 v vs z a true c (W.setCell ⟨pb, 0, none⟩ (.string (strL it2))) := by
  obtain ⟨x, h1, h2, h3⟩ := h.ex
  have hl := h.lo
  exact ⟨h.ext.setCell (p := ⟨pb, 0, none⟩) (by simp only; omega) _, h.rb.far (p := ⟨pb, 0, none⟩) (by simp only; omega) _, h.lo, ⟨x, h1.set_ 0 _, h2, fun e => (h3 e).sto h1 (by decide)⟩, fun e => (h.own e).sto h1 (by decide)⟩
theorem Rp3.sto1 (h : Rp3 w pb it it2 v vs z true b false W) (ho : Own W w.heap.size x (vs ++ [z])) : Rp3 w pb it it2 v vs z true b true (W.setCell ⟨pb, 1, none⟩ x) := by
  obtain ⟨y, h1, h2, h3⟩ := h.ex
  have hl := h.lo
  exact ⟨h.ext.setCell (p := ⟨pb, 1, none⟩) (by simp only; omega) _, h.rb.far (p := ⟨pb, 1, none⟩) (by simp only; omega) _, h.lo, ⟨x, h1.set_ 1 _, fun e => (by cases e), fun _ => ho.sto h1 (by decide)⟩, fun e => (by cases e)⟩
theorem Rp3.done (h : Rp3 w pb it it2 v vs z true true true W) : ∃ A n c, RpW w pb it2 (.slice A n c) (vs ++ [z]) W := by
  obtain ⟨x, h1, _, h3⟩ := h.ex
  obtain ⟨A, n, c, rfl⟩ := own_slice (h3 rfl)
  exact ⟨A, n, c, h.ext, h.rb, h.lo, h1, h3 rfl⟩
end
theorem RpW.dot {w W : World} {pb : Nat} {v : Value} (h : RpW w pb [] v [] W) : RpW w pb [46] (.slice (some ⟨W.heap.size, 0, none⟩) 1 1) [0] (((W.setCell ⟨pb, 0, none⟩ (.string ⟨#[46]⟩)).setCell ⟨pb, 1, none⟩ (.slice (some ⟨W.heap.size, 0, none⟩) 1 1)).alloc (.cells #[.int .i64 0] 3)) := by
  have hl := h.lo
  have hz : ((W.setCell ⟨pb, 0, none⟩ (.string ⟨#[46]⟩)).setCell ⟨pb, 1, none⟩ (.slice (some ⟨W.heap.size, 0, none⟩) 1 1)).heap.size = W.heap.size := by simp [World.setCell]
  have ho := World.ownsRow_lit (e := 3) (size := 1) (base := w.heap.size) ((W.setCell ⟨pb, 0, none⟩ (.string ⟨#[46]⟩)).setCell ⟨pb, 1, none⟩ (.slice (some ⟨W.heap.size, 0, none⟩) 1 1)) #[.int .i64 0] 1 (by rw [hz]; exact h.ext.size) (by unfold maxLen; omega) rfl
  rw [hz] at ho
  exact ⟨((h.ext.setCell (p := ⟨pb, 0, none⟩) (by simp only; omega) _).setCell (p := ⟨pb, 1, none⟩) (by simp only; omega) _).alloc _, ((h.rb.far (p := ⟨pb, 0, none⟩) (by simp only; omega) _).far (p := ⟨pb, 1, none⟩) (by simp only; omega) _).alloc _, hl, ((h.pb'.set_ 0 _).set_ 1 _).alloc _, ho⟩
theorem RpW.kept {w W W' : World} {pb : Nat} {it : List UInt8} {v : Value} {vs : List Int} (h : RpW w pb it v vs W) (hg : W.grownBy W' v.ownBlock) : Blk W' pb 139 #[.string (strL it), v] :=
  h.pb'.grownB hg (fun e => by
    obtain ⟨c9, h9⟩ := h.own.is e
    exact blk_neT h9 h.pb' (by decide) rfl)
theorem RpW.push {w W W' : World} {pb : Nat} {it : List UInt8} {v v' : Value} {vs vs' : List Int} (h : RpW w pb it v vs W) (hg : W.grownBy W' v.ownBlock) (ho : Own W' w.heap.size v' vs') : RpW w pb it v' vs' (W'.setCell ⟨pb, 1, none⟩ v') := by
  have hl := h.lo
  have hk := h.kept hg
  have hr : Blk W' w.heap.size 139 #[.string ⟨#[]⟩, .slice none 0 0] := h.rb.grownB hg (fun e => by
    obtain ⟨c9, h9⟩ := h.own.is e
    exact blk_neT h9 h.rb (by decide) rfl)
  exact ⟨(h.ext.grown hg (fun k e => (World.ownsRow.lt h.own k e).1)).setCell (p := ⟨pb, 1, none⟩) (by simp only; omega) _, hr.far (p := ⟨pb, 1, none⟩) (by simp only; omega) _, hl, hk.set_ 1 _, ho.sto hk (by decide)⟩
/-- The pattern is handed back. -/
structure Rp5 (w : World) (pb : Nat) (it : List UInt8) (v : Value) (vs : List Int) (b : Bool) (W : World) : Prop where
  ext : Ext w W
  rb0 : b = false → Blk W w.heap.size 139 #[.string ⟨#[]⟩, .slice none 0 0]
  rb1 : b = true → Blk W w.heap.size 139 #[.string (strL it), v]
  lo : pb = w.heap.size + 1
  pb' : Blk W pb 139 #[.string (strL it), v]
  own : Own W w.heap.size v vs
section
variable {w W W' : World} {pb : Nat} {it : List UInt8} {v : Value} {vs : List Int} {b : Bool}
theorem Rp5.next (h : Rp5 w pb it v vs b W) (hx : Ext W W') : Rp5 w pb it v vs b W' := ⟨h.ext.trans hx, fun e => (h.rb0 e).ext hx, fun e => (h.rb1 e).ext hx, h.lo, h.pb'.ext hx, h.own.ext hx⟩
theorem RpW.rp5 (h : RpW w pb it v vs W) : Rp5 w pb it v vs false W := ⟨h.ext, fun _ => h.rb, fun e => (by cases e), h.lo, h.pb', h.own⟩
theorem Rp5.sto (h : Rp5 w pb it v vs false W) : Rp5 w pb it v vs true ((W.setCell ⟨w.heap.size, 0, none⟩ (.string (strL it))).setCell ⟨w.heap.size, 1, none⟩ v) := by
  have hl := h.lo
  have h0 := h.rb0 rfl
  refine ⟨(h.ext.setCell (p := ⟨w.heap.size, 0, none⟩) (Nat.le_refl _) _).setCell (p := ⟨w.heap.size, 1, none⟩) (Nat.le_refl _) _, fun e => (by cases e), fun _ => (h0.set_ 0 _).set_ 1 _, h.lo, (h.pb'.far (p := ⟨w.heap.size, 0, none⟩) (by simp only; omega) _).far (p := ⟨w.heap.size, 1, none⟩) (by simp only; omega) _, ?_⟩
  exact (h.own.sto h0 (by decide)).sto (h0.set_ 0 _) (by decide)
end
theorem frontDot_pos {l : List UInt8} (h : frontDot l = true) : 1 ≤ l.length := by
  cases l with
  | nil => cases h
  | cons a t => simp
theorem backDot_pos {l : List UInt8} (h : backDot l = true) : 1 ≤ l.length := by
  cases l with
  | nil => cases h
  | cons a t => simp
set_option maxRecDepth 100000 in
set_option maxHeartbeats 4000000 in
theorem readPattern_any (s : ByteArray) (w : World) (hs : s.size ≤ 100000) : Calls Tryz.prog 85 #[.string s] w (RetRP (patOf s.data.toList) w) := by
  have HC1 : Hid (frontDot s.data.toList = true → s.extract 1 s.size = strL (cutFront s.data.toList) ∧ 1 ≤ s.size) := Lib.hid fun h => ⟨by
    refine bytes_ext ?_
    unfold cutFront
    rw [cut_list, strL_list, List.take_of_length_le (by simp), if_pos h], by have := frontDot_pos h; simpa using this⟩
  have HC0 : Hid (frontDot s.data.toList = false → s = strL (cutFront s.data.toList)) := Lib.hid fun h => by
    unfold cutFront; rw [if_neg (by rw [h]; simp)]; exact (strL_of s).symm
  have HD1 : Hid (backDot (cutFront s.data.toList) = true → (strL (cutFront s.data.toList)).extract 0 ((cutFront s.data.toList).length - 1) = strL (patMid s.data.toList) ∧ 1 ≤ (cutFront s.data.toList).length) := Lib.hid fun h => ⟨by
    refine bytes_ext ?_
    unfold patMid cutBack
    rw [cut_list, strL_list, strL_list, if_pos h, List.drop_zero, List.dropLast_eq_take], backDot_pos h⟩
  have HD0 : Hid (backDot (cutFront s.data.toList) = false → strL (cutFront s.data.toList) = strL (patMid s.data.toList)) := Lib.hid fun h => by
    unfold patMid cutBack; rw [if_neg (by rw [h]; simp)]
  have HCL : Hid ((cutFront s.data.toList).length ≤ s.size) := Lib.hid (by
    have h1 : s.data.toList.length = s.size := by simp
    unfold cutFront; split
    · rw [List.length_drop]; omega
    · omega)
  have HFQ := Lib.hid (first_eq s.data.toList)
  have HLQ := Lib.hid (last_eq s.data.toList)
  have HLS : Hid (s.data.toList.length = s.size) := Lib.hid (by simp)
  rw [HLS.out] at HFQ HLQ
  have HB0 : Hid (∀ h : 0 < s.size, bya s.data.toList 0 = (s[0].toNat : Int)) := Lib.hid fun h => (bya_byte s 0 h).symm
  have HBN : Hid (∀ n (h : n < s.size), bya s.data.toList n = (s[n].toNat : Int)) := Lib.hid fun n h => (bya_byte s n h).symm
  have HE : Hid (patOf s.data.toList = match patTo (patMid s.data.toList) (patMid s.data.toList).length with | some p => if 1 ≤ p.ls.length ∧ p.ls.length ≤ 16 then some ⟨p.ls, p.vs ++ [p.lv], frontDot s.data.toList, backDot (cutFront s.data.toList)⟩ else none | none => none) := Lib.hid rfl
  have HML : Hid ((patMid s.data.toList).length ≤ 100000) := Lib.hid (by
    have h1 : s.data.toList.length = s.size := by simp
    unfold patMid cutBack cutFront
    split <;> split <;> simp <;> omega)
  generalize patOf s.data.toList = o at *
  generalize backDot (cutFront s.data.toList) = en at *
  generalize frontDot s.data.toList = fs at *
  generalize patMid s.data.toList = mid at *
  generalize cutFront s.data.toList = cf at *
  have HSB : Hid (s.size ≤ 100000) := Lib.hid hs
  have hsz9 : s.size ≤ 9223372036854775807 := by omega
  go_enter Tryz.func85, Tryz.ntmps85
  go_upto_region 2 with fail
  have HR0 : Hid (RpW w (w.heap.size + 1) [] (.slice none 0 0) [] ((w.alloc (.cells #[.string ⟨#[]⟩, .slice none 0 0] 139)).alloc (.cells #[.string ⟨#[]⟩, .slice none 0 0] 139))) := Lib.hid ⟨((Ext.refl w).alloc _).alloc _, (Blk.new w _ _).alloc _, rfl, Blk.new1 w _ _ _, Own.nil _ _⟩
  generalize ((w.alloc (.cells #[.string ⟨#[]⟩, .slice none 0 0] 139)).alloc (.cells #[.string ⟨#[]⟩, .slice none 0 0] 139)) = w0 at *
  obtain ⟨pb, hpb⟩ : ∃ pb, pb = w.heap.size + 1 := ⟨_, rfl⟩
  rw [← hpb] at HR0 ⊢
  clear hpb
  go_cut [5, 6] from 11 (fun v5 v6 wx => v5 = .bool fs ∧ v6 = .bool en ∧ Hid (RpW w pb [] (.slice none 0 0) [] wx))
  case first =>
    -- BEGIN A
    by_cases h0 : s.size = 0
    · have HF : Hid (fs = false ∧ en = false) := Lib.hid ⟨by rw [← HFQ.out, decide_eq_false (by omega)]; rfl, by rw [← HLQ.out, decide_eq_false (by omega)]; rfl⟩
      have hi0 : ¬ (0 : Int) < (s.size : Int) := by omega
      have hi1 : ¬ (1 : Int) < (s.size : Int) := by omega
      have hi2 : ¬ 0 < s.size := by omega
      have hi3 : ¬ 1 < s.size := by omega
      go_quiet (fail)
      go_wp2_with fail
      go_meet
      case rel => exact ⟨by rw [HF.out.1], by rw [HF.out.2], Lib.hid (HR0.out.next (by repeat (first | exact Ext.refl _ | assumption | refine Ext.alloc ?_ _ | refine Ext.drew ?_ | refine Ext.drewN ?_ _ | (refine Ext.setCell ?_ (by simp <;> omega) _) | refine Ext.trans ?_ (by assumption))))⟩
    · have hi0 : (0 : Int) < (s.size : Int) := by omega
      have h0' : 0 < s.size := by omega
      have HX0 := Lib.hid (HB0.out h0')
      obtain ⟨n, hn⟩ : ∃ n, s.size = n + 1 := ⟨s.size - 1, by omega⟩
      have hn' : n < s.size := by omega
      have HXN := Lib.hid (HBN.out n hn')
      have hin : (s.size : Int) - 1 = (n : Int) := by omega
      have hin2 : (n : Int) < (s.size : Int) := by omega
      have u1 : IntKind.i64.wrap (n : Int) = (n : Int) := IntWalk.i64_in _ (by omega)
      by_cases h1 : s.size = 1
      · have HF : Hid (fs = ((s[0].toNat : Int) == 46) ∧ en = false) := Lib.hid ⟨by rw [← HFQ.out, decide_eq_true (by omega), HX0.out]; rfl, by rw [← HLQ.out, decide_eq_false (by omega)]; rfl⟩
        have hi1 : ¬ (1 : Int) < (s.size : Int) := by omega
        clear h0 h1 hn hin hin2 u1 hn' HXN
        generalize hx0 : (s[0].toNat : Int) = x0 at *
        go_quiet (fail)
        go_wp2_with fail
        go_meet
        case rel => exact ⟨by rw [HF.out.1], by rw [HF.out.2], Lib.hid (HR0.out.next (by repeat (first | exact Ext.refl _ | assumption | refine Ext.alloc ?_ _ | refine Ext.drew ?_ | refine Ext.drewN ?_ _ | (refine Ext.setCell ?_ (by simp <;> omega) _) | refine Ext.trans ?_ (by assumption))))⟩
      · have HF : Hid (fs = ((s[0].toNat : Int) == 46) ∧ en = ((s[n].toNat : Int) == 46)) := Lib.hid ⟨by rw [← HFQ.out, decide_eq_true (by omega), HX0.out]; rfl, by rw [← HLQ.out, decide_eq_true (by omega), show s.size - 1 = n by omega, HXN.out]; rfl⟩
        have hi1 : (1 : Int) < (s.size : Int) := by omega
        clear h0 h1 hn
        generalize hx0 : (s[0].toNat : Int) = x0 at *
        generalize hxn : (s[n].toNat : Int) = xn at *
        go_quiet (fail)
        go_wp2_with fail
        go_meet
        case rel => exact ⟨by rw [HF.out.1], by rw [HF.out.2], Lib.hid (HR0.out.next (by repeat (first | exact Ext.refl _ | assumption | refine Ext.alloc ?_ _ | refine Ext.drew ?_ | refine Ext.drewN ?_ _ | (refine Ext.setCell ?_ (by simp <;> omega) _) | refine Ext.trans ?_ (by assumption))))⟩
    -- END A
  case rest =>
  obtain ⟨rfl, rfl, HR1⟩ := hcut
  clear HR0 HFQ HLQ HB0 HBN
  -- BEGIN B
  go_upto_if 30 with fail
  go_cut [0] from 11 (fun v0 wx => v0 = .string (strL cf) ∧ wc = wx)
  case first =>
    cases fs
    · have hs0 := HC0.out rfl
      go_wp2_with fail
      go_meet
      case rel => exact ⟨by rw [← hs0], rfl⟩
    · have hs1 := (HC1.out rfl).1
      have hs2 := (HC1.out rfl).2
      have hs3 : (1 : Int) ≤ (s.size : Int) := by omega
      go_wp2_with fail
      go_meet
      case rel => exact ⟨by rw [← hs1], rfl⟩
  case rest =>
  obtain ⟨rfl, rfl⟩ := hcut
  have hcs : (strL cf).size = cf.length := strL_size cf
  go_upto_if 33 with fail
  go_cut [0] from 11 (fun v0 wx => v0 = .string (strL mid) ∧ wc = wx)
  case first =>
    cases en
    · have hs0 := HD0.out rfl
      go_wp2_with fail
      go_meet
      case rel => exact ⟨by rw [← hs0], rfl⟩
    · have hs1 := (HD1.out rfl).1
      have hs2 := (HD1.out rfl).2
      obtain ⟨n, hn⟩ : ∃ n, cf.length = n + 1 := ⟨cf.length - 1, by omega⟩
      rw [hn, Nat.add_sub_cancel] at hs1
      have hs3 : IntKind.i64.wrap ((cf.length : Int) - 1) = (n : Int) := by rw [IntWalk.i64_in _ (by have := HCL.out; have := HSB.out; omega)]; omega
      have hs4 : (n : Int) ≤ (cf.length : Int) := by omega
      have HN := Lib.hid hn
      clear hn
      go_wp2_with fail
      go_meet
      case rel => exact ⟨by rw [← hs1], rfl⟩
  case rest =>
  obtain ⟨rfl, rfl⟩ := hcut
  clear hcs HC1 HC0 HD1 HD0
  -- END B
  -- BEGIN C
  go_upto_if 39 with fail
  go_cut [5] from 11 (fun v5 wx => v5 = .bool fs ∧ ∃ A n c, Hid (RpW w pb (if fs = true then [46] else []) (.slice A n c) (if fs = true then [0] else []) wx))
  case first =>
    cases fs
    · go_wp2_with fail
      go_meet
      case rel => exact ⟨rfl, none, 0, 0, HR1⟩
    · obtain ⟨k0, k1, kl⟩ : wc.cell? ⟨pb, 0, none⟩ = some (.string (strL [])) ∧ wc.cell? ⟨pb, 1, none⟩ = some (.slice none 0 0) ∧ pb < wc.heap.size := ⟨HR1.out.pb'.cell 0 _ rfl, HR1.out.pb'.cell 1 _ rfl, HR1.out.pb'.lt⟩
      have F := HR1.out.pb'.frozen
      have HRD := Lib.hid HR1.out.dot
      go_wp2_with fail
      go_meet
      case rel => exact ⟨rfl, _, _, _, by simpa using HRD⟩
  case rest =>
  obtain ⟨rfl, A0, n0, c0, HR2⟩ := hcut
  clear HR1
  -- END C
  obtain ⟨it0, hit0⟩ : ∃ x : List UInt8, x = if fs = true then [46] else [] := ⟨_, rfl⟩
  obtain ⟨vs0, hvs0⟩ : ∃ x : List Int, x = if fs = true then [0] else [] := ⟨_, rfl⟩
  rw [← hit0, ← hvs0] at HR2
  have HIT0 := Lib.hid hit0; have HVS0 := Lib.hid hvs0
  have HI0 : Hid (it0.length ≤ 1 ∧ vs0.length ≤ 1) := Lib.hid (by rw [hit0, hvs0]; cases fs <;> simp)
  clear hit0 hvs0
  have HSZ := Lib.hid (strL_size mid)
  have hsz : (strL mid).size ≤ 9223372036854775807 := by rw [HSZ.out]; have := HML.out; omega
  have HBY : Hid (∀ k (h : k < (strL mid).size), ((strL mid)[k].toNat : Int) = bya mid k) := Lib.hid (fun k h => bya_byte (strL mid) k h)
  have HCT : Hid (∀ k (h : k < (strL mid).size), (strL mid).extract k (k + 1) = strL [mid.getD k 0]) := Lib.hid (fun k h => byte_cut (strL mid) k h)
  have HGD : Hid (∀ k, mid.getD k 0 = UInt8.ofNat (bya mid k).toNat) := Lib.hid (fun k => by unfold bya; simp)
  generalize hst : strL mid = str at *
  clear hst
  have HEL : Hid (mid.length = str.size) := Lib.hid HSZ.out.symm
  go_upto_region 11 with fail
  go_loopw [7, 8, 9, 10] (fun v7 v8 v9 v10 wr => ∃ (k : Nat) (q : PS) (A : Option Addr) (n c : Nat), k ≤ str.size ∧ v7 = .int .i64 q.lv ∧ v8 = .int .i64 (q.ls.length : Int) ∧ v9 = .bool q.d ∧ v10 = .int .i64 (k : Int) ∧ Hid (patTo mid k = some q) ∧ Hid (RpW w pb (it0 ++ q.ls) (.slice A n c) (vs0 ++ q.vs) wr)) (fun _ _ _ v10 _ => str.size - (intOf v10).toNat)
  case atStart => exact ⟨0, ⟨[], [], 0, false⟩, A0, n0, c0, Nat.zero_le _, rfl, rfl, rfl, rfl, Lib.hid rfl, Lib.hid (by simpa using HR2.out)⟩
  case round =>
    clear HR2
    obtain ⟨k, q, A, n, c, hk, rfl, rfl, rfl, rfl, HT, HP⟩ := hrel
    have HOK := Lib.hid (patTo_ok HT.out)
    have HQL : Hid (q.ls.length ≤ 100000 ∧ q.vs.length ≤ 100000) := Lib.hid (by have h1 := HOK.out.len; have h2 := HOK.out.le; have h3 := HEL.out; have h4 := HML.out; omega)
    by_cases hlt : k < str.size
    case pos =>
      have ik : (k : Int) < (str.size : Int) := by omega
      have HB := Lib.hid (HBY.out k hlt)
      have HNX := Lib.hid (patTo_next HT.out)
      have HBD := Lib.hid (bya_nonneg mid k)
      have HCK := Lib.hid (HCT.out k hlt)
      generalize hx : (str[k].toNat : Int) = ch at *
      have HCE : Hid (mid.getD k 0 = UInt8.ofNat ch.toNat) := Lib.hid (by rw [HGD.out k, ← HB.out])
      have HCN : Hid ((UInt8.ofNat ch.toNat).toNat = ch.toNat ∧ 0 ≤ ch ∧ ch < 256) := Lib.hid (by
        have h := HBD.out
        rw [← HB.out] at h
        refine ⟨?_, h⟩
        simp; omega)
      have CS := Lib.hid fun W => rIsSmall_any ch W
      have HNO : Hid (patTo mid (k + 1) = none → o = none) := Lib.hid (fun h1 => by
        rw [HE.out, patTo_none h1 mid.length (by have := HEL.out; omega)])
      by_cases hdg : 48 ≤ ch ∧ ch ≤ 57
      case pos =>
        have h48 := hdg.1
        have h57 := hdg.2
        have HSM : Hid (smC ch = false) := Lib.hid (by cases h : smC ch with | false => rfl | true => have := smC_iff.1 h; omega)
        cases hqd : q.d
        case true =>
          -- BEGIN D1
          have HN := Lib.hid (HNO.out (by
            rw [HNX.out, HCE.out]; unfold PS.step
            rw [HCN.out.1, Int.toNat_of_nonneg HCN.out.2.1, if_neg (by rw [HSM.out]; simp), if_neg (by rw [hqd]; simp)]))
          clear hqd hdg HNO HNX
          have y0 := HP.out.pb'.cell 0 _ rfl; have y1 := HP.out.pb'.cell 1 _ rfl; have yl := HP.out.pb'.lt
          have r0 := HP.out.rb.cell 0 _ rfl; have r1 := HP.out.rb.cell 1 _ rfl; have rl := HP.out.rb.lt; have rf := HP.out.rb.frozen
          have HP5 := Lib.hid HP.out.rp5.sto
          go_wp2_with (first | (go_at_call 109; refine Calls.mono (CS.out _) ?_; rintro e w3 ⟨rfl, rfl⟩))
          have s0 := (HP5.out.rb1 rfl).cell 0 _ rfl; have s1 := (HP5.out.rb1 rfl).cell 1 _ rfl
          refine bodyPost_ret (v := .tuple #[.agg #[.string (strL (it0 ++ q.ls)), .slice A n c], .bool false]) (by simp [results, Tryz.results85, go_sem, s0, s1]) rfl ?_
          exact .inr ⟨HN.out, _, A, n, c, rfl, HP5.out.ext⟩
          -- END D1
        case false =>
          -- BEGIN D2
          have HN : Hid (patTo mid (k + 1) = some ⟨q.ls, q.vs, ch - 48, true⟩) := Lib.hid (by
            rw [HNX.out, HCE.out]; unfold PS.step; rw [HCN.out.1, Int.toNat_of_nonneg HCN.out.2.1, if_neg (by rw [HSM.out]; simp), if_pos ⟨dgC_iff.2 ⟨h48, h57⟩, hqd⟩])
          have u1 : IntKind.u8.wrap (ch - 48) = ch - 48 := IntWalk.u8_in _ (by omega)
          have u2 : IntKind.i64.wrap (ch - 48) = ch - 48 := IntWalk.i64_in _ (by omega)
          clear hqd hdg HNO HNX
          go_wp2_with fail
          go_roundw
          case rel => exact ⟨k + 1, ⟨q.ls, q.vs, ch - 48, true⟩, A, n, c, by omega, rfl, rfl, rfl, by go_num, HN, HP⟩
          case measure => simp [intOf]; omega
          -- END D2
      case neg =>
        have HND : Hid (dgC ch = false) := Lib.hid (by cases h : dgC ch with | false => rfl | true => exact absurd (dgC_iff.1 h) hdg)
        cases hsm : smC ch
        case false =>
          have HN := Lib.hid (HNO.out (by
            rw [HNX.out, HCE.out]; unfold PS.step
            rw [HCN.out.1, Int.toNat_of_nonneg HCN.out.2.1, if_neg (by rw [hsm]; simp), if_neg (by rw [HND.out]; simp)]))
          rw [hsm] at CS
          clear hsm HNO HNX
          by_cases h48 : 48 ≤ ch
          · -- BEGIN D3
            have h57 : ¬ ch ≤ 57 := fun h => hdg ⟨h48, h⟩
            clear hdg
            have y0 := HP.out.pb'.cell 0 _ rfl; have y1 := HP.out.pb'.cell 1 _ rfl; have yl := HP.out.pb'.lt
            have r0 := HP.out.rb.cell 0 _ rfl; have r1 := HP.out.rb.cell 1 _ rfl; have rl := HP.out.rb.lt; have rf := HP.out.rb.frozen
            have HP5 := Lib.hid HP.out.rp5.sto
            go_wp2_with (first | (go_at_call 109; refine Calls.mono (CS.out _) ?_; rintro e w3 ⟨rfl, rfl⟩))
            have s0 := (HP5.out.rb1 rfl).cell 0 _ rfl; have s1 := (HP5.out.rb1 rfl).cell 1 _ rfl
            refine bodyPost_ret (v := .tuple #[.agg #[.string (strL (it0 ++ q.ls)), .slice A n c], .bool false]) (by simp [results, Tryz.results85, go_sem, s0, s1]) rfl ?_
            exact .inr ⟨HN.out, _, A, n, c, rfl, HP5.out.ext⟩
            -- END D3
          · -- BEGIN D4
            clear hdg
            have y0 := HP.out.pb'.cell 0 _ rfl; have y1 := HP.out.pb'.cell 1 _ rfl; have yl := HP.out.pb'.lt
            have r0 := HP.out.rb.cell 0 _ rfl; have r1 := HP.out.rb.cell 1 _ rfl; have rl := HP.out.rb.lt; have rf := HP.out.rb.frozen
            have HP5 := Lib.hid HP.out.rp5.sto
            go_wp2_with (first | (go_at_call 109; refine Calls.mono (CS.out _) ?_; rintro e w3 ⟨rfl, rfl⟩))
            have s0 := (HP5.out.rb1 rfl).cell 0 _ rfl; have s1 := (HP5.out.rb1 rfl).cell 1 _ rfl
            refine bodyPost_ret (v := .tuple #[.agg #[.string (strL (it0 ++ q.ls)), .slice A n c], .bool false]) (by simp [results, Tryz.results85, go_sem, s0, s1]) rfl ?_
            exact .inr ⟨HN.out, _, A, n, c, rfl, HP5.out.ext⟩
            -- END D4
        case true =>
          -- BEGIN D5
          have h57 : ¬ ch ≤ 57 := by have := smC_iff.1 hsm; omega
          have h48 : 48 ≤ ch := by have := smC_iff.1 hsm; omega
          rw [HCE.out] at HCK
          have HN : Hid (patTo mid (k + 1) = some ⟨q.ls ++ [UInt8.ofNat ch.toNat], q.vs ++ [q.lv], 0, false⟩) := Lib.hid (by
            rw [HNX.out, HCE.out]; unfold PS.step; rw [HCN.out.1, Int.toNat_of_nonneg HCN.out.2.1, if_pos hsm])
          rw [hsm] at CS
          clear hsm HNO HNX hdg
          go_upto_region 19 with (first | (go_at_call 109; refine Calls.mono (CS.out _) ?_; rintro e w3 ⟨rfl, rfl⟩))
          have HPN : Hid (∀ A n c W, RpW w pb (it0 ++ q.ls ++ [UInt8.ofNat ch.toNat]) (.slice A n c) (vs0 ++ q.vs ++ [q.lv]) W → RpW w pb (it0 ++ (q.ls ++ [UInt8.ofNat ch.toNat])) (.slice A n c) (vs0 ++ (q.vs ++ [q.lv])) W) := Lib.hid (fun A n c W h => by simpa using h)
          have HR0 := Lib.hid ((HP.out.next (Ext.refl wr).drew).rp3 (it0 ++ q.ls ++ [UInt8.ofNat ch.toNat]) q.lv)
          have hek : str.extract k (k + 1) = strL [UInt8.ofNat ch.toNat] := HCK.out
          have hap : strL (it0 ++ q.ls) ++ strL [UInt8.ofNat ch.toNat] = strL (it0 ++ q.ls ++ [UInt8.ofNat ch.toNat]) := strL_append _ _
          have hz1 : (strL (it0 ++ q.ls)).size ≤ 200000 := by rw [strL_size, List.length_append]; have := HI0.out; have := HQL.out; omega
          have hz2 : (strL [UInt8.ofNat ch.toNat]).size = 1 := rfl
          have hz9 : ¬ 9223372036854775807 < (strL (it0 ++ q.ls)).size + 1 := by omega
          have u3 : IntKind.i64.wrap ((k : Int) + 1) = (k : Int) + 1 := IntWalk.i64_in _ (by omega)
          have ik1 : (k : Int) ≤ (k : Int) + 1 := by omega
          have ik2 : (k : Int) + 1 ≤ (str.size : Int) := by omega
          have hvl : (vs0 ++ q.vs).length ≤ 200000 := by rw [List.length_append]; have := HI0.out; have := HQL.out; omega
          have u4 : IntKind.i64.wrap ((q.ls.length : Int) + 1) = (q.ls.length : Int) + 1 := IntWalk.i64_in _ (by have := HQL.out; omega)
          have HLE : Hid ((((q.ls ++ [UInt8.ofNat ch.toNat]).length : Nat) : Int) = (q.ls.length : Int) + 1) := Lib.hid (by simp)
          clear HCK HP
          generalize UInt8.ofNat ch.toNat = b at *
          obtain ⟨it, hit⟩ : ∃ x, x = it0 ++ q.ls := ⟨_, rfl⟩
          obtain ⟨it2, hit2⟩ : ∃ x, x = it0 ++ q.ls ++ [b] := ⟨_, rfl⟩
          obtain ⟨vs, hvs⟩ : ∃ x, x = vs0 ++ q.vs := ⟨_, rfl⟩
          obtain ⟨v, hv⟩ : ∃ x, x = Value.slice A n c := ⟨_, rfl⟩
          obtain ⟨z, hz⟩ : ∃ x, x = q.lv := ⟨_, rfl⟩
          rw [← hit2, ← hit, ← hvs, ← hv, ← hz] at HR0
          rw [← hit2, ← hvs, ← hz] at HPN
          rw [← hit] at hap hz1 hz9
          rw [hit, ← hit2, ← hit] at hap
          rw [← hvs] at hvl
          rw [← hz]
          have HV := Lib.hid hv; have HZ := Lib.hid hz
          clear hit hit2 hvs hv hz
          refine wp_region_sp [12, 14, 16] [some (.pointer (some ⟨pb, 0, none⟩)), some (.string (strL it)), some (.string str), some (.int .i64 (k : Int)), some (.int .i64 (k : Int)), some (.int .i64 ((k : Int) + 1)), some (.string (strL [b])), some (.string (strL it2)), some (.pointer (some ⟨pb, 1, none⟩)), some (v), some (.int .i64 z), none, none, some (.pointer (some ⟨pb, 0, none⟩)), some (undef), some (.pointer (some ⟨pb, 1, none⟩)), some (undef)] (fun k v fl W => (k = 11 → (fun (v : Value) (fl : List Bool) (W : World) => fl.getD 0 false = false → LitQ z v W) v fl W) ∧ (k = 12 → (fun (v : Value) (fl : List Bool) (W : World) => ApQ w (vs ++ [z]) v W) v fl W)) (fun fl W => Rp3 w pb it it2 v vs z (fl.getD 0 false) (fl.getD 1 false) (fl.getD 2 false) W) (by kernel_rfl) (by kernel_rfl) rfl (by decide) (fun fl W W' h hx => h.next hx) (fun k v fl W W' h hx => ⟨fun e => fun h0 => ((h.1 e) h0).ext hx, fun e => ((h.2 e)).ext hx⟩) (HR0.out) ⟨?_, ?_, ?_, ?_, ?_, ?_, ?_, ?_, ?_, ?_, ?_, ?_, ?_, ?_, ?_, ?_, ?_, trivial⟩ ?_
          · intro U fl W hS hl hn hd hR
            obtain ⟨f0, f1, f2, rfl⟩ := flen3 hl
            obtain rfl : f1 = false := hn 1 (by decide) (by kernel_rfl)
            clear hR hl hn hd
            have hT : Rp3 w pb it it2 v vs z _ _ _ W := hS; clear hS
            refine StepZ.go rfl ?_
            go_simp
            exact ⟨Turn.ext rfl (by repeat (first | exact Ext.refl _ | assumption | refine Ext.alloc ?_ _ | refine Ext.drew ?_ | refine Ext.drewN ?_ _ | (refine Ext.setCell ?_ (by simp <;> omega) _) | refine Ext.trans ?_ (by assumption))), givesS_k (by kernel_rfl)⟩
          · intro U fl W hS hl hn hd hR
            obtain ⟨f0, f1, f2, rfl⟩ := flen3 hl
            obtain rfl : f1 = false := hn 1 (by decide) (by kernel_rfl)
            clear hR hl hn hd
            have hT : Rp3 w pb it it2 v vs z _ _ _ W := hS; clear hS
            obtain ⟨y1, yf, yl⟩ := hT.c0
            refine StepZ.go rfl ?_
            go_simp
            exact ⟨Turn.ext rfl (by repeat (first | exact Ext.refl _ | assumption | refine Ext.alloc ?_ _ | refine Ext.drew ?_ | refine Ext.drewN ?_ _ | (refine Ext.setCell ?_ (by simp <;> omega) _) | refine Ext.trans ?_ (by assumption))), givesS_k (by kernel_rfl)⟩
          · intro U fl W hS hl hn hd hR
            obtain ⟨f0, f1, f2, rfl⟩ := flen3 hl
            obtain rfl : f1 = false := hn 1 (by decide) (by kernel_rfl)
            clear hR hl hn hd
            have hT : Rp3 w pb it it2 v vs z _ _ _ W := hS; clear hS
            refine StepZ.go rfl ?_
            go_simp
            exact ⟨Turn.ext rfl (by repeat (first | exact Ext.refl _ | assumption | refine Ext.alloc ?_ _ | refine Ext.drew ?_ | refine Ext.drewN ?_ _ | (refine Ext.setCell ?_ (by simp <;> omega) _) | refine Ext.trans ?_ (by assumption))), givesS_k (by kernel_rfl)⟩
          · intro U fl W hS hl hn hd hR
            obtain ⟨f0, f1, f2, rfl⟩ := flen3 hl
            obtain rfl : f1 = false := hn 1 (by decide) (by kernel_rfl)
            clear hR hl hn hd
            have hT : Rp3 w pb it it2 v vs z _ _ _ W := hS; clear hS
            refine StepZ.go rfl ?_
            go_simp
            exact ⟨Turn.ext rfl (by repeat (first | exact Ext.refl _ | assumption | refine Ext.alloc ?_ _ | refine Ext.drew ?_ | refine Ext.drewN ?_ _ | (refine Ext.setCell ?_ (by simp <;> omega) _) | refine Ext.trans ?_ (by assumption))), givesS_k (by kernel_rfl)⟩
          · intro U fl W hS hl hn hd hR
            obtain ⟨f0, f1, f2, rfl⟩ := flen3 hl
            obtain rfl : f1 = false := hn 1 (by decide) (by kernel_rfl)
            clear hR hl hn hd
            have hT : Rp3 w pb it it2 v vs z _ _ _ W := hS; clear hS
            refine StepZ.go rfl ?_
            go_simp
            exact ⟨Turn.ext rfl (by repeat (first | exact Ext.refl _ | assumption | refine Ext.alloc ?_ _ | refine Ext.drew ?_ | refine Ext.drewN ?_ _ | (refine Ext.setCell ?_ (by simp <;> omega) _) | refine Ext.trans ?_ (by assumption))), givesS_k (by kernel_rfl)⟩
          · intro U fl W hS hl hn hd hR
            obtain ⟨f0, f1, f2, rfl⟩ := flen3 hl
            obtain rfl : f1 = false := hn 1 (by decide) (by kernel_rfl)
            clear hR hl hn hd
            have hT : Rp3 w pb it it2 v vs z _ _ _ W := hS; clear hS
            refine StepZ.go rfl ?_
            go_simp
            exact ⟨Turn.ext rfl (by repeat (first | exact Ext.refl _ | assumption | refine Ext.alloc ?_ _ | refine Ext.drew ?_ | refine Ext.drewN ?_ _ | (refine Ext.setCell ?_ (by simp <;> omega) _) | refine Ext.trans ?_ (by assumption))), givesS_k (by kernel_rfl)⟩
          · intro U fl W hS hl hn hd hR
            obtain ⟨f0, f1, f2, rfl⟩ := flen3 hl
            obtain rfl : f1 = false := hn 1 (by decide) (by kernel_rfl)
            clear hR hl hn hd
            have hT : Rp3 w pb it it2 v vs z _ _ _ W := hS; clear hS
            refine StepZ.go rfl ?_
            go_simp
            exact ⟨Turn.ext rfl (by repeat (first | exact Ext.refl _ | assumption | refine Ext.alloc ?_ _ | refine Ext.drew ?_ | refine Ext.drewN ?_ _ | (refine Ext.setCell ?_ (by simp <;> omega) _) | refine Ext.trans ?_ (by assumption))), givesS_k (by kernel_rfl)⟩
          · intro U fl W hS hl hn hd hR
            obtain ⟨f0, f1, f2, rfl⟩ := flen3 hl
            obtain rfl : f1 = false := hn 1 (by decide) (by kernel_rfl)
            clear hR hl hn hd
            have hT : Rp3 w pb it it2 v vs z _ _ _ W := hS; clear hS
            refine StepZ.go rfl ?_
            go_simp
            exact ⟨Turn.ext rfl (by repeat (first | exact Ext.refl _ | assumption | refine Ext.alloc ?_ _ | refine Ext.drew ?_ | refine Ext.drewN ?_ _ | (refine Ext.setCell ?_ (by simp <;> omega) _) | refine Ext.trans ?_ (by assumption))), givesS_k (by kernel_rfl)⟩
          · intro U fl W hS hl hn hd hR
            obtain ⟨f0, f1, f2, rfl⟩ := flen3 hl
            obtain rfl : f0 = false := hn 0 (by decide) (by kernel_rfl)
            obtain rfl : f2 = false := hn 2 (by decide) (by kernel_rfl)
            clear hR hl hn hd
            have hT : Rp3 w pb it it2 v vs z _ _ _ W := hS; clear hS
            refine StepZ.go rfl ?_
            go_simp
            exact ⟨Turn.ext rfl (by repeat (first | exact Ext.refl _ | assumption | refine Ext.alloc ?_ _ | refine Ext.drew ?_ | refine Ext.drewN ?_ _ | (refine Ext.setCell ?_ (by simp <;> omega) _) | refine Ext.trans ?_ (by assumption))), givesS_k (by kernel_rfl)⟩
          · intro U fl W hS hl hn hd hR
            obtain ⟨f0, f1, f2, rfl⟩ := flen3 hl
            obtain rfl : f0 = false := hn 0 (by decide) (by kernel_rfl)
            obtain rfl : f2 = false := hn 2 (by decide) (by kernel_rfl)
            clear hR hl hn hd
            have hT : Rp3 w pb it it2 v vs z _ _ _ W := hS; clear hS
            obtain ⟨y1, yf, yl⟩ := hT.c1
            refine StepZ.go rfl ?_
            go_simp
            exact ⟨Turn.ext rfl (by repeat (first | exact Ext.refl _ | assumption | refine Ext.alloc ?_ _ | refine Ext.drew ?_ | refine Ext.drewN ?_ _ | (refine Ext.setCell ?_ (by simp <;> omega) _) | refine Ext.trans ?_ (by assumption))), givesS_k (by kernel_rfl)⟩
          · intro U fl W hS hl hn hd hR
            obtain ⟨f0, f1, f2, rfl⟩ := flen3 hl
            obtain rfl : f0 = false := hn 0 (by decide) (by kernel_rfl)
            obtain rfl : f2 = false := hn 2 (by decide) (by kernel_rfl)
            clear hR hl hn hd
            have hT : Rp3 w pb it it2 v vs z _ _ _ W := hS; clear hS
            refine StepZ.go rfl ?_
            go_simp
            exact ⟨Turn.ext rfl (by repeat (first | exact Ext.refl _ | assumption | refine Ext.alloc ?_ _ | refine Ext.drew ?_ | refine Ext.drewN ?_ _ | (refine Ext.setCell ?_ (by simp <;> omega) _) | refine Ext.trans ?_ (by assumption))), givesS_k (by kernel_rfl)⟩
          · intro U fl W hS hl hn hd hR
            obtain ⟨f0, f1, f2, rfl⟩ := flen3 hl
            obtain rfl : f0 = false := hn 0 (by decide) (by kernel_rfl)
            obtain rfl : f2 = false := hn 2 (by decide) (by kernel_rfl)
            clear hR hl hn hd
            have hT : Rp3 w pb it it2 v vs z _ _ _ W := hS; clear hS
            refine StepZ.go rfl ?_
            go_simp
            exact ⟨Turn.ext rfl (by repeat (first | exact Ext.refl _ | assumption | refine Ext.alloc ?_ _ | refine Ext.drew ?_ | refine Ext.drewN ?_ _ | (refine Ext.setCell ?_ (by simp <;> omega) _) | refine Ext.trans ?_ (by assumption))), givesS_e (by kernel_rfl) ⟨fun _ => fun _ => ⟨_, rfl, Blk.new W _ _⟩, fun e => absurd e (by decide)⟩⟩
          · intro U fl W hS hl hn hd hR
            obtain ⟨f0, f1, f2, rfl⟩ := flen3 hl
            obtain rfl : f0 = false := hn 0 (by decide) (by kernel_rfl)
            obtain rfl : f2 = false := hn 2 (by decide) (by kernel_rfl)
            have r11 := (hR 11 (by decide) (by kernel_rfl)).1 rfl; obtain ⟨g11, e11_, hb11⟩ := r11 rfl
            clear hR hl hn hd
            have hT : Rp3 w pb it it2 v vs z _ _ _ W := hS; clear hS
            refine StepZ.pushI rfl (.tmp 81) (.tmp 83) rfl w.heap.size v vs ?_ (hT.own rfl) g11 z ?_ (hb11.cell 0 _ rfl) (by omega) hT.ext.size fun v' w' ho hg hk => ⟨Turn.sp rfl (hT.app hg) (fun k9 v9 hk9 h9 => ⟨fun e => by subst e; exact (fun h0 => absurd (show true = false from h0) (by decide)), fun e => by subst e; exact clo_no hk9 (by kernel_rfl)⟩), givesS_e (by kernel_rfl) ⟨fun e => absurd e (by decide), fun _ => ApQ.of ho⟩⟩ <;> (go_simp <;> exact e11_)
          · intro U fl W hS hl hn hd hR
            obtain ⟨f0, f1, f2, rfl⟩ := flen3 hl
            obtain rfl : f1 = false := hn 1 (by decide) (by kernel_rfl)
            clear hR hl hn hd
            have hT : Rp3 w pb it it2 v vs z _ _ _ W := hS; clear hS
            refine StepZ.go rfl ?_
            go_simp
            exact ⟨Turn.ext rfl (by repeat (first | exact Ext.refl _ | assumption | refine Ext.alloc ?_ _ | refine Ext.drew ?_ | refine Ext.drewN ?_ _ | (refine Ext.setCell ?_ (by simp <;> omega) _) | refine Ext.trans ?_ (by assumption))), givesS_k (by kernel_rfl)⟩
          · intro U fl W hS hl hn hd hR
            obtain ⟨f0, f1, f2, rfl⟩ := flen3 hl
            obtain rfl : f1 = false := hn 1 (by decide) (by kernel_rfl)
            clear hR hl hn hd
            have hT : Rp3 w pb it it2 v vs z _ _ _ W := hS; clear hS
            obtain ⟨y1, yf, yl⟩ := hT.c0
            refine StepZ.go rfl ?_
            go_simp
            exact ⟨rfl, Turn.sp rfl hT.sto0 (fun k9 v9 hk9 h9 => ⟨fun e => by subst e; exact (fun h0 => ((h9.1 rfl) h0).sto hT.pb'), fun e => by subst e; exact (((h9.2 rfl)).sto hT.pb')⟩), givesS_k (by kernel_rfl)⟩
          · intro U fl W hS hl hn hd hR
            obtain ⟨f0, f1, f2, rfl⟩ := flen3 hl
            obtain rfl : f2 = false := hn 2 (by decide) (by kernel_rfl)
            clear hR hl hn hd
            have hT : Rp3 w pb it it2 v vs z _ _ _ W := hS; clear hS
            refine StepZ.go rfl ?_
            go_simp
            exact ⟨Turn.ext rfl (by repeat (first | exact Ext.refl _ | assumption | refine Ext.alloc ?_ _ | refine Ext.drew ?_ | refine Ext.drewN ?_ _ | (refine Ext.setCell ?_ (by simp <;> omega) _) | refine Ext.trans ?_ (by assumption))), givesS_k (by kernel_rfl)⟩
          · intro U fl W hS hl hn hd hR
            obtain ⟨f0, f1, f2, rfl⟩ := flen3 hl
            obtain rfl : f0 = true := hd 0 (by decide) (by kernel_rfl)
            obtain rfl : f2 = false := hn 2 (by decide) (by kernel_rfl)
            have r12 := (hR 12 (by decide) (by kernel_rfl)).2 rfl; obtain ⟨X12, n12, c12, e12_, a12⟩ := r12
            clear hR hl hn hd
            have hT : Rp3 w pb it it2 v vs z _ _ _ W := hS; clear hS
            rw [e12_] at a12; (try rw [e12_]); obtain ⟨y1, yf, yl⟩ := hT.c1
            refine StepZ.go rfl ?_
            go_simp
            exact ⟨rfl, Turn.sp rfl (hT.sto1 a12) (fun k9 v9 hk9 h9 => ⟨fun e => by subst e; exact (fun h0 => ((h9.1 rfl) h0).sto hT.pb'), fun e => by subst e; exact (((h9.2 rfl)).sto hT.pb')⟩), givesS_k (by kernel_rfl)⟩
          · intro U W hS hR
            have r12 := (hR 12 (by decide) (by kernel_rfl)).2 rfl; obtain ⟨X12, n12, c12, e12_, a12⟩ := r12
            clear hR
            have hT : Rp3 w pb it it2 v vs z true true true W := hS; clear hS
            simp only [putAll, vu, Act.put, List.setIfInBounds_toArray, List.set_cons_zero, List.set_cons_succ]
            (try simp only [e12_])
            have HT3 := Lib.hid hT
            clear hT a12 HR0
            go_wp2_with fail
            go_roundw
            case rel =>
              obtain ⟨A9, n9, c9, h9⟩ := HT3.out.done
              exact ⟨k + 1, ⟨q.ls ++ [b], q.vs ++ [q.lv], 0, false⟩, A9, n9, c9, by omega, rfl, by rw [HLE.out], rfl, by go_num, HN, Lib.hid (by rw [← HZ.out] at *; exact HPN.out _ _ _ _ h9)⟩
            case measure => simp [intOf]; omega
          -- END D5
    case neg =>
      obtain rfl : k = str.size := by omega
      have ik : ¬ (str.size : Int) < (str.size : Int) := by omega
      rw [show str.size = mid.length from HEL.out.symm] at HT
      have HEO : Hid (o = if 1 ≤ q.ls.length ∧ q.ls.length ≤ 16 then some ⟨q.ls, q.vs ++ [q.lv], fs, en⟩ else none) := Lib.hid (by rw [HE.out, HT.out])
      have HI9 : Hid (itemsL ⟨q.ls, q.vs ++ [q.lv], fs, en⟩ = it0 ++ q.ls ++ (if en = true then [46] else []) ∧ levsL ⟨q.ls, q.vs ++ [q.lv], fs, en⟩ = vs0 ++ (q.vs ++ [q.lv]) ++ (if en = true then [0] else [])) := Lib.hid (by rw [HIT0.out, HVS0.out]; exact ⟨rfl, rfl⟩)
      have hq1 := HQL.out.1; have hq2 := HQL.out.2; have hi1 := HI0.out.1; have hi2 := HI0.out.2
      obtain ⟨okv, hokv⟩ : ∃ b, b = (decide (1 ≤ (q.ls.length : Int)) && decide ((q.ls.length : Int) ≤ 16)) := ⟨_, rfl⟩
      have HRS : Hid ((okv = true ∧ o = some ⟨q.ls, q.vs ++ [q.lv], fs, en⟩) ∨ (okv = false ∧ o = none)) := Lib.hid (by
        by_cases hin : 1 ≤ q.ls.length ∧ q.ls.length ≤ 16
        · left
          refine ⟨by rw [hokv, decide_eq_true (by omega), decide_eq_true (by omega)]; rfl, by rw [HEO.out, if_pos hin]⟩
        · right
          refine ⟨?_, by rw [HEO.out, if_neg hin]⟩
          rw [hokv, Bool.and_eq_false_iff, decide_eq_false_iff_not, decide_eq_false_iff_not]; omega)
      have CW : Hid (∀ W, Calls Tryz.prog 57 #[.int .i64 (q.ls.length : Int), .int .i64 1, .int .i64 16] W (Same (.bool okv) W)) := Lib.hid (fun W => by rw [hokv]; exact bWithin_any _ _ _ W)
      clear hokv HEO HE HBY HCT HGD HIT0 HVS0 ik hk hlt
      cases en
      case false =>
        -- BEGIN E1
        have hI1 := HI9.out.1; have hI2 := HI9.out.2
        simp only [Bool.false_eq_true, if_false, List.append_nil] at hI1 hI2
        have HI1 := Lib.hid hI1; have HI2 := Lib.hid hI2
        clear hI1 hI2 HI9
        go_upto_region 24 with fail
        generalize wr = W at *
        have HPX := HP
        obtain ⟨it, hit⟩ : ∃ x, x = it0 ++ q.ls := ⟨_, rfl⟩
        obtain ⟨vs, hvs⟩ : ∃ x, x = vs0 ++ q.vs := ⟨_, rfl⟩
        obtain ⟨vs2, hvs2⟩ : ∃ x, x = vs ++ [q.lv] := ⟨_, rfl⟩
        obtain ⟨z, hz⟩ : ∃ z, z = q.lv := ⟨_, rfl⟩
        obtain ⟨m, hm⟩ : ∃ m, m = q.ls.length := ⟨_, rfl⟩
        have HRES : Hid ((okv = true ∧ True ∧ ∃ P, o = some P ∧ itemsL P = it ∧ levsL P = vs2) ∨ (okv = false ∧ o = none)) := Lib.hid (by
          rcases HRS.out with ⟨h1, h2⟩ | h3
          · exact .inl ⟨h1, trivial, _, h2, by rw [HI1.out, hit], by rw [HI2.out, hvs2, hvs, List.append_assoc]⟩
          · exact .inr h3)
        have HV2 : Hid (vs2 = vs ++ [z]) := Lib.hid (by rw [hvs2, hz])
        have HL2 : Hid (vs2.length ≤ 300000) := Lib.hid (by rw [hvs2, hvs]; simp; omega)
        have hvl : vs.length ≤ 300000 := by rw [hvs]; simp; omega
        rw [← hit, ← hvs] at HPX
        rw [← hm] at CW
        rw [← hz, ← hm]
        clear hit hvs hvs2 hz hm HP HI1 HI2 HRS
        have y0 := HPX.out.pb'.cell 0 _ rfl; have y1 := HPX.out.pb'.cell 1 _ rfl; have yl := HPX.out.pb'.lt; have F := HPX.out.pb'.frozen
        -- STAGE S1
        go_upto_region 25 with (at_builtin; refine list_push rfl (.tmp 101) (.tmp 103) rfl w.heap.size (.slice A n c) vs (by rfl) (HPX.out.own.alloc _) W.heap.size z (by rfl) (by simp) (by omega) (by have := HPX.out.ext.size; simp; omega) ?_; intro v' w4 ho hg; rw [← HV2.out] at ho; obtain ⟨A9, c9, rfl, _, _⟩ := Own.form ho (by have := HL2.out; omega); have HP4 := Lib.hid (RpW.push (HPX.out.next ((Ext.refl W).alloc (.cells #[.int .i64 z] 3))) hg ho); have HB4 := Lib.hid (RpW.kept (HPX.out.next ((Ext.refl W).alloc (.cells #[.int .i64 z] 3))) hg); have q0 := HB4.out.cell 0 _ rfl; have q1 := HB4.out.cell 1 _ rfl; have ql := HB4.out.lt; have F4 := HB4.out.frozen; clear ho hg y0 y1 yl F)
        -- STAGE S2
        clear q0 q1 ql F4 HB4 HPX
        generalize w4.setCell ⟨pb, 1, none⟩ (.slice A9 vs2.length c9) = W5 at *
        have HR5 := Lib.hid ((HP4.out.next (Ext.refl W5).drew).rp5)
        clear HP4
        -- STAGE S3
        refine wp_region_sp [3] [some (.agg #[.string (strL it), .slice A9 vs2.length c9]), some (.int .i64 (m : Int)), some (.bool okv), some (undef), some (.bool okv)] (fun k v fl W => True) (fun fl W => Rp5 w pb it (.slice A9 vs2.length c9) vs2 (fl.getD 0 false) W) (by kernel_rfl) (by kernel_rfl) rfl (by decide) (fun fl W W' h hx => h.next hx) (fun k v fl W W' h hx => trivial) (HR5.out) ⟨?_, ?_, ?_, ?_, ?_, trivial⟩ ?_
        · intro U fl W hS hl hn hd hR
          obtain ⟨f0, rfl⟩ := flen1 hl
          obtain rfl : f0 = false := hn 0 (by decide) (by kernel_rfl)
          clear hR hl hn hd
          have hT : Rp5 w pb it (.slice A9 vs2.length c9) vs2 _ W := hS; clear hS
          have y0 := hT.pb'.cell 0 _ rfl; have y1 := hT.pb'.cell 1 _ rfl; have yl := hT.pb'.lt
          refine StepZ.go rfl ?_
          go_simp
          exact ⟨Turn.ext rfl (by repeat (first | exact Ext.refl _ | assumption | refine Ext.alloc ?_ _ | refine Ext.drew ?_ | refine Ext.drewN ?_ _ | (refine Ext.setCell ?_ (by simp <;> omega) _) | refine Ext.trans ?_ (by assumption))), givesS_k (by kernel_rfl)⟩
        · intro U fl W hS hl hn hd hR
          obtain ⟨f0, rfl⟩ := flen1 hl
          clear hR hl hn hd
          have hT : Rp5 w pb it (.slice A9 vs2.length c9) vs2 _ W := hS; clear hS
          refine StepZ.go rfl ?_
          go_simp
          exact ⟨Turn.ext rfl (by repeat (first | exact Ext.refl _ | assumption | refine Ext.alloc ?_ _ | refine Ext.drew ?_ | refine Ext.drewN ?_ _ | (refine Ext.setCell ?_ (by simp <;> omega) _) | refine Ext.trans ?_ (by assumption))), givesS_k (by kernel_rfl)⟩
        · intro U fl W hS hl hn hd hR
          obtain ⟨f0, rfl⟩ := flen1 hl
          clear hR hl hn hd
          have hT : Rp5 w pb it (.slice A9 vs2.length c9) vs2 _ W := hS; clear hS
          refine StepZ.go rfl ?_
          go_simp
          refine Calls.mono (CW.out _) ?_; rintro e w1 ⟨rfl, rfl⟩; exact ⟨_, rfl, Turn.ext rfl (by repeat (first | exact Ext.refl _ | assumption | refine Ext.alloc ?_ _ | refine Ext.drew ?_ | refine Ext.drewN ?_ _ | (refine Ext.setCell ?_ (by simp <;> omega) _) | refine Ext.trans ?_ (by assumption))), givesS_k (by kernel_rfl)⟩
        · intro U fl W hS hl hn hd hR
          obtain ⟨f0, rfl⟩ := flen1 hl
          obtain rfl : f0 = false := hn 0 (by decide) (by kernel_rfl)
          clear hR hl hn hd
          have hT : Rp5 w pb it (.slice A9 vs2.length c9) vs2 _ W := hS; clear hS
          have y0 := (hT.rb0 rfl).cell 0 _ rfl; have y1 := (hT.rb0 rfl).cell 1 _ rfl; have yl := (hT.rb0 rfl).lt; have yf0 := (hT.rb0 rfl).frozen 0; have yf1 := (hT.rb0 rfl).frozen 1
          refine StepZ.go rfl ?_
          go_simp
          exact ⟨rfl, Turn.sp rfl hT.sto (fun k9 v9 hk9 h9 => trivial), givesS_k (by kernel_rfl)⟩
        · intro U fl W hS hl hn hd hR
          obtain ⟨f0, rfl⟩ := flen1 hl
          clear hR hl hn hd
          have hT : Rp5 w pb it (.slice A9 vs2.length c9) vs2 _ W := hS; clear hS
          refine StepZ.go rfl ?_
          go_simp
          exact ⟨Turn.ext rfl (by repeat (first | exact Ext.refl _ | assumption | refine Ext.alloc ?_ _ | refine Ext.drew ?_ | refine Ext.drewN ?_ _ | (refine Ext.setCell ?_ (by simp <;> omega) _) | refine Ext.trans ?_ (by assumption))), givesS_k (by kernel_rfl)⟩
        · intro U W hS hR
          clear hR
          have hT : Rp5 w pb it (.slice A9 vs2.length c9) vs2 true W := hS; clear hS
          simp only [putAll, vu, Act.put, List.setIfInBounds_toArray, List.set_cons_zero, List.set_cons_succ]
          -- STAGE S4
          have HT5 := Lib.hid hT
          clear hT HR5
          have s0 := (HT5.out.rb1 rfl).cell 0 _ rfl; have s1 := (HT5.out.rb1 rfl).cell 1 _ rfl
          go_wp2_with fail
          refine bodyPost_ret (v := .tuple #[.agg #[.string (strL it), .slice A9 vs2.length c9], .bool okv]) (by simp [results, Tryz.results85, go_sem, s0, s1]) rfl ?_
          have hown := HT5.out.own
          rcases HRES.out with ⟨h1, h2, P, h3, h4, h5⟩ | ⟨h1, h2⟩
          · refine .inl ⟨P, A9, c9, h3, ?_, ?_, HT5.out.ext⟩
            · rw [h4, h5, h1]
            · rw [h5]; exact hown
          · exact .inr ⟨h2, _, A9, _, c9, by rw [h1], HT5.out.ext⟩
        -- END E1
      case true =>
        -- BEGIN E2
        have hI1 := HI9.out.1; have hI2 := HI9.out.2
        simp only [if_true] at hI1 hI2
        have HI1 := Lib.hid hI1; have HI2 := Lib.hid hI2
        clear hI1 hI2 HI9
        go_upto_region 22 with fail
        have HR0 := Lib.hid ((HP.out.next (Ext.refl wr).drew).rp3 (it0 ++ q.ls ++ [46]) q.lv)
        have hap : strL (it0 ++ q.ls) ++ strL [46] = strL (it0 ++ q.ls ++ [46]) := strL_append _ _
        have hz1 : (strL (it0 ++ q.ls)).size ≤ 200000 := by rw [strL_size, List.length_append]; omega
        have hz9 : ¬ 9223372036854775807 < (strL (it0 ++ q.ls)).size + 1 := by omega
        have h46 : strL [46] = ⟨#[46]⟩ := rfl
        rw [h46] at hap
        obtain ⟨it3, hit⟩ : ∃ x, x = it0 ++ q.ls := ⟨_, rfl⟩
        obtain ⟨it, hit2⟩ : ∃ x, x = it0 ++ q.ls ++ [46] := ⟨_, rfl⟩
        obtain ⟨vs3, hvs⟩ : ∃ x, x = vs0 ++ q.vs := ⟨_, rfl⟩
        obtain ⟨vs, hvs3⟩ : ∃ x, x = vs3 ++ [q.lv] := ⟨_, rfl⟩
        obtain ⟨vs2, hvs2⟩ : ∃ x, x = vs ++ [0] := ⟨_, rfl⟩
        obtain ⟨m, hm⟩ : ∃ m, m = q.ls.length := ⟨_, rfl⟩
        obtain ⟨v, hv⟩ : ∃ x, x = Value.slice A n c := ⟨_, rfl⟩
        have HRES : Hid ((okv = true ∧ True ∧ ∃ P, o = some P ∧ itemsL P = it ∧ levsL P = vs2) ∨ (okv = false ∧ o = none)) := Lib.hid (by
          rcases HRS.out with ⟨h1, h2⟩ | h3
          · exact .inl ⟨h1, trivial, _, h2, by rw [HI1.out, hit2], by rw [HI2.out, hvs2, hvs3, hvs]; simp⟩
          · exact .inr h3)
        have HV3 : Hid (vs = vs3 ++ [q.lv]) := Lib.hid hvs3
        have HV2 : Hid (vs2 = vs ++ [0]) := Lib.hid hvs2
        have HL2 : Hid (vs2.length ≤ 300000) := Lib.hid (by rw [hvs2, hvs3, hvs]; simp; omega)
        have hvl : vs.length ≤ 300000 := by rw [hvs3, hvs]; simp; omega
        have hvl3 : vs3.length ≤ 300000 := by rw [hvs]; simp; omega
        rw [← hit2, ← hit, ← hvs, ← hv] at HR0
        rw [← hit2, ← hit] at hap
        rw [← hit] at hz1 hz9
        rw [← hm] at CW
        rw [← hm]
        have HVE := Lib.hid hv
        clear hit hit2 hvs hvs2 hvs3 hm hv HP HI1 HI2 HRS
        refine wp_region_sp [7, 9, 11] [some (.pointer (some ⟨pb, 0, none⟩)), some (.string (strL it3)), some (.string (strL it)), some (.pointer (some ⟨pb, 1, none⟩)), some (v), some (.int .i64 q.lv), none, none, some (.pointer (some ⟨pb, 0, none⟩)), some (undef), some (.pointer (some ⟨pb, 1, none⟩)), some (undef)] (fun k v fl W => (k = 6 → (fun (v : Value) (fl : List Bool) (W : World) => fl.getD 0 false = false → LitQ q.lv v W) v fl W) ∧ (k = 7 → (fun (v : Value) (fl : List Bool) (W : World) => ApQ w (vs3 ++ [q.lv]) v W) v fl W)) (fun fl W => Rp3 w pb it3 it v vs3 q.lv (fl.getD 0 false) (fl.getD 1 false) (fl.getD 2 false) W) (by kernel_rfl) (by kernel_rfl) rfl (by decide) (fun fl W W' h hx => h.next hx) (fun k v fl W W' h hx => ⟨fun e => fun h0 => ((h.1 e) h0).ext hx, fun e => ((h.2 e)).ext hx⟩) (HR0.out) ⟨?_, ?_, ?_, ?_, ?_, ?_, ?_, ?_, ?_, ?_, ?_, ?_, trivial⟩ ?_
        · intro U fl W hS hl hn hd hR
          obtain ⟨f0, f1, f2, rfl⟩ := flen3 hl
          obtain rfl : f1 = false := hn 1 (by decide) (by kernel_rfl)
          clear hR hl hn hd
          have hT : Rp3 w pb it3 it v vs3 q.lv _ _ _ W := hS; clear hS
          refine StepZ.go rfl ?_
          go_simp
          exact ⟨Turn.ext rfl (by repeat (first | exact Ext.refl _ | assumption | refine Ext.alloc ?_ _ | refine Ext.drew ?_ | refine Ext.drewN ?_ _ | (refine Ext.setCell ?_ (by simp <;> omega) _) | refine Ext.trans ?_ (by assumption))), givesS_k (by kernel_rfl)⟩
        · intro U fl W hS hl hn hd hR
          obtain ⟨f0, f1, f2, rfl⟩ := flen3 hl
          obtain rfl : f1 = false := hn 1 (by decide) (by kernel_rfl)
          clear hR hl hn hd
          have hT : Rp3 w pb it3 it v vs3 q.lv _ _ _ W := hS; clear hS
          obtain ⟨y1, yf, yl⟩ := hT.c0
          refine StepZ.go rfl ?_
          go_simp
          exact ⟨Turn.ext rfl (by repeat (first | exact Ext.refl _ | assumption | refine Ext.alloc ?_ _ | refine Ext.drew ?_ | refine Ext.drewN ?_ _ | (refine Ext.setCell ?_ (by simp <;> omega) _) | refine Ext.trans ?_ (by assumption))), givesS_k (by kernel_rfl)⟩
        · intro U fl W hS hl hn hd hR
          obtain ⟨f0, f1, f2, rfl⟩ := flen3 hl
          obtain rfl : f1 = false := hn 1 (by decide) (by kernel_rfl)
          clear hR hl hn hd
          have hT : Rp3 w pb it3 it v vs3 q.lv _ _ _ W := hS; clear hS
          refine StepZ.go rfl ?_
          go_simp
          exact ⟨Turn.ext rfl (by repeat (first | exact Ext.refl _ | assumption | refine Ext.alloc ?_ _ | refine Ext.drew ?_ | refine Ext.drewN ?_ _ | (refine Ext.setCell ?_ (by simp <;> omega) _) | refine Ext.trans ?_ (by assumption))), givesS_k (by kernel_rfl)⟩
        · intro U fl W hS hl hn hd hR
          obtain ⟨f0, f1, f2, rfl⟩ := flen3 hl
          obtain rfl : f0 = false := hn 0 (by decide) (by kernel_rfl)
          obtain rfl : f2 = false := hn 2 (by decide) (by kernel_rfl)
          clear hR hl hn hd
          have hT : Rp3 w pb it3 it v vs3 q.lv _ _ _ W := hS; clear hS
          refine StepZ.go rfl ?_
          go_simp
          exact ⟨Turn.ext rfl (by repeat (first | exact Ext.refl _ | assumption | refine Ext.alloc ?_ _ | refine Ext.drew ?_ | refine Ext.drewN ?_ _ | (refine Ext.setCell ?_ (by simp <;> omega) _) | refine Ext.trans ?_ (by assumption))), givesS_k (by kernel_rfl)⟩
        · intro U fl W hS hl hn hd hR
          obtain ⟨f0, f1, f2, rfl⟩ := flen3 hl
          obtain rfl : f0 = false := hn 0 (by decide) (by kernel_rfl)
          obtain rfl : f2 = false := hn 2 (by decide) (by kernel_rfl)
          clear hR hl hn hd
          have hT : Rp3 w pb it3 it v vs3 q.lv _ _ _ W := hS; clear hS
          obtain ⟨y1, yf, yl⟩ := hT.c1
          refine StepZ.go rfl ?_
          go_simp
          exact ⟨Turn.ext rfl (by repeat (first | exact Ext.refl _ | assumption | refine Ext.alloc ?_ _ | refine Ext.drew ?_ | refine Ext.drewN ?_ _ | (refine Ext.setCell ?_ (by simp <;> omega) _) | refine Ext.trans ?_ (by assumption))), givesS_k (by kernel_rfl)⟩
        · intro U fl W hS hl hn hd hR
          obtain ⟨f0, f1, f2, rfl⟩ := flen3 hl
          obtain rfl : f0 = false := hn 0 (by decide) (by kernel_rfl)
          obtain rfl : f2 = false := hn 2 (by decide) (by kernel_rfl)
          clear hR hl hn hd
          have hT : Rp3 w pb it3 it v vs3 q.lv _ _ _ W := hS; clear hS
          refine StepZ.go rfl ?_
          go_simp
          exact ⟨Turn.ext rfl (by repeat (first | exact Ext.refl _ | assumption | refine Ext.alloc ?_ _ | refine Ext.drew ?_ | refine Ext.drewN ?_ _ | (refine Ext.setCell ?_ (by simp <;> omega) _) | refine Ext.trans ?_ (by assumption))), givesS_k (by kernel_rfl)⟩
        · intro U fl W hS hl hn hd hR
          obtain ⟨f0, f1, f2, rfl⟩ := flen3 hl
          obtain rfl : f0 = false := hn 0 (by decide) (by kernel_rfl)
          obtain rfl : f2 = false := hn 2 (by decide) (by kernel_rfl)
          clear hR hl hn hd
          have hT : Rp3 w pb it3 it v vs3 q.lv _ _ _ W := hS; clear hS
          refine StepZ.go rfl ?_
          go_simp
          exact ⟨Turn.ext rfl (by repeat (first | exact Ext.refl _ | assumption | refine Ext.alloc ?_ _ | refine Ext.drew ?_ | refine Ext.drewN ?_ _ | (refine Ext.setCell ?_ (by simp <;> omega) _) | refine Ext.trans ?_ (by assumption))), givesS_e (by kernel_rfl) ⟨fun _ => fun _ => ⟨_, rfl, Blk.new W _ _⟩, fun e => absurd e (by decide)⟩⟩
        · intro U fl W hS hl hn hd hR
          obtain ⟨f0, f1, f2, rfl⟩ := flen3 hl
          obtain rfl : f0 = false := hn 0 (by decide) (by kernel_rfl)
          obtain rfl : f2 = false := hn 2 (by decide) (by kernel_rfl)
          have r6 := (hR 6 (by decide) (by kernel_rfl)).1 rfl; obtain ⟨g6, e6_, hb6⟩ := r6 rfl
          clear hR hl hn hd
          have hT : Rp3 w pb it3 it v vs3 q.lv _ _ _ W := hS; clear hS
          refine StepZ.pushI rfl (.tmp 94) (.tmp 96) rfl w.heap.size v vs3 ?_ (hT.own rfl) g6 q.lv ?_ (hb6.cell 0 _ rfl) (by omega) hT.ext.size fun v' w' ho hg hk => ⟨Turn.sp rfl (hT.app hg) (fun k9 v9 hk9 h9 => ⟨fun e => by subst e; exact (fun h0 => absurd (show true = false from h0) (by decide)), fun e => by subst e; exact clo_no hk9 (by kernel_rfl)⟩), givesS_e (by kernel_rfl) ⟨fun e => absurd e (by decide), fun _ => ApQ.of ho⟩⟩ <;> (go_simp <;> exact e6_)
        · intro U fl W hS hl hn hd hR
          obtain ⟨f0, f1, f2, rfl⟩ := flen3 hl
          obtain rfl : f1 = false := hn 1 (by decide) (by kernel_rfl)
          clear hR hl hn hd
          have hT : Rp3 w pb it3 it v vs3 q.lv _ _ _ W := hS; clear hS
          refine StepZ.go rfl ?_
          go_simp
          exact ⟨Turn.ext rfl (by repeat (first | exact Ext.refl _ | assumption | refine Ext.alloc ?_ _ | refine Ext.drew ?_ | refine Ext.drewN ?_ _ | (refine Ext.setCell ?_ (by simp <;> omega) _) | refine Ext.trans ?_ (by assumption))), givesS_k (by kernel_rfl)⟩
        · intro U fl W hS hl hn hd hR
          obtain ⟨f0, f1, f2, rfl⟩ := flen3 hl
          obtain rfl : f1 = false := hn 1 (by decide) (by kernel_rfl)
          clear hR hl hn hd
          have hT : Rp3 w pb it3 it v vs3 q.lv _ _ _ W := hS; clear hS
          obtain ⟨y1, yf, yl⟩ := hT.c0
          refine StepZ.go rfl ?_
          go_simp
          exact ⟨rfl, Turn.sp rfl hT.sto0 (fun k9 v9 hk9 h9 => ⟨fun e => by subst e; exact (fun h0 => ((h9.1 rfl) h0).sto hT.pb'), fun e => by subst e; exact (((h9.2 rfl)).sto hT.pb')⟩), givesS_k (by kernel_rfl)⟩
        · intro U fl W hS hl hn hd hR
          obtain ⟨f0, f1, f2, rfl⟩ := flen3 hl
          obtain rfl : f2 = false := hn 2 (by decide) (by kernel_rfl)
          clear hR hl hn hd
          have hT : Rp3 w pb it3 it v vs3 q.lv _ _ _ W := hS; clear hS
          refine StepZ.go rfl ?_
          go_simp
          exact ⟨Turn.ext rfl (by repeat (first | exact Ext.refl _ | assumption | refine Ext.alloc ?_ _ | refine Ext.drew ?_ | refine Ext.drewN ?_ _ | (refine Ext.setCell ?_ (by simp <;> omega) _) | refine Ext.trans ?_ (by assumption))), givesS_k (by kernel_rfl)⟩
        · intro U fl W hS hl hn hd hR
          obtain ⟨f0, f1, f2, rfl⟩ := flen3 hl
          obtain rfl : f0 = true := hd 0 (by decide) (by kernel_rfl)
          obtain rfl : f2 = false := hn 2 (by decide) (by kernel_rfl)
          have r7 := (hR 7 (by decide) (by kernel_rfl)).2 rfl; obtain ⟨X7, n7, c7, e7_, a7⟩ := r7
          clear hR hl hn hd
          have hT : Rp3 w pb it3 it v vs3 q.lv _ _ _ W := hS; clear hS
          rw [e7_] at a7; (try rw [e7_]); obtain ⟨y1, yf, yl⟩ := hT.c1
          refine StepZ.go rfl ?_
          go_simp
          exact ⟨rfl, Turn.sp rfl (hT.sto1 a7) (fun k9 v9 hk9 h9 => ⟨fun e => by subst e; exact (fun h0 => ((h9.1 rfl) h0).sto hT.pb'), fun e => by subst e; exact (((h9.2 rfl)).sto hT.pb')⟩), givesS_k (by kernel_rfl)⟩
        · intro U W hS hR
          have r7 := (hR 7 (by decide) (by kernel_rfl)).2 rfl; obtain ⟨X7, n7, c7, e7_, a7⟩ := r7
          clear hR
          have hT : Rp3 w pb it3 it v vs3 q.lv true true true W := hS; clear hS
          simp only [putAll, vu, Act.put, List.setIfInBounds_toArray, List.set_cons_zero, List.set_cons_succ]
          (try simp only [e7_])
          have HT3 := Lib.hid hT
          clear hT a7 HR0 HVE hap hz1 hz9
          obtain ⟨A, n, c, h9⟩ := HT3.out.done
          rw [← HV3.out] at h9
          have HPX := Lib.hid h9
          clear h9 HT3 HV3
          go_upto_region 24 with fail
          obtain ⟨z, hz⟩ : ∃ z : Int, z = 0 := ⟨_, rfl⟩
          rw [← hz] at HV2
          rw [← hz]
          clear hz
          have y0 := HPX.out.pb'.cell 0 _ rfl; have y1 := HPX.out.pb'.cell 1 _ rfl; have yl := HPX.out.pb'.lt; have F := HPX.out.pb'.frozen
          -- STAGE S1
          go_upto_region 25 with (at_builtin; refine list_push rfl (.tmp 101) (.tmp 103) rfl w.heap.size (.slice A n c) vs (by rfl) (HPX.out.own.alloc _) W.heap.size z (by rfl) (by simp) (by omega) (by have := HPX.out.ext.size; simp; omega) ?_; intro v' w4 ho hg; rw [← HV2.out] at ho; obtain ⟨A9, c9, rfl, _, _⟩ := Own.form ho (by have := HL2.out; omega); have HP4 := Lib.hid (RpW.push (HPX.out.next ((Ext.refl W).alloc (.cells #[.int .i64 z] 3))) hg ho); have HB4 := Lib.hid (RpW.kept (HPX.out.next ((Ext.refl W).alloc (.cells #[.int .i64 z] 3))) hg); have q0 := HB4.out.cell 0 _ rfl; have q1 := HB4.out.cell 1 _ rfl; have ql := HB4.out.lt; have F4 := HB4.out.frozen; clear ho hg y0 y1 yl F)
          -- STAGE S2
          clear q0 q1 ql F4 HB4 HPX
          generalize w4.setCell ⟨pb, 1, none⟩ (.slice A9 vs2.length c9) = W5 at *
          have HR5 := Lib.hid ((HP4.out.next (Ext.refl W5).drew).rp5)
          clear HP4
          -- STAGE S3
          refine wp_region_sp [3] [some (.agg #[.string (strL it), .slice A9 vs2.length c9]), some (.int .i64 (m : Int)), some (.bool okv), some (undef), some (.bool okv)] (fun k v fl W => True) (fun fl W => Rp5 w pb it (.slice A9 vs2.length c9) vs2 (fl.getD 0 false) W) (by kernel_rfl) (by kernel_rfl) rfl (by decide) (fun fl W W' h hx => h.next hx) (fun k v fl W W' h hx => trivial) (HR5.out) ⟨?_, ?_, ?_, ?_, ?_, trivial⟩ ?_
          · intro U fl W hS hl hn hd hR
            obtain ⟨f0, rfl⟩ := flen1 hl
            obtain rfl : f0 = false := hn 0 (by decide) (by kernel_rfl)
            clear hR hl hn hd
            have hT : Rp5 w pb it (.slice A9 vs2.length c9) vs2 _ W := hS; clear hS
            have y0 := hT.pb'.cell 0 _ rfl; have y1 := hT.pb'.cell 1 _ rfl; have yl := hT.pb'.lt
            refine StepZ.go rfl ?_
            go_simp
            exact ⟨Turn.ext rfl (by repeat (first | exact Ext.refl _ | assumption | refine Ext.alloc ?_ _ | refine Ext.drew ?_ | refine Ext.drewN ?_ _ | (refine Ext.setCell ?_ (by simp <;> omega) _) | refine Ext.trans ?_ (by assumption))), givesS_k (by kernel_rfl)⟩
          · intro U fl W hS hl hn hd hR
            obtain ⟨f0, rfl⟩ := flen1 hl
            clear hR hl hn hd
            have hT : Rp5 w pb it (.slice A9 vs2.length c9) vs2 _ W := hS; clear hS
            refine StepZ.go rfl ?_
            go_simp
            exact ⟨Turn.ext rfl (by repeat (first | exact Ext.refl _ | assumption | refine Ext.alloc ?_ _ | refine Ext.drew ?_ | refine Ext.drewN ?_ _ | (refine Ext.setCell ?_ (by simp <;> omega) _) | refine Ext.trans ?_ (by assumption))), givesS_k (by kernel_rfl)⟩
          · intro U fl W hS hl hn hd hR
            obtain ⟨f0, rfl⟩ := flen1 hl
            clear hR hl hn hd
            have hT : Rp5 w pb it (.slice A9 vs2.length c9) vs2 _ W := hS; clear hS
            refine StepZ.go rfl ?_
            go_simp
            refine Calls.mono (CW.out _) ?_; rintro e w1 ⟨rfl, rfl⟩; exact ⟨_, rfl, Turn.ext rfl (by repeat (first | exact Ext.refl _ | assumption | refine Ext.alloc ?_ _ | refine Ext.drew ?_ | refine Ext.drewN ?_ _ | (refine Ext.setCell ?_ (by simp <;> omega) _) | refine Ext.trans ?_ (by assumption))), givesS_k (by kernel_rfl)⟩
          · intro U fl W hS hl hn hd hR
            obtain ⟨f0, rfl⟩ := flen1 hl
            obtain rfl : f0 = false := hn 0 (by decide) (by kernel_rfl)
            clear hR hl hn hd
            have hT : Rp5 w pb it (.slice A9 vs2.length c9) vs2 _ W := hS; clear hS
            have y0 := (hT.rb0 rfl).cell 0 _ rfl; have y1 := (hT.rb0 rfl).cell 1 _ rfl; have yl := (hT.rb0 rfl).lt; have yf0 := (hT.rb0 rfl).frozen 0; have yf1 := (hT.rb0 rfl).frozen 1
            refine StepZ.go rfl ?_
            go_simp
            exact ⟨rfl, Turn.sp rfl hT.sto (fun k9 v9 hk9 h9 => trivial), givesS_k (by kernel_rfl)⟩
          · intro U fl W hS hl hn hd hR
            obtain ⟨f0, rfl⟩ := flen1 hl
            clear hR hl hn hd
            have hT : Rp5 w pb it (.slice A9 vs2.length c9) vs2 _ W := hS; clear hS
            refine StepZ.go rfl ?_
            go_simp
            exact ⟨Turn.ext rfl (by repeat (first | exact Ext.refl _ | assumption | refine Ext.alloc ?_ _ | refine Ext.drew ?_ | refine Ext.drewN ?_ _ | (refine Ext.setCell ?_ (by simp <;> omega) _) | refine Ext.trans ?_ (by assumption))), givesS_k (by kernel_rfl)⟩
          · intro U W hS hR
            clear hR
            have hT : Rp5 w pb it (.slice A9 vs2.length c9) vs2 true W := hS; clear hS
            simp only [putAll, vu, Act.put, List.setIfInBounds_toArray, List.set_cons_zero, List.set_cons_succ]
            -- STAGE S4
            have HT5 := Lib.hid hT
            clear hT HR5
            have s0 := (HT5.out.rb1 rfl).cell 0 _ rfl; have s1 := (HT5.out.rb1 rfl).cell 1 _ rfl
            go_wp2_with fail
            refine bodyPost_ret (v := .tuple #[.agg #[.string (strL it), .slice A9 vs2.length c9], .bool okv]) (by simp [results, Tryz.results85, go_sem, s0, s1]) rfl ?_
            have hown := HT5.out.own
            rcases HRES.out with ⟨h1, h2, P, h3, h4, h5⟩ | ⟨h1, h2⟩
            · refine .inl ⟨P, A9, c9, h3, ?_, ?_, HT5.out.ext⟩
              · rw [h4, h5, h1]
              · rw [h5]; exact hown
            · exact .inr ⟨h2, _, A9, _, c9, by rw [h1], HT5.out.ext⟩
        -- END E2
end Go.Proofs.YtccdnieoaejgdaaGreatDoor
