/-
  Walk: Print, the text of a fount.
-/
import Derived.Test.YtaopcpfgmjpliaaDoorTextOf
import Derived.Deep.RegionHeld3
namespace Go.Proofs.YtaopcpfgmjpliaaDoor
open Go.RowKit

/-- The tables that Print reads. -/
structure Tabs (w : World) : Prop where
  pow : Lib.TabIs Tryd.prog w "internal/strconv.uint64pow10" .u64 Lib.pow10Tab
  k1 : w.cell? ⟨0, 1, none⟩ = some (.string ⟨#[108, 101, 116, 116, 101, 114]⟩)
  k2 : w.cell? ⟨0, 2, none⟩ = some (.string ⟨#[108, 105, 103, 97, 116, 117, 114, 101]⟩)
  k3 : w.cell? ⟨0, 3, none⟩ = some (.string ⟨#[115, 112, 97, 99, 101]⟩)
  lt : 0 < w.heap.size
theorem tab_ext {n : String} {g : Nat} {k : IntKind} {zs : List Int} {w w' : World} (hg : Tryd.prog.globalNamed n = some g) (h : Lib.TabIs Tryd.prog w n k zs) (hb : Ext w w') : Lib.TabIs Tryd.prog w' n k zs := by
  unfold Lib.TabIs World.var? at h ⊢
  rw [hg] at h ⊢
  simp only [Option.bind_some] at h ⊢
  have hlt : g < w.heap.size := by
    rcases Nat.lt_or_ge g w.heap.size with h' | h'
    · exact h'
    · rw [Array.getElem?_eq_none h'] at h; cases h
  rw [hb.block hlt]
  exact h
theorem powNamed : Tryd.prog.globalNamed "internal/strconv.uint64pow10" = some 2 := by kernel_rfl
theorem Tabs.ext {w w' : World} (h : Tabs w) (hx : Ext w w') : Tabs w' :=
  ⟨tab_ext powNamed h.pow hx, (hx.cell (p := ⟨_, 1, none⟩) h.lt).trans h.k1, (hx.cell (p := ⟨_, 2, none⟩) h.lt).trans h.k2, (hx.cell (p := ⟨_, 3, none⟩) h.lt).trans h.k3, Nat.lt_of_lt_of_le h.lt hx.size⟩
theorem Ext.grow {a b : World} (h : Ext a b) (os : Array Obj) : Ext a (Sort.grow b os) :=
  ⟨h.os, h.tape, h.output, by have := h.size; simp [Sort.grow]; omega, fun k hk => by
    have : k < b.heap.size := Nat.lt_of_lt_of_le hk h.size
    show (b.heap ++ os)[k]? = _
    rw [Array.getElem?_append_left this]
    exact h.block hk⟩
theorem itoa_any (n : Int) (w : World) (hn : I64 n) (hT : Tabs w) : Calls Tryd.prog 39 #[.int .i64 n] w (Ret (.string ⟨(Lib.itoa n).toArray⟩) w) :=
  (Tryd.strconv_Itoa n hn.1 hn.2 w hT.pow).mono fun e w' ⟨he, k, os, hw⟩ => ⟨he, by rw [hw]; exact ((Ext.refl w).drewN k).grow os⟩
theorem dec_len (u : Nat) : (Lib.decDigits u).length ≤ u + 1 := by
  induction u using Nat.strongRecOn with
  | _ u ih =>
    unfold Lib.decDigits
    split
    · simp
    · have := ih (u / 10) (by omega)
      rw [List.length_append]; simp; omega
theorem itoa_len {n : Int} (h : 0 ≤ n ∧ n ≤ 100000) : (Lib.itoa n).length ≤ 100001 := by
  unfold Lib.itoa
  rw [if_neg (by omega)]
  have := dec_len n.toNat
  omega

/-- A line of words. -/
def lineW (xs : List ByteArray) : List UInt8 := Lib.join (xs.map (·.data.toList)) [32] ++ [10]
theorem cat_one (a : ByteArray) : (a ++ ⟨#[10]⟩).size = a.size + 1 := ByteArray.size_append
theorem strAdd (a b : ByteArray) : (a ++ b).data.toList = a.data.toList ++ b.data.toList := by simp
set_option maxRecDepth 100000 in
set_option maxHeartbeats 2000000 in
theorem line_any (g n c : Nat) (xs : List ByteArray) (B b : Nat) (v : Value) (l : List UInt8) (w : World) (hn : xs.length = n) (hnc : n ≤ c) (hx : ∀ (j : Nat) x, xs[j]? = some x → w.cell? ⟨g, 0 + j, none⟩ = some (.string x)) (hg : g < w.heap.size)
    (h : Bld w B b v l) (hB : B ≤ w.heap.size) (hl : l.length ≤ 90000000) (hj : (Lib.join (xs.map (·.data.toList)) [32]).length ≤ 1000000) (hm : n ≤ 1000) :
    Calls Tryd.prog 37 #[.slice (some ⟨g, 0, none⟩) n c, .pointer (some ⟨b, 0, none⟩)] w (WrPost (.tuple #[]) B b v (l ++ lineW xs) w) := by
  subst hn
  have cJ := Tryd.strings_Join g 0 c xs ⟨#[32]⟩ w hx hg (by omega) hnc (by show (Lib.join (xs.map (·.data.toList)) [32]).length ≤ _; omega)
  have HH := Lib.hid h; clear h
  have HLW : Hid (lineW xs = Lib.join (xs.map (·.data.toList)) [32] ++ [10]) := Lib.hid rfl
  have HJ : Hid ((Lib.join (xs.map (·.data.toList)) [32]).length ≤ 1000000) := Lib.hid hj
  rw [show (⟨#[32]⟩ : ByteArray).data.toList = [32] from rfl] at cJ
  generalize lineW xs = lw at *
  generalize hjs : Lib.join (xs.map (·.data.toList)) [32] = js at *
  have hz : (⟨js.toArray⟩ : ByteArray).size = js.length := by simp [ByteArray.size]
  have hsz : (⟨js.toArray⟩ : ByteArray).size ≤ 1000000 := by rw [hz]; exact HJ.out
  have HZ := Lib.hid hz
  have HD : Hid ((⟨js.toArray⟩ : ByteArray).data.toList = js) := Lib.hid (by simp)
  generalize (⟨js.toArray⟩ : ByteArray) = jb at *
  have CJ := Lib.hid cJ
  clear cJ hx hjs hj hz
  go_enter Tryd.func37, Tryd.ntmps37
  go_wp2_with (first | (go_at_call 38; refine Calls.mono CJ.out ?_; rintro e w1 ⟨rfl, hb1⟩; have HE1 := Lib.hid (Below.ext hb1); have hs1 := hb1.size; clear hb1) | (go_at_call 31; refine Calls.mono (writeString_any B b v l _ _ (HH.out.ext HE1.out) ?_ ?_) ?_; (have h1 := cat_one jb; omega); (omega); rintro e w2 ⟨rfl, v2, hb2, hbut⟩; have HB2 := Lib.hid hb2; have HBT := Lib.hid hbut; clear hb2 hbut))
  go_end0
  refine ⟨rfl, v2, ?_, (But.of_ext HE1.out _).trans HBT.out⟩
  have := HB2.out
  rw [strAdd, HD.out] at this
  rw [HLW.out]; exact this

def kindW (k : Int) : ByteArray := if k = 1 then ⟨#[108, 101, 116, 116, 101, 114]⟩ else if k = 2 then ⟨#[108, 105, 103, 97, 116, 117, 114, 101]⟩ else ⟨#[115, 112, 97, 99, 101]⟩
def numW (n : Int) : ByteArray := ⟨(Lib.itoa n).toArray⟩
def headW (f : FT) : List ByteArray := [⟨#[102, 111, 117, 110, 116]⟩, f.name, numW f.body]
def sortW (x : TS) : List ByteArray := if x.kind = 3 then [kindW x.kind, x.name, numW x.width] else [kindW x.kind, x.name, x.text, numW x.width]
def fountTo (f : FT) : Nat → List UInt8
  | 0 => lineW (headW f)
  | k + 1 => fountTo f k ++ lineW (sortW (f.sorts.getD k TS.zero))
def fountR (f : FT) : List UInt8 × Int := if (chk f).2 ≠ 0 then ([], (chk f).2) else (fountTo f f.sorts.length, 0)
def fountV (f : FT) : Value := .tuple #[.string ⟨(fountR f).1.toArray⟩, .int .i64 (fountR f).2]
theorem data_len (x : ByteArray) : x.data.toList.length = x.size := rfl
theorem join3_len (a b c : ByteArray) : (Lib.join ([a, b, c].map (·.data.toList)) [32]).length = a.size + b.size + c.size + 2 := by
  show (Lib.join [a.data.toList, b.data.toList, c.data.toList] [32]).length = _
  rw [Lib.join_cons]
  simp only [Lib.joinTail, List.map_cons, List.map_nil, List.flatten_cons, List.flatten_nil, List.length_append, List.length_cons, List.length_nil, data_len]
  omega
theorem join4_len (a b c d : ByteArray) : (Lib.join ([a, b, c, d].map (·.data.toList)) [32]).length = a.size + b.size + c.size + d.size + 3 := by
  show (Lib.join [a.data.toList, b.data.toList, c.data.toList, d.data.toList] [32]).length = _
  rw [Lib.join_cons]
  simp only [Lib.joinTail, List.map_cons, List.map_nil, List.flatten_cons, List.flatten_nil, List.length_append, List.length_cons, List.length_nil, data_len]
  omega
theorem numW_size {n : Int} (h : 0 ≤ n ∧ n ≤ 100000) : (numW n).size ≤ 100001 := by
  have := itoa_len h
  simpa [numW, ByteArray.size] using this
theorem kindW_size (k : Int) : (kindW k).size ≤ 8 := by
  unfold kindW
  split
  · decide
  · split <;> decide
theorem name_size {s : ByteArray} (h : nameB s = true) : s.size ≤ 12 := by
  unfold nameB at h
  simp only [Bool.and_eq_true, decide_eq_true_eq] at h
  exact h.1.2
theorem name_ok {f : FT} (h : (chk f).2 = 0) : nameB f.name = true := by
  unfold chk at h
  by_cases h1 : nameB f.name = false
  · rw [if_pos h1] at h; exact absurd h (by decide)
  · simpa using h1
theorem sortW_len {f : FT} (h : (chk f).2 = 0) {k : Nat} (hk : k < f.sorts.length) : (Lib.join ((sortW (f.sorts.getD k TS.zero)).map (·.data.toList)) [32]).length ≤ 200000 := by
  obtain ⟨_, h2, h3, _⟩ := sort_ok h hk
  have h4 := text_size h hk
  generalize f.sorts.getD k TS.zero = x at *
  have h5 := name_size h3
  have h6 := numW_size (n := x.width) (by omega)
  have h7 := kindW_size x.kind
  unfold sortW
  split
  · rw [join3_len]; omega
  · rw [join4_len]; omega
theorem headW_len {f : FT} (h : (chk f).2 = 0) : (Lib.join ((headW f).map (·.data.toList)) [32]).length ≤ 200000 := by
  have h5 := name_size (name_ok h)
  obtain ⟨⟨h1, h2⟩, _⟩ := chk_zero h
  have h6 := numW_size (n := f.body) (by omega)
  unfold headW
  rw [join3_len]
  have : (⟨#[102, 111, 117, 110, 116]⟩ : ByteArray).size = 5 := rfl
  omega
theorem fountTo_len {f : FT} (h : (chk f).2 = 0) : ∀ n, n ≤ f.sorts.length → (fountTo f n).length ≤ 200001 * (n + 1)
  | 0, _ => by
    have := headW_len h
    rw [fountTo, lineW, List.length_append]; simp; omega
  | n + 1, hn => by
    have ih := fountTo_len h n (by omega)
    have := sortW_len h (k := n) (by omega)
    rw [fountTo, List.length_append, lineW, List.length_append]; simp only [List.length_cons, List.length_nil]; omega
theorem box_kept2 {W1 W2 W : World} {B b g : Nat} {v : Value} {l : List UInt8} {T : TypeId} {cs : Array Value} (h : Bld W1 B b v l) (hk : Blk W1 g T cs) (hT : T ≠ 5) (hgb : b < g ∧ g < W1.heap.size) (hb : But (bldL b v) W W2) (hx : Ext W1 W) : Blk W2 g T cs :=
  (hk.ext hx).but hb (h.far hk hT (by omega))
theorem words_at {w : World} {T : TypeId} (xs : List ByteArray) : ∀ (j : Nat) x, xs[j]? = some x → (w.alloc (.cells (xs.map Value.string).toArray T)).cell? ⟨w.heap.size, 0 + j, none⟩ = some (.string x) := fun j x h => by
  rw [World.cell?_alloc_new, Nat.zero_add]
  simp [h]
set_option maxRecDepth 100000 in
set_option maxHeartbeats 4000000 in
theorem print_any (f : FT) (A : Option Addr) (c : Nat) (w : World) (hf : FR w A c f) (hT : Tabs w) :
    Calls Tryd.prog 19 #[f.val A c] w (Ret (fountV f) w) := by
  have cR := fun W h => checkFount_any f A c W h
  unfold ChkV at cR
  have HV : Hid (fountV f = .tuple #[.string ⟨(fountR f).1.toArray⟩, .int .i64 (fountR f).2]) := Lib.hid rfl
  have HF := Lib.hid hf; have HT := Lib.hid hT; have hbody := hf.body; clear hf hT
  by_cases hz : (chk f).2 = 0
  case neg =>
    have HE : Hid (fountR f = ([], (chk f).2)) := Lib.hid (by unfold fountR; rw [if_pos hz])
    generalize fountV f = V at *
    generalize fountR f = r at *
    generalize chk f = p at *
    obtain ⟨n, z⟩ := p
    simp only at cR hz HE
    have e0 : (z != 0) = true := by simpa using hz
    obtain ⟨name, body, ss⟩ := f
    simp only [FT.val] at *
    have CR := Lib.hid cR; clear cR hz
    go_enter Tryd.func19, Tryd.ntmps19
    go_wp2_with (first | (go_at_call 6; refine Calls.mono (CR.out _ ?_) ?_; (exact HF.out.ext (by repeat (first | exact Ext.refl _ | assumption | refine Ext.alloc ?_ _ | refine Ext.drew ?_ | refine Ext.drewN ?_ _ | (refine Ext.setCell ?_ (by simp <;> omega) _) | refine Ext.trans ?_ (by assumption)))); rintro e w1 ⟨rfl, hb⟩))
    go_ret2
    exact Ret.mk' (by rw [HV.out, HE.out]; rfl) (by repeat (first | exact Ext.refl _ | assumption | refine Ext.alloc ?_ _ | refine Ext.drew ?_ | refine Ext.drewN ?_ _ | (refine Ext.setCell ?_ (by simp <;> omega) _) | refine Ext.trans ?_ (by assumption)))
  case pos =>
  have HE : Hid (fountR f = (fountTo f f.sorts.length, 0)) := Lib.hid (by unfold fountR; rw [if_neg (by simpa using hz)])
  have HH : Hid (fountTo f 0 = lineW [⟨#[102, 111, 117, 110, 116]⟩, f.name, numW f.body]) := Lib.hid rfl
  have HHL : Hid ((Lib.join ([⟨#[102, 111, 117, 110, 116]⟩, f.name, numW f.body].map (·.data.toList)) [32]).length ≤ 1000000) := Lib.hid (by have := headW_len hz; unfold headW at this; omega)
  have HN : Hid (∀ k, fountTo f (k + 1) = fountTo f k ++ lineW (sortW (f.sorts.getD k TS.zero))) := Lib.hid (fun _ => rfl)
  have HNL : Hid (∀ k, k < f.sorts.length → (Lib.join ((sortW (f.sorts.getD k TS.zero)).map (·.data.toList)) [32]).length ≤ 1000000) := Lib.hid (fun k hk => by have := sortW_len hz hk; omega)
  have HTL : Hid (∀ k, k ≤ f.sorts.length → (fountTo f k).length ≤ 90000000) := Lib.hid (fun k hk => by have := fountTo_len hz k hk; have := (chk_zero hz).2.2.1; omega)
  have HKD : Hid (∀ k, k < f.sorts.length → (f.sorts.getD k TS.zero).kind = 1 ∨ (f.sorts.getD k TS.zero).kind = 2 ∨ (f.sorts.getD k TS.zero).kind = 3) := Lib.hid (fun k hk => by have := (sort_ok hz hk).1; omega)
  have HWD : Hid (∀ k, k < f.sorts.length → I64 (f.sorts.getD k TS.zero).width) := Lib.hid (fun k hk => by have := (sort_ok hz hk).2.1; unfold I64; omega)
  have hss := (chk_zero hz).2.2.1
  have hs1 := (chk_zero hz).2.1
  rw [hz] at cR
  generalize (chk f).1 = n1 at *
  generalize fountV f = V at *
  generalize fountR f = r at *
  generalize fountTo f = ft at *
  clear hz
  obtain ⟨name, body, ss⟩ := f
  simp only [FT.val] at *
  have CI : Hid (∀ W, Tabs W → Calls Tryd.prog 39 #[.int .i64 body] W (Ret (.string (numW body)) W)) := Lib.hid (fun W h => itoa_any body W hbody h)
  clear hbody
  generalize numW body = nb at *
  have CR := Lib.hid cR; clear cR
  go_enter Tryd.func19, Tryd.ntmps19
  go_wp2_with (first | (go_at_call 6; refine Calls.mono (CR.out _ ?_) ?_; (exact HF.out.ext (by repeat (first | exact Ext.refl _ | assumption | refine Ext.alloc ?_ _ | refine Ext.drew ?_ | refine Ext.drewN ?_ _ | (refine Ext.setCell ?_ (by simp <;> omega) _) | refine Ext.trans ?_ (by assumption)))); rintro e w1 ⟨rfl, hb⟩; have HB1 := Lib.hid ((Blk.new _ _ _).ext hb); have HE1 := Lib.hid (show Ext w w1 from Ext.trans (by repeat (first | exact Ext.refl _ | assumption | refine Ext.alloc ?_ _ | refine Ext.drew ?_ | refine Ext.drewN ?_ _ | (refine Ext.setCell ?_ (by simp <;> omega) _) | refine Ext.trans ?_ (by assumption))) hb); obtain ⟨k0, k1, k2, kl⟩ := HB1.out.c3; clear hb))
  have kl2 : w.heap.size < w1.heap.size + 1 := by omega
  have HB0 : Hid (Bld (w1.alloc (.cells #[.pointer none, .slice none 0 0] 66)) (w1.heap.size + 1) w1.heap.size (.slice none 0 0) []) := Lib.hid (Bld.new _ _ (by omega))
  go_region_held3 (fun W => W.cell? ⟨w.heap.size, 0, none⟩ = some (.string name) ∧ W.cell? ⟨w.heap.size, 1, none⟩ = some (.int .i64 body) ∧ w.heap.size < W.heap.size) (first | exact ⟨x0, x1, xl⟩ | go_keep)
    (first | (go_at_call 39; refine Calls.mono (CI.out _ ?_) ?_; (exact HT.out.ext (HE1.out.trans (by repeat (first | exact Ext.refl _ | assumption | refine Ext.alloc ?_ _ | refine Ext.drew ?_ | refine Ext.drewN ?_ _ | (refine Ext.setCell ?_ (by simp <;> omega) _) | refine Ext.trans ?_ (by assumption))))); rintro e W1 ⟨rfl, hb⟩; have HX1 := Lib.hid (show Ext w1 W1 from Ext.trans (by repeat (first | exact Ext.refl _ | assumption | refine Ext.alloc ?_ _ | refine Ext.drew ?_ | refine Ext.drewN ?_ _ | (refine Ext.setCell ?_ (by simp <;> omega) _) | refine Ext.trans ?_ (by assumption))) hb); have HBW := Lib.hid (HB0.out.ext (Ext.trans (by repeat (first | exact Ext.refl _ | assumption | refine Ext.alloc ?_ _ | refine Ext.drew ?_ | refine Ext.drewN ?_ _ | (refine Ext.setCell ?_ (by simp <;> omega) _) | refine Ext.trans ?_ (by assumption))) hb)); obtain ⟨x0, x1, x2, xl⟩ := (HB1.out.ext HX1.out).c3; have xl2 : w.heap.size < W1.heap.size + 1 := (by omega); clear hb) | (go_at_call 37; refine Calls.mono (line_any _ 3 3 [⟨#[102, 111, 117, 110, 116]⟩, name, nb] (w1.heap.size + 1) w1.heap.size (.slice none 0 0) [] _ rfl (Nat.le_refl _) (words_at _) ?_ (HBW.out.ext (by repeat (first | exact Ext.refl _ | assumption | refine Ext.alloc ?_ _ | refine Ext.drew ?_ | refine Ext.drewN ?_ _ | (refine Ext.setCell ?_ (by simp <;> omega) _) | refine Ext.trans ?_ (by assumption)))) ?_ (by simp) HHL.out (by omega)) ?_; (simp); (have := HBW.out.lt; obtain ⟨_, _, hb⟩ := HBW.out.blk; have := hb.lt; simp; omega); rintro e W2 ⟨rfl, v2, hb2, hbut⟩; have HX2 := Lib.hid (But.extL (HX1.out.trans (by repeat (first | exact Ext.refl _ | assumption | refine Ext.alloc ?_ _ | refine Ext.drew ?_ | refine Ext.drewN ?_ _ | (refine Ext.setCell ?_ (by simp <;> omega) _) | refine Ext.trans ?_ (by assumption)))) (HBW.out.ext (by repeat (first | exact Ext.refl _ | assumption | refine Ext.alloc ?_ _ | refine Ext.drew ?_ | refine Ext.drewN ?_ _ | (refine Ext.setCell ?_ (by simp <;> omega) _) | refine Ext.trans ?_ (by assumption)))) (Nat.le_refl _) hbut); have HB2 := Lib.hid hb2; obtain ⟨x0, x1, x2, xl⟩ := (HB1.out.ext HX2.out).c3; clear hb2 hbut))
  obtain ⟨k0, k1, k2, kl⟩ := (HB1.out.ext HX2.out).c3
  clear x0 x1 x2 xl xl2 kl2
  have HB2' : Hid (Bld W2 (w1.heap.size + 1) w1.heap.size v2 (ft 0)) := Lib.hid (by rw [HH.out]; exact HB2.out)
  clear HB2 HH HHL HX1 HBW HB0
  go_wp2
  go_loopw [9, 10, 31] (fun _ _ i wr => ∃ (k : Nat) (v : Value), k ≤ ss.length ∧ i = .int .i64 k ∧ Ext w1 wr ∧ Bld wr (w1.heap.size + 1) w1.heap.size v (ft k)) (fun _ _ i _ => ss.length - (intOf i).toNat)
  case atStart => exact ⟨0, v2, Nat.zero_le _, rfl, HX2.out.trans (by repeat (first | exact Ext.refl _ | assumption | refine Ext.alloc ?_ _ | refine Ext.drew ?_ | refine Ext.drewN ?_ _ | (refine Ext.setCell ?_ (by simp <;> omega) _) | refine Ext.trans ?_ (by assumption))), HB2'.out.ext (by repeat (first | exact Ext.refl _ | assumption | refine Ext.alloc ?_ _ | refine Ext.drew ?_ | refine Ext.drewN ?_ _ | (refine Ext.setCell ?_ (by simp <;> omega) _) | refine Ext.trans ?_ (by assumption)))⟩
  case round =>
    obtain ⟨k, v, hk, rfl, hxr, hbl⟩ := hrel
    have HXR := Lib.hid hxr; have HBL := Lib.hid hbl
    have hbs : w1.heap.size < wr.heap.size := by obtain ⟨p, _, hb⟩ := hbl.blk; exact hb.lt
    have HLN := Lib.hid (HTL.out k hk)
    clear hxr hbl HX2 HB2' k0 k1 k2 kl
    by_cases hlt : k < ss.length
    case pos =>
      obtain ⟨b', off', rfl, hbw', hcell'⟩ := (HF.out.rt.ext (HE1.out.trans HXR.out)).2.2 (by show 0 < ss.length; omega)
      obtain ⟨c2, c3, c4, c5⟩ := hcell' k hlt
      have hki : (k : Int) < (ss.length : Int) := by omega
      have HNK := HN.out k
      have HJK := HNL.out k hlt
      have hkd := HKD.out k hlt
      have hwd := HWD.out k hlt
      generalize ss.getD k TS.zero = x at *
      obtain ⟨xn, xt, xk, xw⟩ := x
      simp only at c2 c3 c4 c5 hkd hwd
      have CW : Hid (∀ W, Tabs W → Calls Tryd.prog 39 #[.int .i64 xw] W (Ret (.string (numW xw)) W)) := Lib.hid (fun W h => itoa_any xw W hwd h)
      clear hcell' hwd
      have HNW : Hid (∀ k, sortW ⟨xn, xt, k, xw⟩ = if k = 3 then [kindW k, xn, numW xw] else [kindW k, xn, xt, numW xw]) := Lib.hid (fun _ => rfl)
      rcases hkd with rfl | rfl | rfl
      · rw [HNW.out, if_neg (by decide), show kindW 1 = ⟨#[108, 101, 116, 116, 101, 114]⟩ from rfl] at HNK HJK
        generalize numW xw = nw at *
        have HJL := Lib.hid HJK
        have HNK := Lib.hid HNK
        clear HJK HNW
        go_wp2_with (first | (go_at_call 39; refine Calls.mono (CW.out _ ?_) ?_; (exact HT.out.ext (HE1.out.trans (HXR.out.trans (by repeat (first | exact Ext.refl _ | assumption | refine Ext.alloc ?_ _ | refine Ext.drew ?_ | refine Ext.drewN ?_ _ | (refine Ext.setCell ?_ (by simp <;> omega) _) | refine Ext.trans ?_ (by assumption)))))); rintro e W1 ⟨rfl, hb⟩; have HSB := Lib.hid ((Blk.new wr 48 _).ext hb); have HXQ := Lib.hid (HXR.out.trans (Ext.trans (by repeat (first | exact Ext.refl _ | assumption | refine Ext.alloc ?_ _ | refine Ext.drew ?_ | refine Ext.drewN ?_ _ | (refine Ext.setCell ?_ (by simp <;> omega) _) | refine Ext.trans ?_ (by assumption))) hb)); have HBQ := Lib.hid (HBL.out.ext (Ext.trans (by repeat (first | exact Ext.refl _ | assumption | refine Ext.alloc ?_ _ | refine Ext.drew ?_ | refine Ext.drewN ?_ _ | (refine Ext.setCell ?_ (by simp <;> omega) _) | refine Ext.trans ?_ (by assumption))) hb)); have HQS : Hid (w1.heap.size < wr.heap.size ∧ wr.heap.size < W1.heap.size) := Lib.hid ⟨hbs, HSB.out.lt⟩; obtain ⟨s0, s1, s2, s3, sl⟩ := HSB.out.c4; have sl2 : wr.heap.size < W1.heap.size + 1 := (by omega); have g1 := (HT.out.ext (HE1.out.trans HXQ.out)).k1; have gl := (HT.out.ext (HE1.out.trans HXQ.out)).lt; have gl2 : 0 < W1.heap.size + 1 := (by omega); clear hb))
        go_region_held3 (fun W => W.cell? ⟨wr.heap.size, 0, none⟩ = some (.string xn) ∧ W.cell? ⟨wr.heap.size, 1, none⟩ = some (.string xt) ∧ W.cell? ⟨wr.heap.size, 2, none⟩ = some (.int .i64 1) ∧ W.cell? ⟨0, 1, none⟩ = some (.string ⟨#[108, 101, 116, 116, 101, 114]⟩) ∧ wr.heap.size < W.heap.size ∧ 0 < W.heap.size) (first | exact ⟨s0, s1, s2, g1, sl, gl⟩ | go_keep)
          ((go_at_call 37; refine Calls.mono (line_any _ 4 4 [⟨#[108, 101, 116, 116, 101, 114]⟩, xn, xt, nw] (w1.heap.size + 1) w1.heap.size v (ft k) _ rfl (Nat.le_refl _) (words_at _) ?_ (HBQ.out.ext (by repeat (first | exact Ext.refl _ | assumption | refine Ext.alloc ?_ _ | refine Ext.drew ?_ | refine Ext.drewN ?_ _ | (refine Ext.setCell ?_ (by simp <;> omega) _) | refine Ext.trans ?_ (by assumption)))) ?_ HLN.out HJL.out (by omega)) ?_; (simp); (have := HQS.out; simp; omega); rintro e W2 ⟨rfl, v2, hb2, hbut⟩; have HX2 := Lib.hid (But.extL (HXQ.out.trans (by repeat (first | exact Ext.refl _ | assumption | refine Ext.alloc ?_ _ | refine Ext.drew ?_ | refine Ext.drewN ?_ _ | (refine Ext.setCell ?_ (by simp <;> omega) _) | refine Ext.trans ?_ (by assumption)))) (HBQ.out.ext (by repeat (first | exact Ext.refl _ | assumption | refine Ext.alloc ?_ _ | refine Ext.drew ?_ | refine Ext.drewN ?_ _ | (refine Ext.setCell ?_ (by simp <;> omega) _) | refine Ext.trans ?_ (by assumption)))) (Nat.le_refl _) hbut); have HB2 := Lib.hid hb2; obtain ⟨s0, s1, s2, s3, sl⟩ := (box_kept2 HBQ.out HSB.out (by decide) HQS.out hbut (by repeat (first | exact Ext.refl _ | assumption | refine Ext.alloc ?_ _ | refine Ext.drew ?_ | refine Ext.drewN ?_ _ | (refine Ext.setCell ?_ (by simp <;> omega) _) | refine Ext.trans ?_ (by assumption)))).c4; have g1 := (HT.out.ext (HE1.out.trans HX2.out)).k1; have gl := (HT.out.ext (HE1.out.trans HX2.out)).lt; clear hb2 hbut))
        go_wp2
        go_roundw
        case rel => exact ⟨k + 1, v2, by omega, by go_num, HX2.out, by rw [HNK.out]; exact HB2.out⟩
        case measure => simp [intOf]; omega
      · rw [HNW.out, if_neg (by decide), show kindW 2 = ⟨#[108, 105, 103, 97, 116, 117, 114, 101]⟩ from rfl] at HNK HJK
        generalize numW xw = nw at *
        have HJL := Lib.hid HJK
        have HNK := Lib.hid HNK
        clear HJK HNW
        go_wp2_with (first | (go_at_call 39; refine Calls.mono (CW.out _ ?_) ?_; (exact HT.out.ext (HE1.out.trans (HXR.out.trans (by repeat (first | exact Ext.refl _ | assumption | refine Ext.alloc ?_ _ | refine Ext.drew ?_ | refine Ext.drewN ?_ _ | (refine Ext.setCell ?_ (by simp <;> omega) _) | refine Ext.trans ?_ (by assumption)))))); rintro e W1 ⟨rfl, hb⟩; have HSB := Lib.hid ((Blk.new wr 48 _).ext hb); have HXQ := Lib.hid (HXR.out.trans (Ext.trans (by repeat (first | exact Ext.refl _ | assumption | refine Ext.alloc ?_ _ | refine Ext.drew ?_ | refine Ext.drewN ?_ _ | (refine Ext.setCell ?_ (by simp <;> omega) _) | refine Ext.trans ?_ (by assumption))) hb)); have HBQ := Lib.hid (HBL.out.ext (Ext.trans (by repeat (first | exact Ext.refl _ | assumption | refine Ext.alloc ?_ _ | refine Ext.drew ?_ | refine Ext.drewN ?_ _ | (refine Ext.setCell ?_ (by simp <;> omega) _) | refine Ext.trans ?_ (by assumption))) hb)); have HQS : Hid (w1.heap.size < wr.heap.size ∧ wr.heap.size < W1.heap.size) := Lib.hid ⟨hbs, HSB.out.lt⟩; obtain ⟨s0, s1, s2, s3, sl⟩ := HSB.out.c4; have sl2 : wr.heap.size < W1.heap.size + 1 := (by omega); have g1 := (HT.out.ext (HE1.out.trans HXQ.out)).k2; have gl := (HT.out.ext (HE1.out.trans HXQ.out)).lt; have gl2 : 0 < W1.heap.size + 1 := (by omega); clear hb))
        go_region_held3 (fun W => W.cell? ⟨wr.heap.size, 0, none⟩ = some (.string xn) ∧ W.cell? ⟨wr.heap.size, 1, none⟩ = some (.string xt) ∧ W.cell? ⟨wr.heap.size, 2, none⟩ = some (.int .i64 2) ∧ W.cell? ⟨0, 2, none⟩ = some (.string ⟨#[108, 105, 103, 97, 116, 117, 114, 101]⟩) ∧ wr.heap.size < W.heap.size ∧ 0 < W.heap.size) (first | exact ⟨s0, s1, s2, g1, sl, gl⟩ | go_keep)
          ((go_at_call 37; refine Calls.mono (line_any _ 4 4 [⟨#[108, 105, 103, 97, 116, 117, 114, 101]⟩, xn, xt, nw] (w1.heap.size + 1) w1.heap.size v (ft k) _ rfl (Nat.le_refl _) (words_at _) ?_ (HBQ.out.ext (by repeat (first | exact Ext.refl _ | assumption | refine Ext.alloc ?_ _ | refine Ext.drew ?_ | refine Ext.drewN ?_ _ | (refine Ext.setCell ?_ (by simp <;> omega) _) | refine Ext.trans ?_ (by assumption)))) ?_ HLN.out HJL.out (by omega)) ?_; (simp); (have := HQS.out; simp; omega); rintro e W2 ⟨rfl, v2, hb2, hbut⟩; have HX2 := Lib.hid (But.extL (HXQ.out.trans (by repeat (first | exact Ext.refl _ | assumption | refine Ext.alloc ?_ _ | refine Ext.drew ?_ | refine Ext.drewN ?_ _ | (refine Ext.setCell ?_ (by simp <;> omega) _) | refine Ext.trans ?_ (by assumption)))) (HBQ.out.ext (by repeat (first | exact Ext.refl _ | assumption | refine Ext.alloc ?_ _ | refine Ext.drew ?_ | refine Ext.drewN ?_ _ | (refine Ext.setCell ?_ (by simp <;> omega) _) | refine Ext.trans ?_ (by assumption)))) (Nat.le_refl _) hbut); have HB2 := Lib.hid hb2; obtain ⟨s0, s1, s2, s3, sl⟩ := (box_kept2 HBQ.out HSB.out (by decide) HQS.out hbut (by repeat (first | exact Ext.refl _ | assumption | refine Ext.alloc ?_ _ | refine Ext.drew ?_ | refine Ext.drewN ?_ _ | (refine Ext.setCell ?_ (by simp <;> omega) _) | refine Ext.trans ?_ (by assumption)))).c4; have g1 := (HT.out.ext (HE1.out.trans HX2.out)).k2; have gl := (HT.out.ext (HE1.out.trans HX2.out)).lt; clear hb2 hbut))
        go_wp2
        go_roundw
        case rel => exact ⟨k + 1, v2, by omega, by go_num, HX2.out, by rw [HNK.out]; exact HB2.out⟩
        case measure => simp [intOf]; omega
      · rw [HNW.out, if_pos rfl, show kindW 3 = ⟨#[115, 112, 97, 99, 101]⟩ from rfl] at HNK HJK
        generalize numW xw = nw at *
        have HJL := Lib.hid HJK
        have HNK := Lib.hid HNK
        clear HJK HNW
        go_wp2_with (first | (go_at_call 39; refine Calls.mono (CW.out _ ?_) ?_; (exact HT.out.ext (HE1.out.trans (HXR.out.trans (by repeat (first | exact Ext.refl _ | assumption | refine Ext.alloc ?_ _ | refine Ext.drew ?_ | refine Ext.drewN ?_ _ | (refine Ext.setCell ?_ (by simp <;> omega) _) | refine Ext.trans ?_ (by assumption)))))); rintro e W1 ⟨rfl, hb⟩; have HSB := Lib.hid ((Blk.new wr 48 _).ext hb); have HXQ := Lib.hid (HXR.out.trans (Ext.trans (by repeat (first | exact Ext.refl _ | assumption | refine Ext.alloc ?_ _ | refine Ext.drew ?_ | refine Ext.drewN ?_ _ | (refine Ext.setCell ?_ (by simp <;> omega) _) | refine Ext.trans ?_ (by assumption))) hb)); have HBQ := Lib.hid (HBL.out.ext (Ext.trans (by repeat (first | exact Ext.refl _ | assumption | refine Ext.alloc ?_ _ | refine Ext.drew ?_ | refine Ext.drewN ?_ _ | (refine Ext.setCell ?_ (by simp <;> omega) _) | refine Ext.trans ?_ (by assumption))) hb)); have HQS : Hid (w1.heap.size < wr.heap.size ∧ wr.heap.size < W1.heap.size) := Lib.hid ⟨hbs, HSB.out.lt⟩; obtain ⟨s0, s1, s2, s3, sl⟩ := HSB.out.c4; have sl2 : wr.heap.size < W1.heap.size + 1 := (by omega); have g1 := (HT.out.ext (HE1.out.trans HXQ.out)).k3; have gl := (HT.out.ext (HE1.out.trans HXQ.out)).lt; have gl2 : 0 < W1.heap.size + 1 := (by omega); clear hb))
        go_region_held3 (fun W => W.cell? ⟨wr.heap.size, 0, none⟩ = some (.string xn) ∧ W.cell? ⟨wr.heap.size, 1, none⟩ = some (.string xt) ∧ W.cell? ⟨wr.heap.size, 2, none⟩ = some (.int .i64 3) ∧ W.cell? ⟨0, 3, none⟩ = some (.string ⟨#[115, 112, 97, 99, 101]⟩) ∧ wr.heap.size < W.heap.size ∧ 0 < W.heap.size) (first | exact ⟨s0, s1, s2, g1, sl, gl⟩ | go_keep)
          ((go_at_call 37; refine Calls.mono (line_any _ 3 3 [⟨#[115, 112, 97, 99, 101]⟩, xn, nw] (w1.heap.size + 1) w1.heap.size v (ft k) _ rfl (Nat.le_refl _) (words_at _) ?_ (HBQ.out.ext (by repeat (first | exact Ext.refl _ | assumption | refine Ext.alloc ?_ _ | refine Ext.drew ?_ | refine Ext.drewN ?_ _ | (refine Ext.setCell ?_ (by simp <;> omega) _) | refine Ext.trans ?_ (by assumption)))) ?_ HLN.out HJL.out (by omega)) ?_; (simp); (have := HQS.out; simp; omega); rintro e W2 ⟨rfl, v2, hb2, hbut⟩; have HX2 := Lib.hid (But.extL (HXQ.out.trans (by repeat (first | exact Ext.refl _ | assumption | refine Ext.alloc ?_ _ | refine Ext.drew ?_ | refine Ext.drewN ?_ _ | (refine Ext.setCell ?_ (by simp <;> omega) _) | refine Ext.trans ?_ (by assumption)))) (HBQ.out.ext (by repeat (first | exact Ext.refl _ | assumption | refine Ext.alloc ?_ _ | refine Ext.drew ?_ | refine Ext.drewN ?_ _ | (refine Ext.setCell ?_ (by simp <;> omega) _) | refine Ext.trans ?_ (by assumption)))) (Nat.le_refl _) hbut); have HB2 := Lib.hid hb2; obtain ⟨s0, s1, s2, s3, sl⟩ := (box_kept2 HBQ.out HSB.out (by decide) HQS.out hbut (by repeat (first | exact Ext.refl _ | assumption | refine Ext.alloc ?_ _ | refine Ext.drew ?_ | refine Ext.drewN ?_ _ | (refine Ext.setCell ?_ (by simp <;> omega) _) | refine Ext.trans ?_ (by assumption)))).c4; have g1 := (HT.out.ext (HE1.out.trans HX2.out)).k3; have gl := (HT.out.ext (HE1.out.trans HX2.out)).lt; clear hb2 hbut))
        go_wp2
        go_roundw
        case rel => exact ⟨k + 1, v2, by omega, by go_num, HX2.out, by rw [HNK.out]; exact HB2.out⟩
        case measure => simp [intOf]; omega
    case neg =>
      obtain rfl : k = ss.length := by omega
      go_wp2_with (first | (go_at_call 32; refine Calls.mono (string_any (w1.heap.size + 1) w1.heap.size v _ _ HBL.out (by omega)) ?_; rintro e W3 ⟨rfl, hb3⟩; have HB3 := Lib.hid hb3; clear hb3))
      go_ret2
      exact Ret.mk' (by rw [HV.out, HE.out]; rfl) (HE1.out.trans (Below.ext (Below.trans HXR.out HB3.out)))
end Go.Proofs.YtaopcpfgmjpliaaDoor
