/-
  Walk: FewestSorts.
  Walk: the numbers of a list, the last one first (an iterator).
  Hyphens laid into a word, from the last one to the first, and from the first byte to the last: the same. No program in sight.
  Walk: Hyphened.
  Walk: a word is ended (the closure of the reader's line).
-/
import Derived.Test.YtccdnieoaejgdaaGreatDoorT2BA
import Derived.Test.YtccdnieoaejgdaaGreatDoorT2BB
import Derived.Test.YtccdnieoaejgdaaGreatDoorT2AV
import Derived.Test.YtccdnieoaejgdaaGreatDoorT2AJ
import Derived.Test.YtccdnieoaejgdaaGreatDoorT2AX
set_option linter.unusedVariables false
set_option linter.unusedSimpArgs false
set_option linter.unusedSectionVars false
namespace Go.Proofs.YtccdnieoaejgdaaGreatDoor
open Go.RowKit Go.Lib

def fewV (f : FT) (r : RU) (s : ByteArray) : List Int := setV f r s (fewOf f.sorts s.data.toList)
def fewE (f : FT) (r : RU) (s : ByteArray) : Int := setE f r s (fewOf f.sorts s.data.toList)
set_option maxHeartbeats 1000000 in
theorem FewestSorts_any (f : FT) (A : Option Addr) (c : Nat) (r : RU) (a : RuA) (s : ByteArray) (w : World) (hf : FR w A c f) (hr : RuR w a r) (hs : ShortU r) (hz : s.size ≤ 1000000) :
    Calls Tryz.prog 53 #[f.val A c, r.val a, .string s] w (RetSE (fewV f r s) (fewE f r s) w) := by
  have HF := Lib.hid hf; have HR := Lib.hid hr
  have CS := Lib.hid fun W (h : FR W A c f) (k : RuR W a r) => settingF_any f A c r a s W h k hs hz (fewOf f.sorts s.data.toList) (fun he W B d bz h1 h2 => by
    obtain ⟨e1, _, e3⟩ := wordE_ok he
    have h3 := wordB_size e3
    exact fewest_any f A c s B d bz W h1 (chk_few e1) (by omega) h2 (fun k hk => by rcases chk_text e1 hk with h | h | h <;> omega) (fun k hk hn => by rcases chk_text e1 hk with h | h | h <;> omega))
  clear hf hr hs
  unfold RU.val FT.val at *
  go_enter Tryz.func53, Tryz.ntmps53
  go_wp2_with (first | (go_at_call 72; refine Calls.mono (CS.out _ (HF.out.ext (by repeat (first | exact Ext.refl _ | assumption | refine Ext.alloc ?_ _ | refine Ext.drew ?_ | refine Ext.drewN ?_ _ | (refine Ext.setCell ?_ (by simp <;> omega) _) | refine Ext.trans ?_ (by assumption)))) (HR.out.ext (by repeat (first | exact Ext.refl _ | assumption | refine Ext.alloc ?_ _ | refine Ext.drew ?_ | refine Ext.drewN ?_ _ | (refine Ext.setCell ?_ (by simp <;> omega) _) | refine Ext.trans ?_ (by assumption))))) ?_; rintro e w1 ⟨A1, c1, rfl, h1, hx⟩; have HS1 := Lib.hid h1; have HX1 := Lib.hid (Ext.trans (a := w) (by repeat (first | exact Ext.refl _ | assumption | refine Ext.alloc ?_ _ | refine Ext.drew ?_ | refine Ext.drewN ?_ _ | (refine Ext.setCell ?_ (by simp <;> omega) _) | refine Ext.trans ?_ (by assumption))) hx); clear h1 hx))
  go_ret2
  exact ⟨A1, c1, rfl, HS1.out.mono (by simp; omega), HX1.out⟩
end Go.Proofs.YtccdnieoaejgdaaGreatDoor
namespace Go.Proofs.YtccdnieoaejgdaaGreatDoor
open Go.RowKit Go.Shelf
attribute [local go_sem] Oper.semAt_some wide_fn wide_depth

abbrev BkT (n : Nat) := { i : Nat // i < n }
/-- The last k numbers, the last one first. -/
def bkTo (n : Nat) : Nat → List (BkT n)
  | 0 => []
  | k + 1 => if h : n - (k + 1) < n then bkTo n k ++ [⟨n - (k + 1), h⟩] else bkTo n k
theorem bkTo_len {n : Nat} : ∀ {k : Nat}, k ≤ n → (bkTo n k).length = k
  | 0, _ => rfl
  | k + 1, h => by rw [bkTo, dif_pos (by omega), List.length_append, bkTo_len (by omega)]; rfl
theorem backward_any (A : Option Addr) (n c : Nat) (w : World) :
    Calls Tryz.prog 64 #[.slice A n c] w (fun e w' => e = .returned (.func (.func 108) #[] #[.pointer (some ⟨w.heap.size, 0, none⟩)]) ∧ w' = w.alloc (.cells #[.slice A n c] 27)) := by
  go_enter Tryz.func64, Tryz.ntmps64
  go_wp2
  go_ret
  exact ⟨rfl, rfl⟩
/-- What lies there while the numbers come (bz: the block of the list). -/
structure BwS (w0 : World) (A : Option Addr) (c : Nat) (zs : List Int) (bk bz : Nat) (W : World) : Prop where
  ext : Ext w0 W
  ri : RI W A zs.length zs
  bl : 0 < zs.length → ∀ a, A = some a → a.block = bz
  bb : Blk W bk 27 #[.slice A zs.length c]
section
variable {w0 W W' : World} {A : Option Addr} {c bk bz : Nat} {zs : List Int}
theorem BwS.ext' (h : BwS w0 A c zs bk bz W) (hx : Ext W W') : BwS w0 A c zs bk bz W' := ⟨h.ext.trans hx, h.ri.ext hx, h.bl, h.bb.ext hx⟩
theorem BwS.kp (h : BwS w0 A c zs bk bz W) (hk : KpX w0 bk bz W W') : BwS w0 A c zs bk bz W' := by
  refine ⟨hk.1 h.ext, ⟨h.ri.1, h.ri.2.1, fun hn => ?_⟩, h.bl, hk.2.1.trans h.bb⟩
  obtain ⟨b, off, hA, hb, hc⟩ := h.ri.2.2 hn
  have e : b = bz := h.bl hn _ hA
  subst e
  refine ⟨b, off, hA, ?_, fun k hk9 => ?_⟩
  · have h9 := hk.2.2
    rw [Array.getElem?_eq_getElem hb] at h9
    exact (Array.getElem?_eq_some_iff.1 h9).1
  · rw [World.cell?_of_block (w := W) (a := ⟨b, off + k, none⟩) hk.2.2]; exact hc k hk9
end
set_option maxRecDepth 100000 in
set_option maxHeartbeats 8000000 in
theorem backward1_stops (A : Option Addr) (c : Nat) (zs : List Int) (bk bz n : Nat) (w0 w : World) (hn : 1 ≤ n) (hz : zs.length ≤ 1000) (hS : BwS w0 A c zs bk bz w) :
    SeqStopsK Fence.wide n Tryz.prog 108 #[.pointer (some ⟨bk, 0, none⟩)] (fun x : BkT zs.length => #[.int .i64 (x.1 : Nat), .int .i64 (zs.getD x.1 0)]) (KpX w0 bk bz)
      (fun xs => xs = bkTo zs.length zs.length) (fun _ => True) (zs.length + 1) w := fun l J Jx W hW hJ hJx hY h0 => by
  have HS0 := Lib.hid (hS.ext' (hW : Ext w W))
  have HL : Hid (∀ k, k ≤ zs.length → (bkTo zs.length k).length = k) := Lib.hid fun k hk => bkTo_len hk
  have HT : Hid (∀ k j (h : j < zs.length), j + (k + 1) = zs.length → bkTo zs.length (k + 1) = bkTo zs.length k ++ [⟨j, h⟩]) := Lib.hid fun k j h e => by
    obtain rfl : j = zs.length - (k + 1) := by omega
    rw [bkTo, dif_pos h]
  have HJ := Lib.hid hJ; have HJX := Lib.hid hJx; have HY := Lib.hid hY
  clear hJ hJx hY hS hW
  obtain ⟨k0, _, kl⟩ := HS0.out.bb.c1
  have u1 : IntKind.i64.wrap ((zs.length : Int) - 1) = (zs.length : Int) - 1 := IntWalk.i64_in _ (by omega)
  refine callsIn_of_wp Tryz.func108 rfl trivial ?_ rfl
  simp only [Tryz.ntmps108, List.size_toArray, List.length_cons, List.length_nil, Nat.reduceAdd, Nat.reduceSub, Array.replicate_succ, Array.replicate_zero, List.push_toArray, List.append_toArray, List.nil_append, List.cons_append]
  gi_wp2
  gi_loopw [3] (fun i wr => ∃ k : Nat, k ≤ zs.length ∧ i = .int .i64 ((zs.length : Int) - 1 - (k : Int)) ∧ Hid (J (bkTo zs.length k) wr) ∧ Hid (BwS w0 A c zs bk bz wr)) (fun i _ => (intOf i + 1).toNat)
  case atStart => exact ⟨0, by omega, by simp, Lib.hid h0, HS0⟩
  case round =>
    obtain ⟨k, hk, rfl, HJS, HS⟩ := hrel
    clear k0 kl h0 HS0 u1
    obtain ⟨k0, _, kl⟩ := HS.out.bb.c1
    by_cases hlt : k < zs.length
    case neg =>
      obtain rfl : k = zs.length := by omega
      have i1 : ¬ (0 : Int) ≤ (zs.length : Int) - 1 - (zs.length : Int) := by omega
      clear hlt
      gi_wp2
      go_end0
      exact ⟨⟨_, rfl⟩, .inl (HJ.out _ _ _ none HJS.out (Ext.grows (by repeat (first | exact Ext.refl _ | assumption | refine Ext.alloc ?_ _ | refine Ext.drew ?_ | refine Ext.drewN ?_ _ | (refine Ext.setCell ?_ (by simp <;> omega) _) | refine Ext.trans ?_ (by assumption)))) (fun _ e => by cases e))⟩
    case pos =>
      obtain ⟨sb, so, hA, hsb, hsc⟩ := HS.out.ri.2.2 (by omega)
      obtain ⟨j, hjk⟩ : ∃ j : Nat, j + (k + 1) = zs.length := ⟨zs.length - (k + 1), by omega⟩
      have hi : j < zs.length := by omega
      have c0 := hsc j hi
      subst hA
      have HTK := Lib.hid (HT.out k j hi hjk)
      obtain ⟨fn, tmps, assign, body, hy, hR⟩ := HY.out _ ⟨j, hi⟩ _ HJS.out (by rw [HL.out k hk]; omega)
      have HR := Lib.hid hR
      simp only at hy
      have HJK := Lib.hid hjk
      have e1 : (zs.length : Int) - 1 - (k : Int) = (j : Int) := by omega
      have e2 : (0 : Int) ≤ (j : Int) := by omega
      have e3 : (j : Int) < (zs.length : Int) := by omega
      have u2 : IntKind.i64.wrap ((j : Int) - 1) = (j : Int) - 1 := IntWalk.i64_in _ (by omega)
      rw [e1]
      clear hR hsc e1 hjk
      generalize zs.getD j 0 = zj at *
      gi_wp2
      refine HR.out.mono ?_
      rintro e W3 (⟨rfl, hJ3, hk3⟩ | ⟨rfl, hJx3⟩)
      · rw [← HTK.out] at hJ3
        have HJ3 := Lib.hid hJ3; have HS3 := Lib.hid (HS.out.kp hk3); clear hJ3 hk3
        gi_wp2
        go_roundw
        case rel => exact ⟨k + 1, by omega, by have := HJK.out; congr 1; omega, HJ3, HS3⟩
        case measure => simp [intOf]
      · gi_wp2
        refine bodyPost_ret (results_none rfl _ _ _) rfl ?_
        exact ⟨⟨_, rfl⟩, .inr ⟨_, trivial, hJx3⟩⟩
end Go.Proofs.YtccdnieoaejgdaaGreatDoor
namespace Go.Proofs.YtccdnieoaejgdaaGreatDoor

/-- Hyphens at places, the last one laid first. -/
def insL (w : List UInt8) : List Int → List UInt8
  | [] => w
  | p :: zs => (insL w zs).take p.toNat ++ 45 :: (insL w zs).drop p.toNat
theorem insL_len (w : List UInt8) : ∀ zs : List Int, (insL w zs).length = w.length + zs.length
  | [] => rfl
  | p :: zs => by
    rw [insL, List.length_append, List.length_cons, List.length_take, List.length_drop, insL_len w zs, List.length_cons]; omega
theorem insL_drop (w : List UInt8) (zs : List Int) {k : Nat} (hk : k < zs.length) : insL w (zs.drop (zs.length - (k + 1))) = (insL w (zs.drop (zs.length - k))).take (zs.getD (zs.length - (k + 1)) 0).toNat ++ 45 :: (insL w (zs.drop (zs.length - k))).drop (zs.getD (zs.length - (k + 1)) 0).toNat := by
  have h1 : zs.length - (k + 1) < zs.length := by omega
  rw [List.drop_eq_getElem_cons h1, insL, show zs.length - (k + 1) + 1 = zs.length - k by omega, List.getD_eq_getElem?_getD, List.getElem?_eq_getElem h1]
  rfl
/-- Byte by byte: the first n bytes of a word, with hyphens ahead of some. -/
def hyFwd (w : List UInt8) (zs : List Int) : Nat → List UInt8
  | 0 => []
  | i + 1 => hyFwd w zs i ++ ((if (i : Int) ∈ zs then [45] else []) ++ [w.getD i 0])
theorem hyFwd_small {w : List UInt8} {zs : List Int} : ∀ {n : Nat}, n ≤ w.length → (∀ z ∈ zs, (n : Int) ≤ z) → hyFwd w zs n = w.take n
  | 0, _, _ => by simp [hyFwd]
  | n + 1, hn, hz => by
    rw [hyFwd, hyFwd_small (by omega) (fun z h => by have := hz z h; omega), if_neg (fun h => by have := hz _ h; omega), List.take_succ_eq_append_getElem (by omega), List.getD_eq_getElem?_getD, List.getElem?_eq_getElem (by omega)]
    rfl
theorem hyFwd_cons {w : List UInt8} {zs : List Int} {p : Nat} (hp : p < w.length) (hz : ∀ z ∈ zs, (p : Int) < z) : ∀ {n : Nat}, p < n → n ≤ w.length → hyFwd w ((p : Int) :: zs) n = (hyFwd w zs n).take p ++ 45 :: (hyFwd w zs n).drop p
  | 0, h, _ => absurd h (by omega)
  | n + 1, h, hn => by
    have hl : ∀ m, p ≤ m → m ≤ w.length → p ≤ (hyFwd w zs m).length := fun m hm hw => by
      induction m with
      | zero => omega
      | succ m ih =>
        rw [hyFwd, List.length_append, List.length_append]
        rcases Nat.lt_or_ge m p with h1 | h1
        · have h2 : hyFwd w zs m = w.take m := hyFwd_small (by omega) (fun z h => by have := hz z h; omega)
          rw [h2, List.length_take]; simp; omega
        · have := ih h1 (by omega); omega
    by_cases hpn : p = n
    · subst hpn
      have h1 : hyFwd w ((p : Int) :: zs) p = w.take p := hyFwd_small (by omega) (fun z h => by
        rcases List.mem_cons.1 h with h2 | h2
        · omega
        · have := hz z h2; omega)
      have h2 : hyFwd w zs p = w.take p := hyFwd_small (by omega) (fun z h => by have := hz z h; omega)
      have h3 : ¬ (p : Int) ∈ zs := fun h => by have := hz _ h; omega
      have h4 : (w.take p).length = p := by rw [List.length_take]; omega
      rw [hyFwd, hyFwd, h1, h2, if_pos (by simp), if_neg h3, List.nil_append, List.take_append_of_le_length (by omega), List.drop_append_of_le_length (by omega), List.take_of_length_le (l := w.take p) (by omega), List.drop_of_length_le (l := w.take p) (by omega)]
      simp
    · have ih := hyFwd_cons hp hz (n := n) (by omega) (by omega)
      have h5 := hl n (by omega) (by omega)
      have h3 : ((n : Int) ∈ (p : Int) :: zs) ↔ (n : Int) ∈ zs := by
        rw [List.mem_cons]; exact ⟨fun h => h.resolve_left (by omega), .inr⟩
      rw [hyFwd, hyFwd, ih, List.take_append_of_le_length h5, List.drop_append_of_le_length h5]
      simp only [h3, List.append_assoc, List.cons_append]
/-- Rising places. -/
def UpZ (zs : List Int) : Prop := zs.Pairwise (· < ·)
theorem insL_fwd {w : List UInt8} : ∀ {zs : List Int}, UpZ zs → (∀ z ∈ zs, 0 ≤ z ∧ z < (w.length : Int)) → insL w zs = hyFwd w zs w.length
  | [], _, _ => by rw [insL, hyFwd_small (Nat.le_refl _) (by simp), List.take_length]
  | p :: zs, hu, hz => by
    obtain ⟨n, rfl⟩ := Int.eq_ofNat_of_zero_le (hz p (by simp)).1
    have hn := (hz (n : Int) (by simp)).2
    have ih := insL_fwd (w := w) (List.Pairwise.of_cons hu) (fun z h => hz z (by simp [h]))
    rw [insL, ih, Int.toNat_natCast, hyFwd_cons (by omega) (fun z h => List.rel_of_pairwise_cons hu h) (by omega) (Nat.le_refl _)]
end Go.Proofs.YtccdnieoaejgdaaGreatDoor
namespace Go.Proofs.YtccdnieoaejgdaaGreatDoor
open Go.RowKit Go.Shelf
attribute [local go_sem] Oper.semAt_some wide_fn wide_depth

/-- A text and an error. -/
def RetTE (t : ByteArray) (z : Int) (w : World) (e : Ending) (w' : World) : Prop := e = .returned (.tuple #[.string t, .int .i64 z]) ∧ Ext w w'
/-- A hyphen is laid at a place. -/
def insAt (p : Int) (v : List UInt8) : List UInt8 := v.take p.toNat ++ 45 :: v.drop p.toNat
theorem insAt_len (p : Int) (v : List UInt8) : (insAt p v).length = v.length + 1 := by
  unfold insAt; rw [List.length_append, List.length_cons, List.length_take, List.length_drop]; omega
def insF (l : List UInt8) (zs : List Int) (pre : List (BkT zs.length)) : List UInt8 := pre.foldl (fun v x => insAt (zs.getD x.1 0) v) l
theorem insF_snoc (l : List UInt8) (zs : List Int) (pre : List (BkT zs.length)) (x : BkT zs.length) : insF l zs (pre ++ [x]) = insAt (zs.getD x.1 0) (insF l zs pre) := by
  unfold insF; rw [List.foldl_append]; rfl
theorem insF_len (l : List UInt8) (zs : List Int) : ∀ (pre : List (BkT zs.length)) (v : List UInt8), (pre.foldl (fun v x => insAt (zs.getD x.1 0) v) v).length = v.length + pre.length
  | [], v => rfl
  | x :: pre, v => by rw [List.foldl_cons, insF_len l zs pre, insAt_len, List.length_cons]; omega
theorem insF_bk (l : List UInt8) (zs : List Int) : ∀ k, k ≤ zs.length → insF l zs (bkTo zs.length k) = insL l (zs.drop (zs.length - k))
  | 0, _ => by rw [Nat.sub_zero, List.drop_length]; rfl
  | k + 1, h => by
    rw [bkTo, dif_pos (by omega), insF_snoc, insF_bk l zs k (by omega), insL_drop l zs (by omega)]; rfl
theorem insF_all (l : List UInt8) (zs : List Int) : insF l zs (bkTo zs.length zs.length) = insL l zs := by
  rw [insF_bk l zs _ (Nat.le_refl _), Nat.sub_self]; rfl
theorem ins_str (v : List UInt8) (p : Nat) : ((strL v).extract 0 p ++ (⟨#[45]⟩ : ByteArray)) ++ (strL v).extract p (strL v).size = strL (insAt (p : Int) v) := by
  apply bytes_ext
  rw [strL_list]
  unfold insAt
  have h1 : ∀ a b : ByteArray, (a ++ b).data.toList = a.data.toList ++ b.data.toList := fun a b => by simp
  rw [h1, h1, ext_list, ext_list, strL_list, Int.toNat_natCast, strL_size, List.take_of_length_le (l := v.drop p) (by simp)]
  simp
/-- What holds while the hyphens are laid. -/
structure HyI (w : World) (v : List UInt8) (W : World) : Prop where
  ext : Ext w W
  bb : Blk W (w.heap.size + 1) 9 #[.string (strL v)]
theorem HyI.ext' {w W W' : World} {v : List UInt8} (h : HyI w v W) (hx : Ext W W') : HyI w v W' := ⟨h.ext.trans hx, h.bb.ext hx⟩
theorem HyI.from {α : Type} (w : World) (f : α → List UInt8) (B : Nat) (hw : w.heap.size ≤ B) : OwnFrom B (fun a W => HyI w (f a) W) := fun s X Y row h hg hr => by
  refine ⟨h.ext.grown hg (fun k e => by have := (hr k e).1; omega), h.bb.grownB hg (fun e => ?_)⟩
  obtain ⟨_, o, ho, hc⟩ := hr _ e
  have hb := h.bb
  unfold Blk at hb; rw [hb] at ho; cases ho; cases hc
set_option maxRecDepth 100000 in
set_option maxHeartbeats 8000000 in
theorem Hyphened_any (r : RU) (a : RuA) (s : ByteArray) (w : World) (hr : RuR w a r) (hs : ShortU r) (hz : s.size ≤ 1000000) :
    Calls Tryz.prog 17 #[r.val a, .string s] w (RetTE (if ruledE r s = 0 then strL (insL s.data.toList (hyW r s.data.toList)) else ByteArray.empty) (ruledE r s) w) := by
  have HR := Lib.hid hr
  have CR := Lib.hid fun W (h : RuR W a r) => ruled_any r a s W h hs hz
  have HSS : Hid (strL s.data.toList = s) := Lib.hid (bytes_ext (strL_list _))
  clear hr hs
  unfold RU.val at CR ⊢
  by_cases h0 : ruledE r s = 0
  case neg =>
    rw [if_neg h0]
    have H0 := Lib.hid h0
    go_enter Tryz.func17, Tryz.ntmps17
    go_wp2_with (first | (go_at_call 62; refine Calls.mono (CR.out _ (HR.out.ext (by repeat (first | exact Ext.refl _ | assumption | refine Ext.alloc ?_ _ | refine Ext.drew ?_ | refine Ext.drewN ?_ _ | (refine Ext.setCell ?_ (by simp <;> omega) _) | refine Ext.trans ?_ (by assumption))))) ?_; rintro e w1 (⟨hn, _⟩ | ⟨_, p, rfl, hx⟩); (exact absurd hn H0.out); have HX1 := Lib.hid hx; clear hx))
    go_ret2
    exact ⟨rfl, Ext.trans (by repeat (first | exact Ext.refl _ | assumption | refine Ext.alloc ?_ _ | refine Ext.drew ?_ | refine Ext.drewN ?_ _ | (refine Ext.setCell ?_ (by simp <;> omega) _) | refine Ext.trans ?_ (by assumption))) HX1.out⟩
  case pos =>
    rw [if_pos h0, h0]
    have H0 := Lib.hid h0
    have HSZ := Lib.hid (ruledE_size h0)
    have HLE : Hid (∀ z ∈ hyW r s.data.toList, 0 ≤ z ∧ z ≤ (s.size : Int)) := Lib.hid fun z hz => by
      have h := hyRw_at r s.data.toList z (List.mem_filter.1 hz).1
      rwa [show s.data.toList.length = s.size by simp] at h
    have HLN : Hid ((hyW r s.data.toList).length ≤ 31) := Lib.hid (by
      have h1 := List.length_filter_le (hyOk r s.data.toList.length) (hyRw r s.data.toList)
      have h2 := hyRw_len r s.data.toList
      have h3 := ruledE_size h0
      have h4 : s.data.toList.length = s.size := by simp
      unfold hyW; omega)
    clear h0
    refine (callsIn_wide (n := 3)).1 ?_
    refine callsIn_of_wp_marks Tryz.func17 rfl trivial ?_ rfl
    simp only [Tryz.ntmps17, List.size_toArray, List.length_cons, List.length_nil, Nat.reduceAdd, Nat.reduceSub, Array.replicate_succ, Array.replicate_zero, List.push_toArray, List.append_toArray, List.nil_append, List.cons_append]
    refine wpIn_wide.2 ?_
    go_upto_region 5 with (first | (go_at_call 62; refine Calls.mono (CR.out _ (HR.out.ext (by repeat (first | exact Ext.refl _ | assumption | refine Ext.alloc ?_ _ | refine Ext.drew ?_ | refine Ext.drewN ?_ _ | (refine Ext.setCell ?_ (by simp <;> omega) _) | refine Ext.trans ?_ (by assumption))))) ?_; rintro e w1 (⟨_, rb, PA, pc, me, mb, ne, nb, rfl, hrl, hx⟩ | ⟨hn, _⟩); rotate_left 1; (exact absurd H0.out hn); have HRL := Lib.hid hrl; have HX1 := Lib.hid (Ext.trans (a := w) (by repeat (first | exact Ext.refl _ | assumption | refine Ext.alloc ?_ _ | refine Ext.drew ?_ | refine Ext.drewN ?_ _ | (refine Ext.setCell ?_ (by simp <;> omega) _) | refine Ext.trans ?_ (by assumption))) hx); have HB1 := Lib.hid ((Blk.new1 w _ _ _).ext hx); obtain ⟨y1, yf, yl⟩ := HB1.out.c1; clear hrl hx) | (go_at_call 63; refine Calls.mono (hyphens_any r a PA rb pc me mb ne nb s _ HRL.out (by have := HSZ.out; omega)) ?_; rintro e w2 ⟨A2, c2, rfl, hs2, hx⟩; have HS2 := Lib.hid hs2; have HX2 := Lib.hid hx; clear hs2 hx))
    have HI2 : Hid (HyI w s.data.toList w2) := Lib.hid ⟨HX1.out.trans HX2.out, by rw [HSS.out]; exact HB1.out.ext HX2.out⟩
    clear y1 yf yl
    generalize hyW r s.data.toList = zs at *
    have CBK := Lib.hid fun W => backward_any A2 zs.length c2 W
    go_upto_block 0 with (first | (go_at_call 64; refine Calls.mono (CBK.out _) ?_; rintro e w3 ⟨rfl, rfl⟩))
    go_step
    obtain ⟨wq, hwq⟩ : ∃ wq, w2.alloc (.cells #[.slice A2 zs.length c2] 27) = wq := ⟨_, rfl⟩
    have hxq : Ext w2 wq := by rw [← hwq]; exact (by repeat (first | exact Ext.refl _ | assumption | refine Ext.alloc ?_ _ | refine Ext.drew ?_ | refine Ext.drewN ?_ _ | (refine Ext.setCell ?_ (by simp <;> omega) _) | refine Ext.trans ?_ (by assumption)))
    have hK : Blk wq w2.heap.size 27 #[.slice A2 zs.length c2] := by rw [← hwq]; exact Blk.new _ _ _
    rw [hwq]
    obtain ⟨bk, hbk⟩ : ∃ bk, bk = w2.heap.size := ⟨_, rfl⟩
    rw [← hbk] at hK ⊢
    have HIQ := Lib.hid (HI2.out.ext' hxq)
    obtain ⟨bz, hbz⟩ : ∃ bz, w1.heap.size ≤ bz ∧ bz < wq.heap.size ∧ (0 < zs.length → ∀ a, A2 = some a → a.block = bz) := by
      rcases Nat.eq_zero_or_pos zs.length with h0 | h0
      · exact ⟨w1.heap.size, Nat.le_refl _, Nat.lt_of_le_of_lt HX2.out.size (by rw [hbk] at hK; exact hK.lt), fun h => absurd h (by omega)⟩
      · obtain ⟨b, off, hA, hb, _⟩ := HS2.out.ri.2.2 h0
        have h1 := World.ownsRow.lt HS2.out.own b (show (Value.slice A2 zs.length c2).ownBlock = some b by rw [hA]; rfl)
        exact ⟨b, h1.1, Nat.lt_of_lt_of_le hb hxq.size, fun _ a e => by rw [hA] at e; cases e; rfl⟩
    have HBW : Hid (BwS w A2 c2 zs bk bz wq) := Lib.hid ⟨HIQ.out.ext, HS2.out.ri.ext hxq, hbz.2.2, hK⟩
    have HBZ : Hid (w.heap.size + 1 < bz) := Lib.hid (by have := HB1.out.lt; omega)
    have hq2 := hbz.2.1
    have HBN : Hid (w.heap.size + 1 < bk) := Lib.hid (by have := HI2.out.bb.lt; omega)
    have hq0 := HIQ.out.ext.size; have hq1 := hK.lt
    have HLL : Hid (s.data.toList.length = s.size) := Lib.hid (by simp)
    have hzl : zs.length ≤ 1000 := by have := HLN.out; omega
    clear hwq hxq hK hbk hbz
    refine (wpIn_wide (n := 3)).1 ?_
    refine wpIn_rangeFunc_ownG_of_H (gf := 108) (lb := #[.pointer (some ⟨bk, 0, none⟩)]) rfl (by decide) rfl trivial (enters_of Tryz.func108 (by kernel_rfl) rfl)
      (backward1_stops A2 c2 zs bk bz 2 w wq (by decide) hzl HBW.out) (fun h k => KpX.trans h k) (fun W l o o' hl _ _ _ => KpX.of_put (w := wq) hq0 hq1 hq2 W l o' hl) (Below.refl _ _) (fun _ => rfl)
      (fun pre W => HyI w (insF s.data.toList zs pre) W ∧ wq.heap.size ≤ W.heap.size) (fun _ _ _ => False)
      (OwnFrom.and (HyI.from _ _ _ hq0) (size_own _ _)) (fun _ _ _ _ _ h _ _ => h.elim) ⟨HIQ.out, Nat.le_refl _⟩ ?a1 ?assign ?body ?done ?stop (KpX.refl _ _ _)
    case assign =>
      intro l x2 W K hK
      gi_wp2
      exact hK
    case body =>
      rintro l pre ⟨j, hj⟩ wo ⟨hI, hoq⟩ hlen
      have HIO := Lib.hid hI
      have hpl : 0 ≤ zs.getD j 0 ∧ zs.getD j 0 ≤ (s.size : Int) := HLE.out _ (by rw [List.getD_eq_getElem?_getD, List.getElem?_eq_getElem hj]; exact List.getElem_mem _)
      have HSN := Lib.hid (insF_snoc s.data.toList zs pre ⟨j, hj⟩)
      have hvl : (insF s.data.toList zs pre).length = s.size + pre.length := by unfold insF; rw [insF_len s.data.toList, HLL.out]
      have hpn := HLN.out; have hsz := HSZ.out
      obtain ⟨y1, yf, yl⟩ := hI.bb.c1
      simp only [List.getD_eq_getElem?_getD] at hpl HSN
      generalize zs[j]?.getD 0 = z at *
      obtain ⟨p, hp⟩ := Int.eq_ofNat_of_zero_le hpl.1
      subst hp
      generalize insF s.data.toList zs pre = v at *
      have hvz := strL_size v
      have HIS := Lib.hid (ins_str v p)
      obtain ⟨tx, htx⟩ : ∃ tx, tx = strL v := ⟨_, rfl⟩
      rw [← htx] at HIS y1 hvz
      have i1 : (p : Int) ≤ (tx.size : Int) := by omega
      have i1' : p ≤ tx.size := by omega
      have i2 : tx.size ≤ 1000 := by omega
      have j1 : ¬ 9223372036854775807 < p + 1 := by omega
      have j2 : ¬ 9223372036854775807 < p + 1 + (tx.size - p) := by omega
      clear hvz hvl htx
      have mixed : Tryz.prog.follows .mixedOrders = true := by kernel_rfl
      clear hI hlen
      repeat gi_step
      have hbn := HBN.out; have hbz := HBZ.out
      have HN2 : Hid (HyI w (insAt (p : Int) v) (wo.setCell ⟨w.heap.size + 1, 0, none⟩ (.string (strL (insAt (p : Int) v)))).drew) := Lib.hid (by
        have h := HIO.out
        exact (⟨h.ext.setCell (p := ⟨w.heap.size + 1, 0, none⟩) (by simp only; omega) _, h.bb.set_ 0 _⟩ : HyI _ _ _).ext' (Ext.refl _).drew)
      have HKF2 : Hid (KeepsFrom wq.heap.size wo (wo.setCell ⟨w.heap.size + 1, 0, none⟩ (.string (strL (insAt (p : Int) v)))).drew) := Lib.hid (((KeepsOthers.setCell _ _ _).from _).trans ((Ext.refl _).drew.keeps _))
      have HKP2 : Hid (KpX w bk bz wo (wo.setCell ⟨w.heap.size + 1, 0, none⟩ (.string (strL (insAt (p : Int) v)))).drew) := Lib.hid (KpX.trans (KpX.of_setCell (q := ⟨w.heap.size + 1, 0, none⟩) _ (by simp only; omega) (by simp only; omega) (by simp only; omega)) ((Ext.refl _).drew.kpx (by simp [World.setCell]; omega) (by simp [World.setCell]; omega)))
      refine wpIn_region_u (fun W => HyI w (insAt (p : Int) v) W ∧ KeepsFrom wq.heap.size wo W ∧ KpX w bk bz wo W) [?_, ?_, ?_, ?_, ?_, ?_, ?_, ?_, ?_] (by kernel_rfl) (by kernel_rfl) (by kernel_rfl) (by kernel_rfl) rfl (by decide) ?_ ?_
      rotate_left 9
      · iterate 8
          refine StepsU.cons ?_ ?_
          · first | (refine StepZ.off rfl ?_; refine ⟨?_, rfl⟩; rfl) | (refine StepZ.go rfl ?_; go_simp; refine ⟨?_, rfl⟩; rfl)
          simp only [Act.put, List.setIfInBounds_toArray, List.set_cons_zero, List.set_cons_succ]
        refine StepsU.last ?_
        refine StepZ.go rfl ?_
        go_simp
        rw [HIS.out]; refine ⟨rfl, ?_, HN2.out, HKF2.out, HKP2.out⟩; rfl
      intro W hW
      simp only [putAll, Act.put, List.setIfInBounds_toArray, List.set_cons_zero, List.set_cons_succ]
      obtain ⟨h1, h2, h3⟩ := hW
      have HW1 := Lib.hid h1; have HW2 := Lib.hid h2; have HW3 := Lib.hid h3
      clear h1 h2 h3
      gi_wp2
      refine ⟨HW2.out, HW3.out, ?_, by have := HW2.out.size; omega⟩
      rw [HSN.out]
      exact HW1.out
    case done =>
      rintro D xs W hD rfl ⟨hI, _⟩ hK
      rw [insF_all] at hI
      obtain ⟨y1, yf, yl⟩ := hI.bb.c1
      have HI3 := Lib.hid hI
      have HM3 := Lib.hid ((Marks.nil w.heap.size W).cons hK (Nat.le_trans hq0 hD) (fun E hE => by cases hE))
      clear hI hK hD
      dsimp only
      go_wp2
      refine leaves_marks (n0 := w.heap.size) [D] _ HM3.out fun w' hb' hc' => ⟨.tuple #[.string (strL (insL s.data.toList zs)), .int .i64 0], by simp [results, Tryz.results17], ?_⟩
      exact ⟨rfl, Below.trans HI3.out.ext hb'⟩
    case stop => exact fun _ _ _ _ _ _ h _ => h.elim
end Go.Proofs.YtccdnieoaejgdaaGreatDoor
namespace Go.Proofs.YtccdnieoaejgdaaGreatDoor
open Go.RowKit Go.Lib
attribute [local go_sem] stateAt vu known List.map_cons List.map_nil Option.getD_some

/-- The slice of words behind the append. -/
structure ApW (w0 : World) (wb : Nat) (ys : List (List UInt8)) (x : Value) (W : World) : Prop where
  own : OwnW W w0.heap.size x ys
  ne : ∀ k, x.ownBlock = some k → k ≠ wb
theorem ApW.ext {w0 W W' : World} {wb : Nat} {ys : List (List UInt8)} {x : Value} (h : ApW w0 wb ys x W) (hx : Ext W W') : ApW w0 wb ys x W' := ⟨h.own.ext hx, h.ne⟩
theorem ApW.sto {w0 W : World} {wb rb i : Nat} {ys : List (List UInt8)} {x u : Value} {cs : Array Value} (h : ApW w0 wb ys x W) (hr : Blk W rb 148 cs) : ApW w0 wb ys x (W.setCell ⟨rb, i, none⟩ u) :=
  ⟨h.own.keptB (set_grownB W ⟨rb, i, none⟩ u) (fun k hk e => by
    obtain ⟨c9, hb⟩ := h.own.is hk
    have h9 := Option.some.inj e
    simp only at h9
    exact blk_neT hb hr (by decide) h9.symm), h.ne⟩
def ApS (w0 : World) (wb : Nat) (ys : List (List UInt8)) (x : Value) (W : World) : Prop := ∃ X n c, x = .slice X n c ∧ ApW w0 wb ys x W
theorem ApS.of {w0 W : World} {wb : Nat} {ys : List (List UInt8)} {x : Value} (h : ApW w0 wb ys x W) : ApS w0 wb ys x W := let ⟨X, n, c, e⟩ := h.own.slice; ⟨X, n, c, e, h⟩
theorem ApS.ext {w0 W W' : World} {wb : Nat} {ys : List (List UInt8)} {x : Value} (h : ApS w0 wb ys x W) (hx : Ext W W') : ApS w0 wb ys x W' := let ⟨X, n, c, e, h⟩ := h; ⟨X, n, c, e, h.ext hx⟩
theorem ApS.sto {w0 W : World} {wb rb i : Nat} {ys : List (List UInt8)} {x u : Value} {cs : Array Value} (h : ApS w0 wb ys x W) (hr : Blk W rb 148 cs) : ApS w0 wb ys x (W.setCell ⟨rb, i, none⟩ u) := let ⟨X, n, c, e, h⟩ := h; ⟨X, n, c, e, h.sto hr⟩
/-- The append (b) and the store (c). -/
structure Ln1 (w0 : World) (f : FT) (A : Option Addr) (c rb wb xb : Nat) (v : Value) (ws : List (List UInt8)) (cr wd : List UInt8) (b d : Bool) (W : World) : Prop where
  ext : Ext w0 W
  lo : w0.heap.size ≤ rb
  rd0 : d = false → Blk W rb 148 (rdCells f A c v cr)
  rd1 : d = true → ∃ v', Blk W rb 148 (rdCells f A c v' cr) ∧ OwnW W w0.heap.size v' (ws ++ [wd]) ∧ ∀ k, v'.ownBlock = some k → k ≠ wb
  own : b = false → OwnW W w0.heap.size v ws
  wd : Blk W wb 9 #[.string (strL wd)]
  bx : Blk W xb 146 #[.pointer (some ⟨rb, 0, none⟩)]
  lw : w0.heap.size ≤ wb
  ne : ∀ k, v.ownBlock = some k → k ≠ wb
section
variable {w0 W W' : World} {f : FT} {A : Option Addr} {c rb wb xb : Nat} {v : Value} {ws : List (List UInt8)} {cr wd : List UInt8} {b d : Bool}
theorem Ln1.next (h : Ln1 w0 f A c rb wb xb v ws cr wd b d W) (hx : Ext W W') : Ln1 w0 f A c rb wb xb v ws cr wd b d W' :=
  ⟨h.ext.trans hx, h.lo, fun e => (h.rd0 e).ext hx, fun e => let ⟨v', h1, h2, h3⟩ := h.rd1 e; ⟨v', h1.ext hx, h2.ext hx, h3⟩, fun e => (h.own e).ext hx, h.wd.ext hx, h.bx.ext hx, h.lw, h.ne⟩
theorem Ln1.app (h : Ln1 w0 f A c rb wb xb v ws cr wd false false W) (hg : W.grownBy W' v.ownBlock) : Ln1 w0 f A c rb wb xb v ws cr wd true false W' := by
  have ho := h.own rfl
  have far : ∀ {g : Nat} {t : TypeId} {cs : Array Value}, Blk W g t cs → 9 ≠ t → v.ownBlock ≠ some g := fun hb ht e => by
    obtain ⟨c9, h9⟩ := ho.is e
    exact blk_neT h9 hb ht rfl
  exact ⟨h.ext.grown hg (fun k e => (World.ownsRow.lt ho k e).1), h.lo, fun _ => (h.rd0 rfl).grownB hg (far (h.rd0 rfl) (by decide)), fun e => (by cases e), fun e => (by cases e), h.wd.grownB hg (fun e => h.ne _ e rfl), h.bx.grownB hg (far h.bx (by decide)), h.lw, h.ne⟩
theorem Ln1.sto {x : Value} (h : Ln1 w0 f A c rb wb xb v ws cr wd true false W) (ho : OwnW W w0.heap.size x (ws ++ [wd])) (hq : ∀ k, x.ownBlock = some k → k ≠ wb) : Ln1 w0 f A c rb wb xb v ws cr wd true true (W.setCell ⟨rb, 3, none⟩ x) := by
  have hr := h.rd0 rfl
  exact ⟨h.ext.setCell (p := ⟨rb, 3, none⟩) h.lo _, h.lo, fun e => (by cases e), fun _ => ⟨x, hr.set_ 3 x, ((⟨ho, hq⟩ : ApW w0 wb (ws ++ [wd]) x W).sto hr).own, hq⟩, fun e => (by cases e), h.wd.far (p := ⟨rb, 3, none⟩) (blk_neT h.wd hr (by decide)) _, h.bx.far (p := ⟨rb, 3, none⟩) (blk_neT h.bx hr (by decide)) _, h.lw, h.ne⟩
end
/-- What the end of a word leaves. -/
def RetLn (w0 : World) (f : FT) (A : Option Addr) (c rb wb xb : Nat) (ws : List (List UInt8)) (cr wd : List UInt8) (e : Ending) (w' : World) : Prop := (∃ x, e = .returned x) ∧ ∃ v', RdW w0 f A c rb wb xb v' ws cr wd w'
set_option maxRecDepth 100000 in
set_option maxHeartbeats 4000000 in
theorem lineEnd_any (w0 : World) (f : FT) (A : Option Addr) (c rb wb xb : Nat) (v : Value) (ws : List (List UInt8)) (cr wd : List UInt8) (w : World) (h : RdW w0 f A c rb wb xb v ws cr wd w) (hl : ws.length ≤ 900000) :
    Calls Tryz.prog 124 #[.pointer (some ⟨wb, 0, none⟩), .pointer (some ⟨xb, 0, none⟩)] w (RetLn w0 f A c rb wb xb (if wd = [] then ws else ws ++ [wd]) cr []) := by
  have HW := Lib.hid h
  have y1 := h.wd.cell 0 _ rfl; have yl := h.wd.lt; have yf := h.wd.frozen 0
  clear h
  by_cases h0 : wd = []
  · have e1 : (strL wd).toList.isEmpty = true := by subst h0; rw [Go.ByteArray.toList_eq]; rfl
    rw [if_pos h0]
    have H0 := Lib.hid h0
    clear h0
    go_enter Tryz.func124, Tryz.ntmps124
    have h2 : strL [] = ⟨#[]⟩ := rfl
    go_wp2
    refine bodyPost_ret (results_none rfl _ _ _) rfl ?_
    refine ⟨⟨_, rfl⟩, v, ?_⟩
    have h9 := HW.out.word []
    rwa [h2] at h9
  · have e1 : (strL wd).toList.isEmpty = false := by
      rw [Go.ByteArray.toList_eq, List.isEmpty_eq_false_iff]
      rw [strL_list]; exact h0
    rw [if_neg h0]
    clear h0
    go_enter Tryz.func124, Tryz.ntmps124
    go_upto_region 1 with fail
    have HL0 : Hid (Ln1 w0 f A c rb wb xb v ws cr wd false false w.drew) := Lib.hid (by
      have h := HW.out
      exact Ln1.next ⟨h.r.ext, h.r.lo, fun _ => h.r.rd, fun e => (by cases e), fun _ => h.r.own, h.wd, h.bx, h.lw, h.ne⟩ (Ext.refl w).drew)
    obtain ⟨vA, vn, vc, hv⟩ := HW.out.r.own.slice
    have HV := Lib.hid hv
    clear hv
    refine wp_region_sp [7, 10] [some (.pointer (some ⟨rb, 0, none⟩)), some (.pointer (some ⟨rb, 0, none⟩)), some (.pointer (some ⟨rb, 0, none⟩)), some (.pointer (some ⟨rb, 3, none⟩)), some (v), some (.string (strL wd)), none, none, some (.pointer (some ⟨rb, 0, none⟩)), some (.pointer (some ⟨rb, 3, none⟩)), some (undef)] (fun k v fl W => (k = 6 → (fun (v : Value) (fl : List Bool) (W : World) => fl.getD 0 false = false → ∃ g, v = .slice (some ⟨g, 0, none⟩) 1 1 ∧ Blk W g 9 #[.string (strL wd)]) v fl W) ∧ (k = 7 → (fun (v : Value) (fl : List Bool) (W : World) => ApS w0 wb (ws ++ [wd]) v W) v fl W)) (fun fl W => Ln1 w0 f A c rb wb xb v ws cr wd (fl.getD 0 false) (fl.getD 1 false) W) (by kernel_rfl) (by kernel_rfl) rfl (by decide) (fun fl W W' h hx => h.next hx) (fun k v fl W W' h hx => ⟨fun e => fun h0 => let ⟨g, h1, h2⟩ := (((h.1 e)) h0); ⟨g, h1, h2.ext hx⟩, fun e => ((h.2 e)).ext hx⟩) (HL0.out) ⟨?_, ?_, ?_, ?_, ?_, ?_, ?_, ?_, ?_, ?_, ?_, trivial⟩ ?_
    · intro U fl W hS hl hn hd hR
      obtain ⟨f0, f1, rfl⟩ := flen2 hl
      obtain rfl : f1 = false := hn 1 (by decide) (by kernel_rfl)
      clear hR hl hn hd
      have hT : Ln1 w0 f A c rb wb xb v ws cr wd _ _ W := hS; clear hS
      have y1 := hT.bx.cell 0 _ rfl; have l1 := hT.bx.lt
      refine StepZ.go rfl ?_
      go_simp
      exact ⟨Turn.ext rfl (by repeat (first | exact Ext.refl _ | assumption | refine Ext.alloc ?_ _ | refine Ext.drew ?_ | refine Ext.drewN ?_ _ | (refine Ext.setCell ?_ (by simp <;> omega) _) | refine Ext.trans ?_ (by assumption))), givesS_k (by kernel_rfl)⟩
    · intro U fl W hS hl hn hd hR
      obtain ⟨f0, f1, rfl⟩ := flen2 hl
      obtain rfl : f0 = false := hn 0 (by decide) (by kernel_rfl)
      obtain rfl : f1 = false := hn 1 (by decide) (by kernel_rfl)
      clear hR hl hn hd
      have hT : Ln1 w0 f A c rb wb xb v ws cr wd _ _ W := hS; clear hS
      have y1 := hT.bx.cell 0 _ rfl; have l1 := hT.bx.lt
      refine StepZ.go rfl ?_
      go_simp
      exact ⟨Turn.ext rfl (by repeat (first | exact Ext.refl _ | assumption | refine Ext.alloc ?_ _ | refine Ext.drew ?_ | refine Ext.drewN ?_ _ | (refine Ext.setCell ?_ (by simp <;> omega) _) | refine Ext.trans ?_ (by assumption))), givesS_k (by kernel_rfl)⟩
    · intro U fl W hS hl hn hd hR
      obtain ⟨f0, f1, rfl⟩ := flen2 hl
      obtain rfl : f0 = false := hn 0 (by decide) (by kernel_rfl)
      obtain rfl : f1 = false := hn 1 (by decide) (by kernel_rfl)
      clear hR hl hn hd
      have hT : Ln1 w0 f A c rb wb xb v ws cr wd _ _ W := hS; clear hS
      refine StepZ.go rfl ?_
      go_simp
      exact ⟨Turn.ext rfl (by repeat (first | exact Ext.refl _ | assumption | refine Ext.alloc ?_ _ | refine Ext.drew ?_ | refine Ext.drewN ?_ _ | (refine Ext.setCell ?_ (by simp <;> omega) _) | refine Ext.trans ?_ (by assumption))), givesS_k (by kernel_rfl)⟩
    · intro U fl W hS hl hn hd hR
      obtain ⟨f0, f1, rfl⟩ := flen2 hl
      obtain rfl : f0 = false := hn 0 (by decide) (by kernel_rfl)
      obtain rfl : f1 = false := hn 1 (by decide) (by kernel_rfl)
      clear hR hl hn hd
      have hT : Ln1 w0 f A c rb wb xb v ws cr wd _ _ W := hS; clear hS
      refine StepZ.go rfl ?_
      go_simp
      exact ⟨Turn.ext rfl (by repeat (first | exact Ext.refl _ | assumption | refine Ext.alloc ?_ _ | refine Ext.drew ?_ | refine Ext.drewN ?_ _ | (refine Ext.setCell ?_ (by simp <;> omega) _) | refine Ext.trans ?_ (by assumption))), givesS_k (by kernel_rfl)⟩
    · intro U fl W hS hl hn hd hR
      obtain ⟨f0, f1, rfl⟩ := flen2 hl
      obtain rfl : f0 = false := hn 0 (by decide) (by kernel_rfl)
      obtain rfl : f1 = false := hn 1 (by decide) (by kernel_rfl)
      clear hR hl hn hd
      have hT : Ln1 w0 f A c rb wb xb v ws cr wd _ _ W := hS; clear hS
      have y1 := (hT.rd0 rfl).cell 3 v rfl; have l1 := (hT.rd0 rfl).lt
      refine StepZ.go rfl ?_
      go_simp
      exact ⟨Turn.ext rfl (by repeat (first | exact Ext.refl _ | assumption | refine Ext.alloc ?_ _ | refine Ext.drew ?_ | refine Ext.drewN ?_ _ | (refine Ext.setCell ?_ (by simp <;> omega) _) | refine Ext.trans ?_ (by assumption))), givesS_k (by kernel_rfl)⟩
    · intro U fl W hS hl hn hd hR
      obtain ⟨f0, f1, rfl⟩ := flen2 hl
      obtain rfl : f0 = false := hn 0 (by decide) (by kernel_rfl)
      obtain rfl : f1 = false := hn 1 (by decide) (by kernel_rfl)
      clear hR hl hn hd
      have hT : Ln1 w0 f A c rb wb xb v ws cr wd _ _ W := hS; clear hS
      have y1 := hT.wd.cell 0 _ rfl; have l1 := hT.wd.lt
      refine StepZ.go rfl ?_
      go_simp
      exact ⟨Turn.ext rfl (by repeat (first | exact Ext.refl _ | assumption | refine Ext.alloc ?_ _ | refine Ext.drew ?_ | refine Ext.drewN ?_ _ | (refine Ext.setCell ?_ (by simp <;> omega) _) | refine Ext.trans ?_ (by assumption))), givesS_k (by kernel_rfl)⟩
    · intro U fl W hS hl hn hd hR
      obtain ⟨f0, f1, rfl⟩ := flen2 hl
      obtain rfl : f0 = false := hn 0 (by decide) (by kernel_rfl)
      obtain rfl : f1 = false := hn 1 (by decide) (by kernel_rfl)
      clear hR hl hn hd
      have hT : Ln1 w0 f A c rb wb xb v ws cr wd _ _ W := hS; clear hS
      refine StepZ.go rfl ?_
      go_simp
      exact ⟨Turn.ext rfl (by repeat (first | exact Ext.refl _ | assumption | refine Ext.alloc ?_ _ | refine Ext.drew ?_ | refine Ext.drewN ?_ _ | (refine Ext.setCell ?_ (by simp <;> omega) _) | refine Ext.trans ?_ (by assumption))), givesS_e (by kernel_rfl) ⟨fun _ => fun _ => ⟨_, rfl, Blk.new W _ _⟩, fun e => absurd e (by decide)⟩⟩
    · intro U fl W hS hl hn hd hR
      obtain ⟨f0, f1, rfl⟩ := flen2 hl
      obtain rfl : f0 = false := hn 0 (by decide) (by kernel_rfl)
      obtain rfl : f1 = false := hn 1 (by decide) (by kernel_rfl)
      have r6 := (hR 6 (by decide) (by kernel_rfl)).1 rfl; obtain ⟨g6, e6_, hb6⟩ := r6 rfl
      clear hR hl hn hd
      have hT : Ln1 w0 f A c rb wb xb v ws cr wd _ _ W := hS; clear hS
      refine StepZ.appendE strElt rfl (.tmp 8) (.tmp 10) rfl w0.heap.size ws.length v (strVs ws) ?_ (hT.own rfl) g6 [.string (strL wd)] ?_ rfl (fun j y hj => by match j, hj with | 0, hj => simp at hj; subst hj; exact hb6.cell 0 _ rfl) (fun y hy => by simp at hy; subst hy; rfl) (by omega) hT.ext.size fun v' w' ho hg hk => ⟨Turn.sp rfl (hT.app hg) (fun k9 v9 hk9 h9 => ⟨fun e => by subst e; exact (fun h0 => absurd (show true = false from h0) (by decide)), fun e => by subst e; exact clo_no hk9 (by kernel_rfl)⟩), givesS_e (by kernel_rfl) ⟨fun e => absurd e (by decide), fun _ => ApS.of ⟨by unfold OwnW strVs; simpa [strVs] using ho, fun k hk9 => (hk k hk9).elim (fun e => hT.ne k e) (fun e => by have h9 := hT.wd.lt; omega)⟩⟩⟩ <;> (go_simp <;> exact e6_)
    · intro U fl W hS hl hn hd hR
      obtain ⟨f0, f1, rfl⟩ := flen2 hl
      obtain rfl : f1 = false := hn 1 (by decide) (by kernel_rfl)
      clear hR hl hn hd
      have hT : Ln1 w0 f A c rb wb xb v ws cr wd _ _ W := hS; clear hS
      refine StepZ.go rfl ?_
      go_simp
      exact ⟨Turn.ext rfl (by repeat (first | exact Ext.refl _ | assumption | refine Ext.alloc ?_ _ | refine Ext.drew ?_ | refine Ext.drewN ?_ _ | (refine Ext.setCell ?_ (by simp <;> omega) _) | refine Ext.trans ?_ (by assumption))), givesS_k (by kernel_rfl)⟩
    · intro U fl W hS hl hn hd hR
      obtain ⟨f0, f1, rfl⟩ := flen2 hl
      obtain rfl : f1 = false := hn 1 (by decide) (by kernel_rfl)
      clear hR hl hn hd
      have hT : Ln1 w0 f A c rb wb xb v ws cr wd _ _ W := hS; clear hS
      refine StepZ.go rfl ?_
      go_simp
      exact ⟨Turn.ext rfl (by repeat (first | exact Ext.refl _ | assumption | refine Ext.alloc ?_ _ | refine Ext.drew ?_ | refine Ext.drewN ?_ _ | (refine Ext.setCell ?_ (by simp <;> omega) _) | refine Ext.trans ?_ (by assumption))), givesS_k (by kernel_rfl)⟩
    · intro U fl W hS hl hn hd hR
      obtain ⟨f0, f1, rfl⟩ := flen2 hl
      obtain rfl : f0 = true := hd 0 (by decide) (by kernel_rfl)
      obtain rfl : f1 = false := hn 1 (by decide) (by kernel_rfl)
      have r7 := (hR 7 (by decide) (by kernel_rfl)).2 rfl; obtain ⟨X7, n7, c7, e7_, a7⟩ := r7
      clear hR hl hn hd
      have hT : Ln1 w0 f A c rb wb xb v ws cr wd _ _ W := hS; clear hS
      rw [e7_] at a7; (try rw [e7_]); have y1 := (hT.rd0 rfl).cell 3 v rfl; have l1 := (hT.rd0 rfl).lt; have yf := (hT.rd0 rfl).frozen 3
      refine StepZ.go rfl ?_
      go_simp
      exact ⟨rfl, Turn.sp rfl (hT.sto a7.own a7.ne) (fun k9 v9 hk9 h9 => ⟨fun e => by subst e; exact (fun h0 => let ⟨g, h1, h2⟩ := (((h9.1 rfl)) h0); ⟨g, h1, h2.far (p := ⟨rb, 3, none⟩) (blk_neT h2 (hT.rd0 rfl) (by decide)) _⟩), fun e => by subst e; exact (((h9.2 rfl)).sto (hT.rd0 rfl))⟩), givesS_k (by kernel_rfl)⟩
    · intro U W hS hR
      have r7 := (hR 7 (by decide) (by kernel_rfl)).2 rfl; obtain ⟨X7, n7, c7, e7_, a7⟩ := r7
      clear hR
      have hT : Ln1 w0 f A c rb wb xb v ws cr wd true true W := hS; clear hS
      simp only [putAll, vu, Act.put, List.setIfInBounds_toArray, List.set_cons_zero, List.set_cons_succ]
      (try simp only [e7_])
      have y1 := hT.wd.cell 0 _ rfl; have yl := hT.wd.lt; have yf := hT.wd.frozen 0
      have HT := Lib.hid hT
      have h2 : strL [] = ⟨#[]⟩ := rfl
      clear hT a7 HL0
      go_wp2
      refine bodyPost_ret (results_none rfl _ _ _) rfl ?_
      obtain ⟨v', h3, h4, h5⟩ := HT.out.rd1 rfl
      refine ⟨⟨_, rfl⟩, v', ?_⟩
      have h9 : RdW w0 f A c rb wb xb v' (ws ++ [wd]) cr wd W := ⟨⟨HT.out.ext, h3, HT.out.lo, h4⟩, HT.out.wd, HT.out.bx, HT.out.lw, h5⟩
      have h8 := h9.word []
      rwa [h2] at h8
end Go.Proofs.YtccdnieoaejgdaaGreatDoor
