/-
  Walks: PartOf, Find, Printing; the reference's Find and Printing.
-/
import Derived.Test.YtphkffndhifdkaaDoorGcd
import Derived.Test.YtphkffndhifdkaaDoorList
namespace Go.Proofs.YtphkffndhifdkaaDoor
open Go.RowKit

/-- What a look-up answers. -/
def lookR (o : Option Int) : Int × Int := match o with | some k => (k, 0) | none => (0, 6)
def lookV (o : Option Int) : Value := .tuple #[.int .i64 (lookR o).1, .int .i64 (lookR o).2]
theorem lookup_any (b n : Nat) (g : List UInt8 → Option Int) (s : ByteArray) (w : World) (h : KM w b n g) (hs : s.size ≤ maxLen) :
    Calls Tryd.prog 89 #[.map (some b), .string s] w (Same (lookV (g s.data.toList)) w) := by
  have hl := h.look s hs
  have HV : Hid (∀ o, lookV o = .tuple #[.int .i64 (lookR o).1, .int .i64 (lookR o).2]) := Lib.hid (fun _ => rfl)
  have HR1 : Hid (∀ k, lookR (some k) = (k, 0)) := Lib.hid (fun _ => rfl)
  have HR2 : Hid (lookR none = (0, 6)) := Lib.hid rfl
  clear h
  cases ho : g s.data.toList with
  | none =>
    rw [ho] at hl
    simp only [Option.getD_none, Option.isSome_none] at hl
    clear ho
    go_enter Tryd.func89, Tryd.ntmps89
    go_wp2
    go_ret2
    exact ⟨by rw [HV.out, HR2.out]; rfl, rfl⟩
  | some k =>
    rw [ho] at hl
    simp only [Option.getD_some, Option.isSome_some] at hl
    clear ho
    go_enter Tryd.func89, Tryd.ntmps89
    go_wp2
    go_ret2
    exact ⟨by rw [HV.out, HR1.out]; rfl, rfl⟩
def findR (f : FT) (s : ByteArray) : Int × Int := if (chk f).2 ≠ 0 then (0, (chk f).2) else lookR (lookN f.sorts f.sorts.length s.data.toList)
def printingR (f : FT) (s : ByteArray) : Int × Int := if (chk f).2 ≠ 0 then (0, (chk f).2) else lookR (lookT f.sorts f.sorts.length s.data.toList)
def pairV (p : Int × Int) : Value := .tuple #[.int .i64 p.1, .int .i64 p.2]
set_option maxRecDepth 100000 in
set_option maxHeartbeats 2000000 in
theorem find_any (f : FT) (A : Option Addr) (c : Nat) (s : ByteArray) (w : World) (hf : FR w A c f) (hs : s.size ≤ maxLen) :
    Calls Tryd.prog 54 #[f.val A c, .string s] w (Ret (pairV (findR f s)) w) := by
  have cR := fun W h => read_any f A c W h
  have HS := Lib.hid hs; clear hs
  have HV : Hid (∀ p, pairV p = .tuple #[.int .i64 p.1, .int .i64 p.2]) := Lib.hid (fun _ => rfl)
  have HLV : Hid (∀ o, lookV o = .tuple #[.int .i64 (lookR o).1, .int .i64 (lookR o).2]) := Lib.hid (fun _ => rfl)
  have HF := Lib.hid hf; clear hf
  by_cases hz : (chk f).2 = 0
  case neg =>
    have HE : Hid (findR f s = (0, (chk f).2)) := Lib.hid (by unfold findR; rw [if_pos hz])
    generalize findR f s = r at *
    generalize (chk f).1 = n1 at *
    generalize (chk f).2 = z at *
    have e0 : (z != 0) = true := by simpa using hz
    obtain ⟨name, body, ss⟩ := f
    simp only [FT.val] at *
    have CR := Lib.hid cR; clear cR hz
    go_enter Tryd.func54, Tryd.ntmps54
    go_wp2_with (go_at_call 71; refine Calls.mono (CR.out _ ?_) ?_; (exact HF.out.ext (by repeat (first | exact Ext.refl _ | assumption | refine Ext.alloc ?_ _ | refine Ext.drew ?_ | refine Ext.drewN ?_ _ | (refine Ext.setCell ?_ (by simp <;> omega) _) | refine Ext.trans ?_ (by assumption)))); rintro e w1 ⟨b1, b2, rfl, hb, hk⟩; unfold knownV; clear hk)
    go_ret2
    exact Ret.mk' (by rw [HV.out, HE.out]; rfl) (by repeat (first | exact Ext.refl _ | assumption | refine Ext.alloc ?_ _ | refine Ext.drew ?_ | refine Ext.drewN ?_ _ | (refine Ext.setCell ?_ (by simp <;> omega) _) | refine Ext.trans ?_ (by assumption)))
  case pos =>
    have HE : Hid (findR f s = lookR (lookN f.sorts f.sorts.length s.data.toList)) := Lib.hid (by unfold findR; rw [if_neg (by simpa using hz)])
    have hss := (chk_zero hz).2.2.1
    rw [hz] at cR
    clear hz
    generalize findR f s = r at *
    generalize (chk f).1 = n1 at *
    obtain ⟨name, body, ss⟩ := f
    simp only [FT.val] at *
    generalize hlk : lookN ss ss.length = lk at *
    have HLK := Lib.hid hlk; clear hlk
    have CR := Lib.hid cR; clear cR
    go_enter Tryd.func54, Tryd.ntmps54
    go_wp2_with (first | (go_at_call 71; refine Calls.mono (CR.out _ ?_) ?_; (exact HF.out.ext (by repeat (first | exact Ext.refl _ | assumption | refine Ext.alloc ?_ _ | refine Ext.drew ?_ | refine Ext.drewN ?_ _ | (refine Ext.setCell ?_ (by simp <;> omega) _) | refine Ext.trans ?_ (by assumption)))); rintro e w1 ⟨b1, b2, rfl, hb, hk⟩; unfold knownV; have HK := Lib.hid ((hk rfl).1); have HX := Lib.hid (show Ext w w1 from Ext.trans (by repeat (first | exact Ext.refl _ | assumption | refine Ext.alloc ?_ _ | refine Ext.drew ?_ | refine Ext.drewN ?_ _ | (refine Ext.setCell ?_ (by simp <;> omega) _) | refine Ext.trans ?_ (by assumption))) hb); clear hk hb) | (go_at_call 89; refine Calls.mono (lookup_any b1 ss.length lk s _ ?_ HS.out) ?_; (exact (by have h := HK.out; simp only [HLK.out] at h; exact h.ext (by repeat (first | exact Ext.refl _ | assumption | refine Ext.alloc ?_ _ | refine Ext.drew ?_ | refine Ext.drewN ?_ _ | (refine Ext.setCell ?_ (by simp <;> omega) _) | refine Ext.trans ?_ (by assumption))))); rintro e w2 ⟨rfl, rfl⟩; rw [HLV.out]))
    go_ret2
    exact Ret.mk' (by rw [HV.out, HE.out]; rfl) (HX.out.trans (by repeat (first | exact Ext.refl _ | assumption | refine Ext.alloc ?_ _ | refine Ext.drew ?_ | refine Ext.drewN ?_ _ | (refine Ext.setCell ?_ (by simp <;> omega) _) | refine Ext.trans ?_ (by assumption))))
set_option maxRecDepth 100000 in
set_option maxHeartbeats 2000000 in
theorem printing_any (f : FT) (A : Option Addr) (c : Nat) (s : ByteArray) (w : World) (hf : FR w A c f) (hs : s.size ≤ maxLen) :
    Calls Tryd.prog 55 #[f.val A c, .string s] w (Ret (pairV (printingR f s)) w) := by
  have cR := fun W h => read_any f A c W h
  have HS := Lib.hid hs; clear hs
  have HV : Hid (∀ p, pairV p = .tuple #[.int .i64 p.1, .int .i64 p.2]) := Lib.hid (fun _ => rfl)
  have HLV : Hid (∀ o, lookV o = .tuple #[.int .i64 (lookR o).1, .int .i64 (lookR o).2]) := Lib.hid (fun _ => rfl)
  have HF := Lib.hid hf; clear hf
  by_cases hz : (chk f).2 = 0
  case neg =>
    have HE : Hid (printingR f s = (0, (chk f).2)) := Lib.hid (by unfold printingR; rw [if_pos hz])
    generalize printingR f s = r at *
    generalize (chk f).1 = n1 at *
    generalize (chk f).2 = z at *
    have e0 : (z != 0) = true := by simpa using hz
    obtain ⟨name, body, ss⟩ := f
    simp only [FT.val] at *
    have CR := Lib.hid cR; clear cR hz
    go_enter Tryd.func55, Tryd.ntmps55
    go_wp2_with (go_at_call 71; refine Calls.mono (CR.out _ ?_) ?_; (exact HF.out.ext (by repeat (first | exact Ext.refl _ | assumption | refine Ext.alloc ?_ _ | refine Ext.drew ?_ | refine Ext.drewN ?_ _ | (refine Ext.setCell ?_ (by simp <;> omega) _) | refine Ext.trans ?_ (by assumption)))); rintro e w1 ⟨b1, b2, rfl, hb, hk⟩; unfold knownV; clear hk)
    go_ret2
    exact Ret.mk' (by rw [HV.out, HE.out]; rfl) (by repeat (first | exact Ext.refl _ | assumption | refine Ext.alloc ?_ _ | refine Ext.drew ?_ | refine Ext.drewN ?_ _ | (refine Ext.setCell ?_ (by simp <;> omega) _) | refine Ext.trans ?_ (by assumption)))
  case pos =>
    have HE : Hid (printingR f s = lookR (lookT f.sorts f.sorts.length s.data.toList)) := Lib.hid (by unfold printingR; rw [if_neg (by simpa using hz)])
    have hss := (chk_zero hz).2.2.1
    rw [hz] at cR
    clear hz
    generalize printingR f s = r at *
    generalize (chk f).1 = n1 at *
    obtain ⟨name, body, ss⟩ := f
    simp only [FT.val] at *
    generalize hlk : lookT ss ss.length = lk at *
    have HLK := Lib.hid hlk; clear hlk
    have CR := Lib.hid cR; clear cR
    go_enter Tryd.func55, Tryd.ntmps55
    go_wp2_with (first | (go_at_call 71; refine Calls.mono (CR.out _ ?_) ?_; (exact HF.out.ext (by repeat (first | exact Ext.refl _ | assumption | refine Ext.alloc ?_ _ | refine Ext.drew ?_ | refine Ext.drewN ?_ _ | (refine Ext.setCell ?_ (by simp <;> omega) _) | refine Ext.trans ?_ (by assumption)))); rintro e w1 ⟨b1, b2, rfl, hb, hk⟩; unfold knownV; have HK := Lib.hid ((hk rfl).2); have HX := Lib.hid (show Ext w w1 from Ext.trans (by repeat (first | exact Ext.refl _ | assumption | refine Ext.alloc ?_ _ | refine Ext.drew ?_ | refine Ext.drewN ?_ _ | (refine Ext.setCell ?_ (by simp <;> omega) _) | refine Ext.trans ?_ (by assumption))) hb); clear hk hb) | (go_at_call 89; refine Calls.mono (lookup_any b2 ss.length lk s _ ?_ HS.out) ?_; (exact (by have h := HK.out; simp only [HLK.out] at h; exact h.ext (by repeat (first | exact Ext.refl _ | assumption | refine Ext.alloc ?_ _ | refine Ext.drew ?_ | refine Ext.drewN ?_ _ | (refine Ext.setCell ?_ (by simp <;> omega) _) | refine Ext.trans ?_ (by assumption))))); rintro e w2 ⟨rfl, rfl⟩; rw [HLV.out]))
    go_ret2
    exact Ret.mk' (by rw [HV.out, HE.out]; rfl) (HX.out.trans (by repeat (first | exact Ext.refl _ | assumption | refine Ext.alloc ?_ _ | refine Ext.drew ?_ | refine Ext.drewN ?_ _ | (refine Ext.setCell ?_ (by simp <;> omega) _) | refine Ext.trans ?_ (by assumption))))
/-- The first of the first n sorts that is no space and prints a text. -/
def textAt (ss : List TS) (s : ByteArray) : Nat → Option Nat
  | 0 => none
  | n + 1 => match textAt ss s n with | some k => some k | none => if (ss.getD n TS.zero).kind ≠ 3 ∧ (ss.getD n TS.zero).text = s then some n else none
theorem textAt_none {ss : List TS} {s : ByteArray} : ∀ {n : Nat}, (∀ k, k < n → ¬ ((ss.getD k TS.zero).kind ≠ 3 ∧ (ss.getD k TS.zero).text = s)) → textAt ss s n = none
  | 0, _ => rfl
  | n + 1, h => by rw [textAt, textAt_none (fun k hk => h k (by omega))]; simp only; rw [if_neg (h n (by omega))]
theorem textAt_some {ss : List TS} {s : ByteArray} {k : Nat} (hc : ∀ j, j < k → ¬ ((ss.getD j TS.zero).kind ≠ 3 ∧ (ss.getD j TS.zero).text = s)) (hb : (ss.getD k TS.zero).kind ≠ 3 ∧ (ss.getD k TS.zero).text = s) : ∀ {n : Nat}, k < n → textAt ss s n = some k
  | n + 1, hk => by
    rw [textAt]
    by_cases h : k < n
    · rw [textAt_some hc hb h]
    · obtain rfl : k = n := by omega
      rw [textAt_none hc]; simp only; rw [if_pos hb]
theorem look_name {ss : List TS} (s : ByteArray) : ∀ n, n ≤ ss.length → cleanTo ss n → lookN ss n s.data.toList = Option.map (fun (k : Nat) => (k : Int)) (nameAt ss s n)
  | 0, _, _ => rfl
  | n + 1, hn, h => by
    have ih := look_name s n (by omega) (fun k hk => h k (by omega))
    have hx := (sort_zero (h n (by omega))).2.1
    have hh := nameAt_has ss (ss.getD n TS.zero).name n (by omega)
    rw [nameAt]
    show (if s.data.toList = (ss.getD n TS.zero).name.data.toList then some (n : Int) else lookN ss n s.data.toList) = _
    by_cases e : s = (ss.getD n TS.zero).name
    · subst e
      rw [if_pos rfl]
      cases hk : nameAt ss (ss.getD n TS.zero).name n with
      | some k => rw [hk, hx] at hh; cases hh
      | none => simp
    · rw [if_neg (fun hq => e (bytes_ext hq)), ih]
      cases nameAt ss s n with
      | some k => simp
      | none => simp only; rw [if_neg (fun hq => e hq.symm)]
theorem textAt_has (ss : List TS) (s : ByteArray) : ∀ n, n ≤ ss.length → (textAt ss s n).isSome = hasText ss n s
  | 0, _ => rfl
  | n + 1, h => by
    have ih := textAt_has ss s n (by omega)
    unfold hasText at ih ⊢
    rw [take_getD ss n (by omega), List.any_append, ← ih]
    simp only [textAt, List.any_cons, List.any_nil, Bool.or_false]
    cases textAt ss s n with
    | some k => simp
    | none =>
      generalize ss.getD n TS.zero = x
      by_cases e1 : x.kind = 3
      · simp [e1]
      · by_cases e : x.text = s <;> simp [e, e1]
theorem look_text {ss : List TS} (s : ByteArray) : ∀ n, n ≤ ss.length → cleanTo ss n → lookT ss n s.data.toList = Option.map (fun (k : Nat) => (k : Int)) (textAt ss s n)
  | 0, _, _ => rfl
  | n + 1, hn, h => by
    have ih := look_text s n (by omega) (fun k hk => h k (by omega))
    have hx := (sort_zero (h n (by omega))).2.2.2.2
    have hh := textAt_has ss (ss.getD n TS.zero).text n (by omega)
    rw [textAt]
    have hlt : lookT ss (n + 1) s.data.toList = if (ss.getD n TS.zero).kind = 3 then lookT ss n s.data.toList else if s.data.toList = (ss.getD n TS.zero).text.data.toList then some (n : Int) else lookT ss n s.data.toList := by
      rw [lookT]; split <;> rfl
    rw [hlt]
    clear hlt
    generalize ss.getD n TS.zero = x at *
    by_cases e3 : x.kind = 3
    · rw [if_pos e3, ih]
      cases textAt ss s n with
      | some k => simp
      | none => simp only; rw [if_neg (fun hq => hq.1 e3)]
    · rw [if_neg e3]
      by_cases e : s = x.text
      · subst e
        rw [if_pos rfl]
        have hht : hasText ss n x.text = false := by
          unfold textErr at hx
          by_cases hp : printsB x.kind x.text = false
          · rw [if_pos hp] at hx; exact absurd hx (by decide)
          · rw [if_neg hp] at hx
            by_cases hq : x.kind ≠ 3 ∧ hasText ss n x.text = true
            · rw [if_pos hq] at hx; exact absurd hx (by decide)
            · rw [← Bool.not_eq_true]; exact fun hc => hq ⟨e3, hc⟩
        cases hk : textAt ss x.text n with
        | some k => rw [hk, hht] at hh; cases hh
        | none => simp only; rw [if_pos ⟨e3, trivial⟩]; rfl
      · rw [if_neg (fun hq => e (bytes_ext hq)), ih]
        cases textAt ss s n with
        | some k => simp
        | none => simp only; rw [if_neg (fun hq => e hq.2.symm)]
set_option maxHeartbeats 1000000 in
theorem rFind_any (f : FT) (A : Option Addr) (c : Nat) (s : ByteArray) (w : World) (hf : FR w A c f) :
    Calls Tryd.prog 57 #[f.val A c, .string s] w (Ret (.int .i64 (optI (nameAt f.sorts s f.sorts.length))) w) := by
  have cN := fun W h => named_any A f.sorts.length c f.sorts s W h
  have HF := Lib.hid hf; clear hf
  generalize optI (nameAt f.sorts s f.sorts.length) = r at *
  obtain ⟨name, body, ss⟩ := f
  simp only [FT.val] at *
  have CN := Lib.hid cN; clear cN
  go_enter Tryd.func57, Tryd.ntmps57
  go_wp2_with (go_at_call 75; refine Calls.mono (CN.out _ ?_) ?_; (exact HF.out.rt.ext (by repeat (first | exact Ext.refl _ | assumption | refine Ext.alloc ?_ _ | refine Ext.drew ?_ | refine Ext.drewN ?_ _ | (refine Ext.setCell ?_ (by simp <;> omega) _) | refine Ext.trans ?_ (by assumption)))); rintro e w1 ⟨rfl, rfl⟩)
  go_ret
  exact Ret.mk' rfl (by repeat (first | exact Ext.refl _ | assumption | refine Ext.alloc ?_ _ | refine Ext.drew ?_ | refine Ext.drewN ?_ _ | (refine Ext.setCell ?_ (by simp <;> omega) _) | refine Ext.trans ?_ (by assumption)))
set_option maxRecDepth 100000 in
set_option maxHeartbeats 2000000 in
theorem rPrinting_any (f : FT) (A : Option Addr) (c : Nat) (s : ByteArray) (w : World) (hf : FR w A c f) :
    Calls Tryd.prog 58 #[f.val A c, .string s] w (Ret (.int .i64 (optI (textAt f.sorts s f.sorts.length))) w) := by
  have hbig := hf.rt.big
  have HF := Lib.hid hf; clear hf
  obtain ⟨name, body, ss⟩ := f
  simp only [FT.val] at *
  go_enter Tryd.func58, Tryd.ntmps58
  go_wp2
  go_loopw [5] (fun i wr => ∃ k : Nat, k ≤ ss.length ∧ i = .int .i64 k ∧ Hid (∀ j, j < k → ¬ ((ss.getD j TS.zero).kind ≠ 3 ∧ (ss.getD j TS.zero).text = s)) ∧ Box w name body A ss.length c wr) (fun i _ => ss.length - (intOf i).toNat)
  case atStart => exact ⟨0, Nat.zero_le _, rfl, Lib.hid (fun j hj => absurd hj (by omega)), ⟨(by repeat (first | exact Ext.refl _ | assumption | refine Ext.alloc ?_ _ | refine Ext.drew ?_ | refine Ext.drewN ?_ _ | (refine Ext.setCell ?_ (by simp <;> omega) _) | refine Ext.trans ?_ (by assumption))), Blk.new _ _ _⟩⟩
  case round =>
    obtain ⟨k, hk, rfl, hno, hbox⟩ := hrel
    have HBX := Lib.hid hbox
    obtain ⟨b0, b1, b2, bl⟩ := hbox.blk.c3
    by_cases hlt : k < ss.length
    · obtain ⟨b, off, rfl, hbw, hcell⟩ := (HF.out.rt.ext hbox.ext).2.2 (by show 0 < ss.length; omega)
      obtain ⟨_, c2, c3, _⟩ := hcell k hlt
      have hki : (k : Int) < (ss.length : Int) := by omega
      have HK1 : Hid ((ss.getD k TS.zero).kind ≠ 3 ∧ (ss.getD k TS.zero).text = s → textAt ss s ss.length = some k) := Lib.hid (fun h => textAt_some hno.out h hlt)
      have HK2 : Hid (¬ ((ss.getD k TS.zero).kind ≠ 3 ∧ (ss.getD k TS.zero).text = s) → ∀ j, j < k + 1 → ¬ ((ss.getD j TS.zero).kind ≠ 3 ∧ (ss.getD j TS.zero).text = s)) := Lib.hid (fun h j hj => by
        by_cases e : j < k
        · exact hno.out j e
        · obtain rfl : j = k := by omega
          exact h)
      generalize ss.getD k TS.zero = x at *
      obtain ⟨xn, xt, xk, xw⟩ := x
      simp only at c2 c3 HK1 HK2
      clear hcell hbox
      by_cases h3 : xk = 3
      · have HB := Lib.hid (HK2.out (fun h => h.1 h3))
        have e3 : (xk != 3) = false := by simpa using h3
        clear HK1 HK2 h3
        go_wp2
        go_roundw
        case rel => exact ⟨k + 1, by omega, by go_num, HB, HBX.out.next (by repeat (first | exact Ext.refl _ | assumption | refine Ext.alloc ?_ _ | refine Ext.drew ?_ | refine Ext.drewN ?_ _ | (refine Ext.setCell ?_ (by simp <;> omega) _) | refine Ext.trans ?_ (by assumption)))⟩
        case measure => simp [intOf]; omega
      · have e3 : (xk != 3) = true := by simpa using h3
        by_cases he : xt = s
        · have HB := Lib.hid (HK1.out ⟨h3, he⟩)
          subst he
          have e4 := str_eq_true xt
          clear HK1 HK2 h3
          go_wp2
          go_ret
          exact Ret.mk' (by rw [HB.out]; rfl) (HBX.out.ext.trans (by repeat (first | exact Ext.refl _ | assumption | refine Ext.alloc ?_ _ | refine Ext.drew ?_ | refine Ext.drewN ?_ _ | (refine Ext.setCell ?_ (by simp <;> omega) _) | refine Ext.trans ?_ (by assumption))))
        · have HB := Lib.hid (HK2.out (fun h => he h.2))
          have e4 := str_eq_false he
          clear HK1 HK2 h3 he
          go_wp2
          go_roundw
          case rel => exact ⟨k + 1, by omega, by go_num, HB, HBX.out.next (by repeat (first | exact Ext.refl _ | assumption | refine Ext.alloc ?_ _ | refine Ext.drew ?_ | refine Ext.drewN ?_ _ | (refine Ext.setCell ?_ (by simp <;> omega) _) | refine Ext.trans ?_ (by assumption)))⟩
          case measure => simp [intOf]; omega
    · obtain rfl : k = ss.length := by omega
      have HB := Lib.hid (textAt_none hno.out)
      clear hbox
      go_wp2
      go_ret
      exact Ret.mk' (by rw [HB.out]; rfl) HBX.out.ext
end Go.Proofs.YtphkffndhifdkaaDoor
