/-
  Walk: the sorts of a line are read.
-/
import Derived.Test.YtccdnieoaejgdaaGreatDoorT2BC
set_option linter.unusedVariables false
set_option linter.unusedSimpArgs false
set_option linter.unusedSectionVars false
namespace Go.Proofs.YtccdnieoaejgdaaGreatDoor
open Go.RowKit Go.Lib
attribute [local go_sem] stateAt vu known List.map_cons List.map_nil Option.getD_some

theorem trim_hy (l : List UInt8) : Lib.trimSuffix l [45] = noHy l := by
  unfold Lib.trimSuffix noHy Lib.hasSuffix
  rcases List.eq_nil_or_concat l with rfl | ⟨a, x, rfl⟩
  · rfl
  · have h1 : ([45] : List UInt8).isSuffixOf (a.concat x) = true ↔ x = 45 := by
      rw [List.isSuffixOf_iff_suffix, List.concat_eq_append]
      constructor
      · rintro ⟨t, ht⟩
        have := congrArg List.getLast? ht
        simp at this
        exact this.symm
      · rintro rfl; exact ⟨a, rfl⟩
    have h2 : (a.concat x).getLast? = some 45 ↔ x = 45 := by rw [List.concat_eq_append]; simp
    by_cases hx : x = 45
    · rw [if_pos (h1.2 hx), if_pos (h2.2 hx)]
      rw [List.concat_eq_append]; simp
    · rw [if_neg (fun h => hx (h1.1 h)), if_neg (fun h => hx (h2.1 h))]
theorem strL_app (a : List UInt8) (t : ByteArray) : strL a ++ t = strL (a ++ t.data.toList) := by
  apply bytes_ext
  rw [strL_list]
  simp [strL_list]
theorem rbTo_bd {ss : List TS} (h4 : ∀ k, k < ss.length → (ss.getD k TS.zero).text.size ≤ 4) (l : List Int) (hl : ∀ k, k < l.length → hasS ss (l.getD k 0) = true) (r : RB) : ∀ k, k ≤ l.length → (rbTo ss l r k).ws.length ≤ r.ws.length + k ∧ (rbTo ss l r k).wd.length ≤ r.wd.length + 4 * k
  | 0, _ => ⟨Nat.le_refl _, Nat.le_refl _⟩
  | k + 1, hk => by
    obtain ⟨h1, h2⟩ := rbTo_bd h4 l hl r k (by omega)
    obtain ⟨h3, h5⟩ := hasS_iff.1 (hl k (by omega))
    have h6 := h4 (l.getD k 0).toNat (by omega)
    have h7 : (ss.getD (l.getD k 0).toNat TS.zero).text.data.toList.length ≤ 4 := by simpa using h6
    rw [rbTo]
    generalize rbTo ss l r k = r1 at *
    unfold RB.step RB.fin
    split
    · simp only
      split
      · exact ⟨by omega, by omega⟩
      · rw [List.length_append, List.length_singleton]; exact ⟨by omega, by omega⟩
    · simp only
      rw [List.length_append]; exact ⟨by omega, by omega⟩
/-- What the reading of a line leaves. -/
def RetLi (w0 : World) (f : FT) (A : Option Addr) (c rb : Nat) (r : RB) (e : Ending) (w' : World) : Prop := (∃ x, e = .returned x) ∧ ∃ v', RdS w0 f A c rb v' r.ws r.wd w'
set_option maxRecDepth 100000 in
set_option maxHeartbeats 8000000 in
theorem rdLine_any (w0 : World) (f : FT) (A : Option Addr) (c rb : Nat) (v : Value) (r : RB) (B : Option Addr) (d : Nat) (zs : List Int) (b : Bool) (w : World) (h : RdS w0 f A c rb v r.ws r.wd w) (hf : FR w0 A c f) (h4 : ∀ k, k < f.sorts.length → (f.sorts.getD k TS.zero).text.size ≤ 4)
    (hz : RI w0 B zs.length zs) (hl : ∀ k, k < zs.length → hasS f.sorts (zs.getD k 0) = true) (hn : zs.length ≤ 300) (hw : r.ws.length ≤ 500000) (hc : r.wd.length ≤ 500000) :
    Calls Tryz.prog 92 #[.pointer (some ⟨rb, 0, none⟩), .slice B zs.length d, .bool b] w (RetLi w0 f A c rb (rbLine f.sorts zs b r)) := by
  have HF := Lib.hid hf
  have HR := Lib.hid h
  have HZ := Lib.hid hz
  have HL := Lib.hid hl
  have HBD := Lib.hid (rbTo_bd h4 zs hl r)
  have HST : Hid (∀ k, rbTo f.sorts zs r (k + 1) = (rbTo f.sorts zs r k).step f.sorts (zs.getD k 0)) := Lib.hid fun _ => rfl
  have HLN : Hid (rbLine f.sorts zs b r = if b = true then ⟨(rbTo f.sorts zs r zs.length).ws, noHy (rbTo f.sorts zs r zs.length).wd⟩ else (rbTo f.sorts zs r zs.length).fin) := Lib.hid rfl
  have HX0 := Lib.hid (Ext.refl w)
  have H4 := Lib.hid h4
  have y1 := h.rd.cell 4 (.string (strL r.wd)) rfl
  have yl := h.rd.lt
  have yf := h.rd.frozen 4
  clear h hf hz hl h4
  go_enter Tryz.func92, Tryz.ntmps92
  go_upto_region 5 with fail
  have HW0 : Hid (RdW w0 f A c rb (w.heap.size + 1) w.heap.size v r.ws [] r.wd (((w.setCell ⟨rb, 4, none⟩ (.string (strL []))).alloc (.cells #[.pointer (some ⟨rb, 0, none⟩)] 146)).alloc (.cells #[.string (strL r.wd)] 9))) := Lib.hid (by
    have h := HR.out
    have hx : Ext (w.setCell ⟨rb, 4, none⟩ (.string (strL []))) (((w.setCell ⟨rb, 4, none⟩ (.string (strL []))).alloc (.cells #[.pointer (some ⟨rb, 0, none⟩)] 146)).alloc (.cells #[.string (strL r.wd)] 9)) := ((Ext.refl _).alloc _).alloc _
    have hs : (w.setCell ⟨rb, 4, none⟩ (.string (strL []))).heap.size = w.heap.size := by simp [World.setCell]
    have h1 : RdS w0 f A c rb v r.ws [] (w.setCell ⟨rb, 4, none⟩ (.string (strL []))) := ⟨h.ext.setCell (p := ⟨rb, 4, none⟩) h.lo _, h.rd.set_ 4 _, h.lo, h.own.keptB (set_grownB w ⟨rb, 4, none⟩ _) (fun k hk e => by
      obtain ⟨cs, hb⟩ := h.own.is hk
      have h9 := Option.some.inj e
      simp only at h9
      exact blk_neT hb h.rd (by decide) h9.symm)⟩
    have h2 := Blk.new1 (w.setCell ⟨rb, 4, none⟩ (.string (strL []))) (.cells #[.pointer (some ⟨rb, 0, none⟩)] 146) 9 #[.string (strL r.wd)]
    have h3 := (Blk.new (w.setCell ⟨rb, 4, none⟩ (.string (strL []))) 146 #[.pointer (some ⟨rb, 0, none⟩)]).alloc (.cells #[.string (strL r.wd)] 9)
    rw [hs] at h2 h3
    exact ⟨h1.next hx, h2, h3, by have := h.ext.size; omega, fun k hk => by have := (World.ownsRow.lt h.own k hk).2; omega⟩)
  change Hid (RdW w0 f A c rb (w.heap.size + 1) w.heap.size v r.ws [] r.wd (((w.setCell ⟨rb, 4, none⟩ (.string ⟨#[]⟩)).alloc (.cells #[.pointer (some ⟨rb, 0, none⟩)] 146)).alloc (.cells #[.string (strL r.wd)] 9))) at HW0
  obtain ⟨wb, hwb⟩ : ∃ wb, wb = w.heap.size + 1 := ⟨_, rfl⟩
  obtain ⟨xb, hxb⟩ : ∃ xb, xb = w.heap.size := ⟨_, rfl⟩
  rw [← hwb, ← hxb] at HW0 ⊢
  clear hwb hxb y1 yl yf HR HX0
  go_loopw [20, 9] (fun v20 _ wr => ∃ (k : Nat) (v' : Value), k ≤ zs.length ∧ v20 = .int .i64 (k : Int) ∧ Hid (RdW w0 f A c rb wb xb v' (rbTo f.sorts zs r k).ws [] (rbTo f.sorts zs r k).wd wr)) (fun v20 _ _ => zs.length - (intOf v20).toNat)
  case atStart => exact ⟨0, v, Nat.zero_le _, rfl, HW0⟩
  case round =>
    clear HW0
    obtain ⟨k, v', hk, rfl, HW⟩ := hrel
    obtain ⟨hb1, hb2⟩ := HBD.out k hk
    by_cases hlt : k < zs.length
    case pos =>
      have ik : (k : Int) < (zs.length : Int) := by omega
      obtain ⟨sb, so, hpa, hsl, hsc⟩ := (HZ.out.ext HW.out.r.ext).2.2 (by omega)
      have c0 := hsc k hlt
      subst hpa
      have hzk := HL.out k hlt
      have HNX := Lib.hid (HST.out k)
      generalize zs.getD k 0 = z at *
      obtain ⟨hz3, hz4⟩ := hasS_iff.1 hzk
      obtain ⟨p, rfl⟩ := Int.eq_ofNat_of_zero_le hz3
      have ip : p < f.sorts.length := by omega
      obtain ⟨tb, tq, hta, htl, htc⟩ := HF.out.rt.2.2 (by omega)
      obtain ⟨_, d1, d2, _⟩ := htc p ip
      have hsz := H4.out p ip
      subst hta
      have HSP : Hid (∀ r1 : RB, r1.step f.sorts (p : Int) = if (f.sorts.getD p TS.zero).kind = 3 then ⟨r1.fin.ws, (f.sorts.getD p TS.zero).text.data.toList⟩ else ⟨r1.ws, r1.wd ++ (f.sorts.getD p TS.zero).text.data.toList⟩) := Lib.hid fun _ => rfl
      generalize hr2 : rbTo f.sorts zs r (k + 1) = r2 at *
      have HR2E := Lib.hid hr2
      clear hr2
      generalize rbTo f.sorts zs r k = r1 at *
      obtain ⟨ws, wd⟩ := r1
      simp only at HW hb1 hb2
      have HNE : Hid (r2 = if (f.sorts.getD p TS.zero).kind = 3 then ⟨(RB.fin ⟨ws, wd⟩).ws, (f.sorts.getD p TS.zero).text.data.toList⟩ else ⟨ws, wd ++ (f.sorts.getD p TS.zero).text.data.toList⟩) := Lib.hid (by rw [HNX.out, HSP.out])
      generalize (f.sorts.getD p TS.zero).text = tx at *
      generalize (f.sorts.getD p TS.zero).kind = kd at *
      have HD1 := Lib.hid d1
      have d2' := (HW.out.r.ext.cell (p := ⟨tb, tq + p * 4 + 2, none⟩) htl).trans d2
      have htl' := Nat.lt_of_lt_of_le htl HW.out.r.ext.size
      have x1 := HW.out.bx.cell 0 _ rfl; have xl := HW.out.bx.lt
      have x2 := HW.out.r.rd.cell 2 (.slice (some ⟨tb, tq, none⟩) f.sorts.length c) rfl; have xl2 := HW.out.r.rd.lt
      have ip' : (p : Int) < (f.sorts.length : Int) := by omega
      clear htc hz3 hzk HNX HSP d1 d2 hsc
      by_cases hk3 : kd = 3
      case pos =>
        -- BEGIN A
        have e3 : (kd == 3) = true := by rw [beq_iff_eq]; exact hk3
        rw [if_pos hk3] at HNE
        clear hk3
        go_upto_region 9 with (first | (go_at_call 124; refine Calls.mono (lineEnd_any _ _ _ _ _ _ _ _ _ _ _ _ (HW.out.next (by repeat (first | exact Ext.refl _ | assumption | refine Ext.alloc ?_ _ | refine Ext.drew ?_ | refine Ext.drewN ?_ _ | (refine Ext.setCell ?_ (by simp <;> omega) _) | refine Ext.trans ?_ (by assumption)))) (by omega)) ?_; rintro e1 w1 ⟨⟨xr, rfl⟩, v1, h1⟩; have HR1 := Lib.hid h1; clear h1))
        obtain ⟨wd2, hwd2⟩ : ∃ x, x = ([] : List UInt8) := ⟨_, rfl⟩
        have HW2 : Hid (RdW w0 f (some ⟨tb, tq, none⟩) c rb wb xb v1 (RB.fin ⟨ws, wd⟩).ws [] wd2 w1) := Lib.hid (by rw [hwd2]; exact HR1.out)
        have HWD := Lib.hid hwd2
        have hwl : wd2.length = 0 := by rw [hwd2]; rfl
        clear HR1 hwd2 x1 xl x2 xl2 d2'
        generalize (RB.fin ⟨ws, wd⟩).ws = ws2 at *
        have HSA : Hid (strL wd2 ++ tx = strL (wd2 ++ tx.data.toList)) := Lib.hid (strL_app _ _)
        have j0 := strL_size wd2
        have j1 : ¬ 9223372036854775807 < (strL wd2).size + tx.size := by omega
        have HR9 : Hid (RdW w0 f (some ⟨tb, tq, none⟩) c rb wb xb v1 ws2 [] wd2 w1.drew) := Lib.hid (HW2.out.next (Ext.refl _).drew)
        clear j0
        refine wp_region_sp [12] [some (.string (strL wd2)), some (.pointer (some ⟨rb, 0, none⟩)), some (.pointer (some ⟨rb, 0, none⟩)), some (.pointer (some ⟨rb, 0, none⟩)), some (.pointer (some ⟨rb, 0, none⟩)), some (.pointer (some ⟨rb, 2, none⟩)), some (.slice (some ⟨tb, tq, none⟩) f.sorts.length c), some (.int .i64 (p : Int)), some (.pointer (some ⟨tb, tq + p * 4, none⟩)), some (.pointer (some ⟨tb, tq + p * 4 + 1, none⟩)), some (.string tx), some (.string (strL wd2 ++ tx)), some (undef)] (fun k v fl W => True) (fun fl W => RdW w0 f (some ⟨tb, tq, none⟩) c rb wb xb v1 ws2 [] (if fl.getD 0 false = true then wd2 ++ tx.data.toList else wd2) W) (by kernel_rfl) (by kernel_rfl) rfl (by decide) (fun fl W W' h hx => h.next hx) (fun k v fl W W' h hx => trivial) (HR9.out) ⟨?_, ?_, ?_, ?_, ?_, ?_, ?_, ?_, ?_, ?_, ?_, ?_, ?_, trivial⟩ ?_
        · intro U fl W hS hl hn hd hR
          obtain ⟨f0, rfl⟩ := flen1 hl
          obtain rfl : f0 = false := hn 0 (by decide) (by kernel_rfl)
          clear hR hl hn hd
          have hT : RdW w0 f (some ⟨tb, tq, none⟩) c rb wb xb v1 ws2 [] _ W := hS; clear hS
          have y1 := hT.wd.cell 0 (.string (strL wd2)) rfl; have l1 := hT.wd.lt
          refine StepZ.go rfl ?_
          go_simp
          exact ⟨Turn.ext rfl (by repeat (first | exact Ext.refl _ | assumption | refine Ext.alloc ?_ _ | refine Ext.drew ?_ | refine Ext.drewN ?_ _ | (refine Ext.setCell ?_ (by simp <;> omega) _) | refine Ext.trans ?_ (by assumption))), givesS_k (by kernel_rfl)⟩
        · intro U fl W hS hl hn hd hR
          obtain ⟨f0, rfl⟩ := flen1 hl
          obtain rfl : f0 = false := hn 0 (by decide) (by kernel_rfl)
          clear hR hl hn hd
          have hT : RdW w0 f (some ⟨tb, tq, none⟩) c rb wb xb v1 ws2 [] _ W := hS; clear hS
          have y1 := hT.bx.cell 0 _ rfl; have l1 := hT.bx.lt
          refine StepZ.go rfl ?_
          go_simp
          exact ⟨Turn.ext rfl (by repeat (first | exact Ext.refl _ | assumption | refine Ext.alloc ?_ _ | refine Ext.drew ?_ | refine Ext.drewN ?_ _ | (refine Ext.setCell ?_ (by simp <;> omega) _) | refine Ext.trans ?_ (by assumption))), givesS_k (by kernel_rfl)⟩
        · intro U fl W hS hl hn hd hR
          obtain ⟨f0, rfl⟩ := flen1 hl
          obtain rfl : f0 = false := hn 0 (by decide) (by kernel_rfl)
          clear hR hl hn hd
          have hT : RdW w0 f (some ⟨tb, tq, none⟩) c rb wb xb v1 ws2 [] _ W := hS; clear hS
          refine StepZ.go rfl ?_
          go_simp
          exact ⟨Turn.ext rfl (by repeat (first | exact Ext.refl _ | assumption | refine Ext.alloc ?_ _ | refine Ext.drew ?_ | refine Ext.drewN ?_ _ | (refine Ext.setCell ?_ (by simp <;> omega) _) | refine Ext.trans ?_ (by assumption))), givesS_k (by kernel_rfl)⟩
        · intro U fl W hS hl hn hd hR
          obtain ⟨f0, rfl⟩ := flen1 hl
          obtain rfl : f0 = false := hn 0 (by decide) (by kernel_rfl)
          clear hR hl hn hd
          have hT : RdW w0 f (some ⟨tb, tq, none⟩) c rb wb xb v1 ws2 [] _ W := hS; clear hS
          refine StepZ.go rfl ?_
          go_simp
          exact ⟨Turn.ext rfl (by repeat (first | exact Ext.refl _ | assumption | refine Ext.alloc ?_ _ | refine Ext.drew ?_ | refine Ext.drewN ?_ _ | (refine Ext.setCell ?_ (by simp <;> omega) _) | refine Ext.trans ?_ (by assumption))), givesS_k (by kernel_rfl)⟩
        · intro U fl W hS hl hn hd hR
          obtain ⟨f0, rfl⟩ := flen1 hl
          obtain rfl : f0 = false := hn 0 (by decide) (by kernel_rfl)
          clear hR hl hn hd
          have hT : RdW w0 f (some ⟨tb, tq, none⟩) c rb wb xb v1 ws2 [] _ W := hS; clear hS
          refine StepZ.go rfl ?_
          go_simp
          exact ⟨Turn.ext rfl (by repeat (first | exact Ext.refl _ | assumption | refine Ext.alloc ?_ _ | refine Ext.drew ?_ | refine Ext.drewN ?_ _ | (refine Ext.setCell ?_ (by simp <;> omega) _) | refine Ext.trans ?_ (by assumption))), givesS_k (by kernel_rfl)⟩
        · intro U fl W hS hl hn hd hR
          obtain ⟨f0, rfl⟩ := flen1 hl
          obtain rfl : f0 = false := hn 0 (by decide) (by kernel_rfl)
          clear hR hl hn hd
          have hT : RdW w0 f (some ⟨tb, tq, none⟩) c rb wb xb v1 ws2 [] _ W := hS; clear hS
          refine StepZ.go rfl ?_
          go_simp
          exact ⟨Turn.ext rfl (by repeat (first | exact Ext.refl _ | assumption | refine Ext.alloc ?_ _ | refine Ext.drew ?_ | refine Ext.drewN ?_ _ | (refine Ext.setCell ?_ (by simp <;> omega) _) | refine Ext.trans ?_ (by assumption))), givesS_k (by kernel_rfl)⟩
        · intro U fl W hS hl hn hd hR
          obtain ⟨f0, rfl⟩ := flen1 hl
          obtain rfl : f0 = false := hn 0 (by decide) (by kernel_rfl)
          clear hR hl hn hd
          have hT : RdW w0 f (some ⟨tb, tq, none⟩) c rb wb xb v1 ws2 [] _ W := hS; clear hS
          have y1 := hT.r.rd.cell 2 (.slice (some ⟨tb, tq, none⟩) f.sorts.length c) rfl; have l1 := hT.r.rd.lt
          refine StepZ.go rfl ?_
          go_simp
          exact ⟨Turn.ext rfl (by repeat (first | exact Ext.refl _ | assumption | refine Ext.alloc ?_ _ | refine Ext.drew ?_ | refine Ext.drewN ?_ _ | (refine Ext.setCell ?_ (by simp <;> omega) _) | refine Ext.trans ?_ (by assumption))), givesS_k (by kernel_rfl)⟩
        · intro U fl W hS hl hn hd hR
          obtain ⟨f0, rfl⟩ := flen1 hl
          obtain rfl : f0 = false := hn 0 (by decide) (by kernel_rfl)
          clear hR hl hn hd
          have hT : RdW w0 f (some ⟨tb, tq, none⟩) c rb wb xb v1 ws2 [] _ W := hS; clear hS
          refine StepZ.go rfl ?_
          go_simp
          exact ⟨Turn.ext rfl (by repeat (first | exact Ext.refl _ | assumption | refine Ext.alloc ?_ _ | refine Ext.drew ?_ | refine Ext.drewN ?_ _ | (refine Ext.setCell ?_ (by simp <;> omega) _) | refine Ext.trans ?_ (by assumption))), givesS_k (by kernel_rfl)⟩
        · intro U fl W hS hl hn hd hR
          obtain ⟨f0, rfl⟩ := flen1 hl
          obtain rfl : f0 = false := hn 0 (by decide) (by kernel_rfl)
          clear hR hl hn hd
          have hT : RdW w0 f (some ⟨tb, tq, none⟩) c rb wb xb v1 ws2 [] _ W := hS; clear hS
          refine StepZ.go rfl ?_
          go_simp
          exact ⟨Turn.ext rfl (by repeat (first | exact Ext.refl _ | assumption | refine Ext.alloc ?_ _ | refine Ext.drew ?_ | refine Ext.drewN ?_ _ | (refine Ext.setCell ?_ (by simp <;> omega) _) | refine Ext.trans ?_ (by assumption))), givesS_k (by kernel_rfl)⟩
        · intro U fl W hS hl hn hd hR
          obtain ⟨f0, rfl⟩ := flen1 hl
          obtain rfl : f0 = false := hn 0 (by decide) (by kernel_rfl)
          clear hR hl hn hd
          have hT : RdW w0 f (some ⟨tb, tq, none⟩) c rb wb xb v1 ws2 [] _ W := hS; clear hS
          refine StepZ.go rfl ?_
          go_simp
          exact ⟨Turn.ext rfl (by repeat (first | exact Ext.refl _ | assumption | refine Ext.alloc ?_ _ | refine Ext.drew ?_ | refine Ext.drewN ?_ _ | (refine Ext.setCell ?_ (by simp <;> omega) _) | refine Ext.trans ?_ (by assumption))), givesS_k (by kernel_rfl)⟩
        · intro U fl W hS hl hn hd hR
          obtain ⟨f0, rfl⟩ := flen1 hl
          obtain rfl : f0 = false := hn 0 (by decide) (by kernel_rfl)
          clear hR hl hn hd
          have hT : RdW w0 f (some ⟨tb, tq, none⟩) c rb wb xb v1 ws2 [] _ W := hS; clear hS
          have y1 := (hT.r.ext.cell (p := ⟨tb, tq + p * 4 + 1, none⟩) htl).trans HD1.out; have l1 := Nat.lt_of_lt_of_le htl hT.r.ext.size
          refine StepZ.go rfl ?_
          go_simp
          exact ⟨Turn.ext rfl (by repeat (first | exact Ext.refl _ | assumption | refine Ext.alloc ?_ _ | refine Ext.drew ?_ | refine Ext.drewN ?_ _ | (refine Ext.setCell ?_ (by simp <;> omega) _) | refine Ext.trans ?_ (by assumption))), givesS_k (by kernel_rfl)⟩
        · intro U fl W hS hl hn hd hR
          obtain ⟨f0, rfl⟩ := flen1 hl
          obtain rfl : f0 = false := hn 0 (by decide) (by kernel_rfl)
          clear hR hl hn hd
          have hT : RdW w0 f (some ⟨tb, tq, none⟩) c rb wb xb v1 ws2 [] _ W := hS; clear hS
          refine StepZ.go rfl ?_
          go_simp
          exact ⟨Turn.ext rfl (by repeat (first | exact Ext.refl _ | assumption | refine Ext.alloc ?_ _ | refine Ext.drew ?_ | refine Ext.drewN ?_ _ | (refine Ext.setCell ?_ (by simp <;> omega) _) | refine Ext.trans ?_ (by assumption))), givesS_k (by kernel_rfl)⟩
        · intro U fl W hS hl hn hd hR
          obtain ⟨f0, rfl⟩ := flen1 hl
          obtain rfl : f0 = false := hn 0 (by decide) (by kernel_rfl)
          clear hR hl hn hd
          have hT : RdW w0 f (some ⟨tb, tq, none⟩) c rb wb xb v1 ws2 [] _ W := hS; clear hS
          have y1 := hT.wd.cell 0 (.string (strL wd2)) rfl; have l1 := hT.wd.lt; have yf := hT.wd.frozen 0; rw [HSA.out]
          refine StepZ.go rfl ?_
          go_simp
          exact ⟨rfl, Turn.sp rfl (RdW.word hT (wd2 ++ tx.data.toList)) (fun k9 v9 hk9 h9 => trivial), givesS_k (by kernel_rfl)⟩
        · intro U W hS hR
          clear hR
          have hT : RdW w0 f (some ⟨tb, tq, none⟩) c rb wb xb v1 ws2 [] (wd2 ++ tx.data.toList) W := hS; clear hS
          simp only [putAll, vu, Act.put, List.setIfInBounds_toArray, List.set_cons_zero, List.set_cons_succ]
          have HT9 := Lib.hid hT
          clear hT
          go_wp2
          go_roundw
          case rel => exact ⟨k + 1, v1, by omega, by go_num, Lib.hid (by rw [HR2E.out, HNE.out]; (try rw [show tx.data.toList = wd2 ++ tx.data.toList by rw [HWD.out]; rfl]); exact HT9.out)⟩
          case measure => simp [intOf]; omega
        -- END A
      case neg =>
        -- BEGIN B
        have e3 : (kd == 3) = false := by rw [beq_eq_false_iff_ne]; exact hk3
        rw [if_neg hk3] at HNE
        clear hk3
        go_upto_region 9 with fail
        clear x1 xl x2 xl2 d2'
        have HSA : Hid (strL wd ++ tx = strL (wd ++ tx.data.toList)) := Lib.hid (strL_app _ _)
        have j0 := strL_size wd
        have j1 : ¬ 9223372036854775807 < (strL wd).size + tx.size := by omega
        have HR9 : Hid (RdW w0 f (some ⟨tb, tq, none⟩) c rb wb xb v' ws [] wd wr.drew) := Lib.hid (HW.out.next (Ext.refl _).drew)
        clear j0
        refine wp_region_sp [12] [some (.string (strL wd)), some (.pointer (some ⟨rb, 0, none⟩)), some (.pointer (some ⟨rb, 0, none⟩)), some (.pointer (some ⟨rb, 0, none⟩)), some (.pointer (some ⟨rb, 0, none⟩)), some (.pointer (some ⟨rb, 2, none⟩)), some (.slice (some ⟨tb, tq, none⟩) f.sorts.length c), some (.int .i64 (p : Int)), some (.pointer (some ⟨tb, tq + p * 4, none⟩)), some (.pointer (some ⟨tb, tq + p * 4 + 1, none⟩)), some (.string tx), some (.string (strL wd ++ tx)), some (undef)] (fun k v fl W => True) (fun fl W => RdW w0 f (some ⟨tb, tq, none⟩) c rb wb xb v' ws [] (if fl.getD 0 false = true then wd ++ tx.data.toList else wd) W) (by kernel_rfl) (by kernel_rfl) rfl (by decide) (fun fl W W' h hx => h.next hx) (fun k v fl W W' h hx => trivial) (HR9.out) ⟨?_, ?_, ?_, ?_, ?_, ?_, ?_, ?_, ?_, ?_, ?_, ?_, ?_, trivial⟩ ?_
        · intro U fl W hS hl hn hd hR
          obtain ⟨f0, rfl⟩ := flen1 hl
          obtain rfl : f0 = false := hn 0 (by decide) (by kernel_rfl)
          clear hR hl hn hd
          have hT : RdW w0 f (some ⟨tb, tq, none⟩) c rb wb xb v' ws [] _ W := hS; clear hS
          have y1 := hT.wd.cell 0 (.string (strL wd)) rfl; have l1 := hT.wd.lt
          refine StepZ.go rfl ?_
          go_simp
          exact ⟨Turn.ext rfl (by repeat (first | exact Ext.refl _ | assumption | refine Ext.alloc ?_ _ | refine Ext.drew ?_ | refine Ext.drewN ?_ _ | (refine Ext.setCell ?_ (by simp <;> omega) _) | refine Ext.trans ?_ (by assumption))), givesS_k (by kernel_rfl)⟩
        · intro U fl W hS hl hn hd hR
          obtain ⟨f0, rfl⟩ := flen1 hl
          obtain rfl : f0 = false := hn 0 (by decide) (by kernel_rfl)
          clear hR hl hn hd
          have hT : RdW w0 f (some ⟨tb, tq, none⟩) c rb wb xb v' ws [] _ W := hS; clear hS
          have y1 := hT.bx.cell 0 _ rfl; have l1 := hT.bx.lt
          refine StepZ.go rfl ?_
          go_simp
          exact ⟨Turn.ext rfl (by repeat (first | exact Ext.refl _ | assumption | refine Ext.alloc ?_ _ | refine Ext.drew ?_ | refine Ext.drewN ?_ _ | (refine Ext.setCell ?_ (by simp <;> omega) _) | refine Ext.trans ?_ (by assumption))), givesS_k (by kernel_rfl)⟩
        · intro U fl W hS hl hn hd hR
          obtain ⟨f0, rfl⟩ := flen1 hl
          obtain rfl : f0 = false := hn 0 (by decide) (by kernel_rfl)
          clear hR hl hn hd
          have hT : RdW w0 f (some ⟨tb, tq, none⟩) c rb wb xb v' ws [] _ W := hS; clear hS
          refine StepZ.go rfl ?_
          go_simp
          exact ⟨Turn.ext rfl (by repeat (first | exact Ext.refl _ | assumption | refine Ext.alloc ?_ _ | refine Ext.drew ?_ | refine Ext.drewN ?_ _ | (refine Ext.setCell ?_ (by simp <;> omega) _) | refine Ext.trans ?_ (by assumption))), givesS_k (by kernel_rfl)⟩
        · intro U fl W hS hl hn hd hR
          obtain ⟨f0, rfl⟩ := flen1 hl
          obtain rfl : f0 = false := hn 0 (by decide) (by kernel_rfl)
          clear hR hl hn hd
          have hT : RdW w0 f (some ⟨tb, tq, none⟩) c rb wb xb v' ws [] _ W := hS; clear hS
          refine StepZ.go rfl ?_
          go_simp
          exact ⟨Turn.ext rfl (by repeat (first | exact Ext.refl _ | assumption | refine Ext.alloc ?_ _ | refine Ext.drew ?_ | refine Ext.drewN ?_ _ | (refine Ext.setCell ?_ (by simp <;> omega) _) | refine Ext.trans ?_ (by assumption))), givesS_k (by kernel_rfl)⟩
        · intro U fl W hS hl hn hd hR
          obtain ⟨f0, rfl⟩ := flen1 hl
          obtain rfl : f0 = false := hn 0 (by decide) (by kernel_rfl)
          clear hR hl hn hd
          have hT : RdW w0 f (some ⟨tb, tq, none⟩) c rb wb xb v' ws [] _ W := hS; clear hS
          refine StepZ.go rfl ?_
          go_simp
          exact ⟨Turn.ext rfl (by repeat (first | exact Ext.refl _ | assumption | refine Ext.alloc ?_ _ | refine Ext.drew ?_ | refine Ext.drewN ?_ _ | (refine Ext.setCell ?_ (by simp <;> omega) _) | refine Ext.trans ?_ (by assumption))), givesS_k (by kernel_rfl)⟩
        · intro U fl W hS hl hn hd hR
          obtain ⟨f0, rfl⟩ := flen1 hl
          obtain rfl : f0 = false := hn 0 (by decide) (by kernel_rfl)
          clear hR hl hn hd
          have hT : RdW w0 f (some ⟨tb, tq, none⟩) c rb wb xb v' ws [] _ W := hS; clear hS
          refine StepZ.go rfl ?_
          go_simp
          exact ⟨Turn.ext rfl (by repeat (first | exact Ext.refl _ | assumption | refine Ext.alloc ?_ _ | refine Ext.drew ?_ | refine Ext.drewN ?_ _ | (refine Ext.setCell ?_ (by simp <;> omega) _) | refine Ext.trans ?_ (by assumption))), givesS_k (by kernel_rfl)⟩
        · intro U fl W hS hl hn hd hR
          obtain ⟨f0, rfl⟩ := flen1 hl
          obtain rfl : f0 = false := hn 0 (by decide) (by kernel_rfl)
          clear hR hl hn hd
          have hT : RdW w0 f (some ⟨tb, tq, none⟩) c rb wb xb v' ws [] _ W := hS; clear hS
          have y1 := hT.r.rd.cell 2 (.slice (some ⟨tb, tq, none⟩) f.sorts.length c) rfl; have l1 := hT.r.rd.lt
          refine StepZ.go rfl ?_
          go_simp
          exact ⟨Turn.ext rfl (by repeat (first | exact Ext.refl _ | assumption | refine Ext.alloc ?_ _ | refine Ext.drew ?_ | refine Ext.drewN ?_ _ | (refine Ext.setCell ?_ (by simp <;> omega) _) | refine Ext.trans ?_ (by assumption))), givesS_k (by kernel_rfl)⟩
        · intro U fl W hS hl hn hd hR
          obtain ⟨f0, rfl⟩ := flen1 hl
          obtain rfl : f0 = false := hn 0 (by decide) (by kernel_rfl)
          clear hR hl hn hd
          have hT : RdW w0 f (some ⟨tb, tq, none⟩) c rb wb xb v' ws [] _ W := hS; clear hS
          refine StepZ.go rfl ?_
          go_simp
          exact ⟨Turn.ext rfl (by repeat (first | exact Ext.refl _ | assumption | refine Ext.alloc ?_ _ | refine Ext.drew ?_ | refine Ext.drewN ?_ _ | (refine Ext.setCell ?_ (by simp <;> omega) _) | refine Ext.trans ?_ (by assumption))), givesS_k (by kernel_rfl)⟩
        · intro U fl W hS hl hn hd hR
          obtain ⟨f0, rfl⟩ := flen1 hl
          obtain rfl : f0 = false := hn 0 (by decide) (by kernel_rfl)
          clear hR hl hn hd
          have hT : RdW w0 f (some ⟨tb, tq, none⟩) c rb wb xb v' ws [] _ W := hS; clear hS
          refine StepZ.go rfl ?_
          go_simp
          exact ⟨Turn.ext rfl (by repeat (first | exact Ext.refl _ | assumption | refine Ext.alloc ?_ _ | refine Ext.drew ?_ | refine Ext.drewN ?_ _ | (refine Ext.setCell ?_ (by simp <;> omega) _) | refine Ext.trans ?_ (by assumption))), givesS_k (by kernel_rfl)⟩
        · intro U fl W hS hl hn hd hR
          obtain ⟨f0, rfl⟩ := flen1 hl
          obtain rfl : f0 = false := hn 0 (by decide) (by kernel_rfl)
          clear hR hl hn hd
          have hT : RdW w0 f (some ⟨tb, tq, none⟩) c rb wb xb v' ws [] _ W := hS; clear hS
          refine StepZ.go rfl ?_
          go_simp
          exact ⟨Turn.ext rfl (by repeat (first | exact Ext.refl _ | assumption | refine Ext.alloc ?_ _ | refine Ext.drew ?_ | refine Ext.drewN ?_ _ | (refine Ext.setCell ?_ (by simp <;> omega) _) | refine Ext.trans ?_ (by assumption))), givesS_k (by kernel_rfl)⟩
        · intro U fl W hS hl hn hd hR
          obtain ⟨f0, rfl⟩ := flen1 hl
          obtain rfl : f0 = false := hn 0 (by decide) (by kernel_rfl)
          clear hR hl hn hd
          have hT : RdW w0 f (some ⟨tb, tq, none⟩) c rb wb xb v' ws [] _ W := hS; clear hS
          have y1 := (hT.r.ext.cell (p := ⟨tb, tq + p * 4 + 1, none⟩) htl).trans HD1.out; have l1 := Nat.lt_of_lt_of_le htl hT.r.ext.size
          refine StepZ.go rfl ?_
          go_simp
          exact ⟨Turn.ext rfl (by repeat (first | exact Ext.refl _ | assumption | refine Ext.alloc ?_ _ | refine Ext.drew ?_ | refine Ext.drewN ?_ _ | (refine Ext.setCell ?_ (by simp <;> omega) _) | refine Ext.trans ?_ (by assumption))), givesS_k (by kernel_rfl)⟩
        · intro U fl W hS hl hn hd hR
          obtain ⟨f0, rfl⟩ := flen1 hl
          obtain rfl : f0 = false := hn 0 (by decide) (by kernel_rfl)
          clear hR hl hn hd
          have hT : RdW w0 f (some ⟨tb, tq, none⟩) c rb wb xb v' ws [] _ W := hS; clear hS
          refine StepZ.go rfl ?_
          go_simp
          exact ⟨Turn.ext rfl (by repeat (first | exact Ext.refl _ | assumption | refine Ext.alloc ?_ _ | refine Ext.drew ?_ | refine Ext.drewN ?_ _ | (refine Ext.setCell ?_ (by simp <;> omega) _) | refine Ext.trans ?_ (by assumption))), givesS_k (by kernel_rfl)⟩
        · intro U fl W hS hl hn hd hR
          obtain ⟨f0, rfl⟩ := flen1 hl
          obtain rfl : f0 = false := hn 0 (by decide) (by kernel_rfl)
          clear hR hl hn hd
          have hT : RdW w0 f (some ⟨tb, tq, none⟩) c rb wb xb v' ws [] _ W := hS; clear hS
          have y1 := hT.wd.cell 0 (.string (strL wd)) rfl; have l1 := hT.wd.lt; have yf := hT.wd.frozen 0; rw [HSA.out]
          refine StepZ.go rfl ?_
          go_simp
          exact ⟨rfl, Turn.sp rfl (RdW.word hT (wd ++ tx.data.toList)) (fun k9 v9 hk9 h9 => trivial), givesS_k (by kernel_rfl)⟩
        · intro U W hS hR
          clear hR
          have hT : RdW w0 f (some ⟨tb, tq, none⟩) c rb wb xb v' ws [] (wd ++ tx.data.toList) W := hS; clear hS
          simp only [putAll, vu, Act.put, List.setIfInBounds_toArray, List.set_cons_zero, List.set_cons_succ]
          have HT9 := Lib.hid hT
          clear hT
          go_wp2
          go_roundw
          case rel => exact ⟨k + 1, v', by omega, by go_num, Lib.hid (by rw [HR2E.out, HNE.out]; skip; exact HT9.out)⟩
          case measure => simp [intOf]; omega
        -- END B
    case neg =>
      obtain rfl : k = zs.length := by omega
      have ik : ¬ (zs.length : Int) < (zs.length : Int) := by omega
      clear hlt HL HST HBD HZ
      generalize rbTo f.sorts zs r zs.length = r1 at *
      obtain ⟨ws, wd⟩ := r1
      simp only at HW hb1 hb2
      cases b
      case false =>
        -- BEGIN C
        rw [if_neg (by decide)] at HLN
        go_wp2_with (first | (go_at_call 124; refine Calls.mono (lineEnd_any _ _ _ _ _ _ _ _ _ _ _ _ (HW.out.next (by repeat (first | exact Ext.refl _ | assumption | refine Ext.alloc ?_ _ | refine Ext.drew ?_ | refine Ext.drewN ?_ _ | (refine Ext.setCell ?_ (by simp <;> omega) _) | refine Ext.trans ?_ (by assumption)))) (by omega)) ?_; rintro e1 w1 ⟨⟨xr, rfl⟩, v1, h1⟩; have HR1 := Lib.hid h1; clear h1))
        refine bodyPost_ret (results_none rfl _ _ _) rfl ?_
        refine ⟨⟨_, rfl⟩, v1, ?_⟩
        rw [HLN.out]
        exact HR1.out.r
        -- END C
      case true =>
        -- BEGIN D
        rw [if_pos rfl] at HLN
        have j0 := strL_size wd
        have CTS : Hid (∀ W, Calls Tryz.prog 125 #[.string (strL wd), .string ⟨#[45]⟩] W (fun e w' => e = .returned (.string (strL (noHy wd))) ∧ W = w')) := Lib.hid fun W => (Tryz.strings_TrimSuffix (strL wd) ⟨#[45]⟩ W (by omega)).mono fun e w' ⟨h1, h2⟩ => ⟨by
          rw [h1, strL_list, show (⟨#[45]⟩ : ByteArray).data.toList = [45] from rfl, trim_hy]; rfl, h2.symm⟩
        go_upto_region 12 with fail
        have HR9 : Hid (RdW w0 f A c rb wb xb v' ws [] wd wr.drew) := Lib.hid (HW.out.next (Ext.refl _).drew)
        clear j0 HW
        generalize v' = v at *
        refine wp_region_sp [5] [some (.pointer (some ⟨rb, 0, none⟩)), some (.string (strL wd)), some (.string (strL (noHy wd))), some (.pointer (some ⟨rb, 0, none⟩)), some (.pointer (some ⟨rb, 4, none⟩)), some (undef)] (fun k v fl W => True) (fun fl W => RdW w0 f A c rb wb xb v ws (if fl.getD 0 false = true then noHy wd else []) wd W) (by kernel_rfl) (by kernel_rfl) rfl (by decide) (fun fl W W' h hx => h.next hx) (fun k v fl W W' h hx => trivial) (HR9.out) ⟨?_, ?_, ?_, ?_, ?_, ?_, trivial⟩ ?_
        · intro U fl W hS hl hn hd hR
          obtain ⟨f0, rfl⟩ := flen1 hl
          obtain rfl : f0 = false := hn 0 (by decide) (by kernel_rfl)
          clear hR hl hn hd
          have hT : RdW w0 f A c rb wb xb v ws _ wd W := hS; clear hS
          have y1 := hT.bx.cell 0 _ rfl; have l1 := hT.bx.lt
          refine StepZ.go rfl ?_
          go_simp
          exact ⟨Turn.ext rfl (by repeat (first | exact Ext.refl _ | assumption | refine Ext.alloc ?_ _ | refine Ext.drew ?_ | refine Ext.drewN ?_ _ | (refine Ext.setCell ?_ (by simp <;> omega) _) | refine Ext.trans ?_ (by assumption))), givesS_k (by kernel_rfl)⟩
        · intro U fl W hS hl hn hd hR
          obtain ⟨f0, rfl⟩ := flen1 hl
          obtain rfl : f0 = false := hn 0 (by decide) (by kernel_rfl)
          clear hR hl hn hd
          have hT : RdW w0 f A c rb wb xb v ws _ wd W := hS; clear hS
          have y1 := hT.wd.cell 0 _ rfl; have l1 := hT.wd.lt
          refine StepZ.go rfl ?_
          go_simp
          exact ⟨Turn.ext rfl (by repeat (first | exact Ext.refl _ | assumption | refine Ext.alloc ?_ _ | refine Ext.drew ?_ | refine Ext.drewN ?_ _ | (refine Ext.setCell ?_ (by simp <;> omega) _) | refine Ext.trans ?_ (by assumption))), givesS_k (by kernel_rfl)⟩
        · intro U fl W hS hl hn hd hR
          obtain ⟨f0, rfl⟩ := flen1 hl
          obtain rfl : f0 = false := hn 0 (by decide) (by kernel_rfl)
          clear hR hl hn hd
          have hT : RdW w0 f A c rb wb xb v ws _ wd W := hS; clear hS
          refine StepZ.go rfl ?_
          go_simp
          refine Calls.mono (CTS.out _) ?_; rintro e w4 ⟨rfl, rfl⟩; exact ⟨_, rfl, Turn.ext rfl (Ext.refl _), givesS_k (by kernel_rfl)⟩
        · intro U fl W hS hl hn hd hR
          obtain ⟨f0, rfl⟩ := flen1 hl
          obtain rfl : f0 = false := hn 0 (by decide) (by kernel_rfl)
          clear hR hl hn hd
          have hT : RdW w0 f A c rb wb xb v ws _ wd W := hS; clear hS
          refine StepZ.go rfl ?_
          go_simp
          exact ⟨Turn.ext rfl (by repeat (first | exact Ext.refl _ | assumption | refine Ext.alloc ?_ _ | refine Ext.drew ?_ | refine Ext.drewN ?_ _ | (refine Ext.setCell ?_ (by simp <;> omega) _) | refine Ext.trans ?_ (by assumption))), givesS_k (by kernel_rfl)⟩
        · intro U fl W hS hl hn hd hR
          obtain ⟨f0, rfl⟩ := flen1 hl
          obtain rfl : f0 = false := hn 0 (by decide) (by kernel_rfl)
          clear hR hl hn hd
          have hT : RdW w0 f A c rb wb xb v ws _ wd W := hS; clear hS
          refine StepZ.go rfl ?_
          go_simp
          exact ⟨Turn.ext rfl (by repeat (first | exact Ext.refl _ | assumption | refine Ext.alloc ?_ _ | refine Ext.drew ?_ | refine Ext.drewN ?_ _ | (refine Ext.setCell ?_ (by simp <;> omega) _) | refine Ext.trans ?_ (by assumption))), givesS_k (by kernel_rfl)⟩
        · intro U fl W hS hl hn hd hR
          obtain ⟨f0, rfl⟩ := flen1 hl
          obtain rfl : f0 = false := hn 0 (by decide) (by kernel_rfl)
          clear hR hl hn hd
          have hT : RdW w0 f A c rb wb xb v ws _ wd W := hS; clear hS
          have y1 := hT.r.rd.cell 4 (.string (strL [])) rfl; have l1 := hT.r.rd.lt; have yf := hT.r.rd.frozen 4
          refine StepZ.go rfl ?_
          go_simp
          exact ⟨rfl, Turn.sp rfl (RdW.carry hT (noHy wd)) (fun k9 v9 hk9 h9 => trivial), givesS_k (by kernel_rfl)⟩
        · intro U W hS hR
          clear hR
          have hT : RdW w0 f A c rb wb xb v ws (noHy wd) wd W := hS; clear hS
          simp only [putAll, vu, Act.put, List.setIfInBounds_toArray, List.set_cons_zero, List.set_cons_succ]
          have HT9 := Lib.hid hT
          clear hT
          go_wp2
          refine bodyPost_ret (results_none rfl _ _ _) rfl ?_
          refine ⟨⟨_, rfl⟩, v, ?_⟩
          rw [HLN.out]
          exact HT9.out.r
        -- END D
end Go.Proofs.YtccdnieoaejgdaaGreatDoor
