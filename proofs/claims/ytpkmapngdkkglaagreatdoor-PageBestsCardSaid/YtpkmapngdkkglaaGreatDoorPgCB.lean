/-
  Walks: chapter 5: the check of breaks.
-/
import Derived.Test.YtpkmapngdkkglaaGreatDoorGI
import Derived.Test.YtpkmapngdkkglaaGreatDoorLeastLaw
namespace Go.Proofs.YtpkmapngdkkglaaGreatDoor
open Go.RowKit

/-- A book in memory. -/
structure BkW (w0 : World) (cs : Array Value) (bk : Nat) (W : World) : Prop where
  ext : Ext w0 W
  bb : Blk W bk 96 cs
section
variable {w0 W W' : World} {bk : Nat} {cs : Array Value} {a b c d e f : Value}
theorem BkW.next (h : BkW w0 cs bk W) (hx : Ext W W') : BkW w0 cs bk W' := ⟨h.ext.trans hx, h.bb.ext hx⟩
theorem BkW.at (h : BkW w0 #[a, b, c, d, e, f] bk W) : (W.cell? ⟨bk, 0, none⟩ = some a ∧ W.cell? ⟨bk, 1, none⟩ = some b ∧ W.cell? ⟨bk, 2, none⟩ = some c ∧ W.cell? ⟨bk, 3, none⟩ = some d ∧ W.cell? ⟨bk, 4, none⟩ = some e ∧ W.cell? ⟨bk, 5, none⟩ = some f) ∧ bk < W.heap.size :=
  ⟨⟨h.bb.cell 0 _ rfl, h.bb.cell 1 _ rfl, h.bb.cell 2 _ rfl, h.bb.cell 3 _ rfl, h.bb.cell 4 _ rfl, h.bb.cell 5 _ rfl⟩, h.bb.lt⟩
end
/-- The sum of breaks, or the error. -/
def cbP (g : GT) (r : QT) (l : List Int) : Int × Int := if bookErr g r ≠ 0 then (0, bookErr g r) else cbR (costR g r) g.items.length l
set_option maxRecDepth 100000 in
set_option maxHeartbeats 8000000 in
theorem checkBreaks_any (g : GT) (p : GA) (r : QT) (A : Option Addr) (c : Nat) (l : List Int) (w : World) (hg : GR w p g) (hl : RI w A l.length l) :
    Calls Tryz.prog 42 #[g.val p, r.val, .slice A l.length c] w (Ret (pairGV (cbP g r l)) w) := by
  have hbig := hl.big
  have cO := fun W h => open_any g p r W h
  have HV0 : Hid (cbP g r l = if bookErr g r ≠ 0 then (0, bookErr g r) else cbR (costR g r) g.items.length l) := Lib.hid rfl
  unfold pairGV
  generalize cbP g r l = V at *
  have HG := Lib.hid hg
  by_cases hck : (chkG g).2 = 0
  case neg =>
    have hbe : bookErr g r = (chkG g).2 := by unfold bookErr; rw [if_pos hck]
    have HV : Hid (V = (0, (chkG g).2)) := Lib.hid (by rw [HV0.out, if_pos (by rw [hbe]; exact hck), hbe])
    have HOV : Hid (openV g p r = .tuple #[.agg #[.slice none 0 0, .slice none 0 0, .int .i64 0, .int .i64 0, .int .i64 0, .int .i64 0], .int .i64 (chkG g).2]) := Lib.hid (by unfold openV; rw [if_pos hck])
    rw [HOV.out] at cO
    have e0 : ((chkG g).2 != 0) = true := by simpa using hck
    generalize (chkG g).2 = z at *
    unfold GT.val QT.val at *
    have CO := Lib.hid cO; clear cO hck hbe hg HOV HV0
    go_enter Tryz.func42, Tryz.ntmps42
    go_wp2_with (first | (go_at_call 51; refine Calls.mono (CO.out _ ?_) ?_; (exact HG.out.ext (by repeat first | exact xe0 _ | assumption | refine xea ?_ _ | refine xed ?_ | refine xet ?_ (by assumption))); rintro e w1 ⟨rfl, hb⟩; have HX1 := Lib.hid (Ext.trans (a := w) (by repeat first | exact xe0 _ | assumption | refine xea ?_ _ | refine xed ?_ | refine xet ?_ (by assumption)) hb); clear hb))
    go_ret2
    exact Ret.mk' (by rw [HV.out]; rfl) (HX1.out.trans (by repeat first | exact xe0 _ | assumption | refine xea ?_ _ | refine xed ?_ | refine xet ?_ (by assumption)))
  case pos =>
  have hR := chkG_zero hck
  have HOV : Hid (openV g p r = .tuple #[bkVal g p r, .int .i64 (chkQ r)]) := Lib.hid (by unfold openV; rw [if_neg (by simpa using hck)])
  rw [HOV.out] at cO
  have hbe : bookErr g r = chkQ r := by unfold bookErr; rw [if_neg (by simpa using hck)]
  rw [hbe] at HV0
  clear hbe hck
  by_cases hq : chkQ r = 0
  case neg =>
    have HV : Hid (V = (0, chkQ r)) := Lib.hid (by rw [HV0.out, if_pos hq])
    have e0 : (chkQ r != 0) = true := by simpa using hq
    generalize chkQ r = z at *
    unfold bkVal at cO
    unfold GT.val QT.val at *
    have CO := Lib.hid cO; clear cO hq hg HOV HV0 hR
    go_enter Tryz.func42, Tryz.ntmps42
    go_wp2_with (first | (go_at_call 51; refine Calls.mono (CO.out _ ?_) ?_; (exact HG.out.ext (by repeat first | exact xe0 _ | assumption | refine xea ?_ _ | refine xed ?_ | refine xet ?_ (by assumption))); rintro e w1 ⟨rfl, hb⟩; have HX1 := Lib.hid (Ext.trans (a := w) (by repeat first | exact xe0 _ | assumption | refine xea ?_ _ | refine xed ?_ | refine xet ?_ (by assumption)) hb); clear hb))
    go_ret2
    exact Ret.mk' (by rw [HV.out]; rfl) (HX1.out.trans (by repeat first | exact xe0 _ | assumption | refine xea ?_ _ | refine xed ?_ | refine xet ?_ (by assumption)))
  case pos =>
  rw [hq] at cO
  have hn := hR.many
  have hs := cost_small hR hq
  have cE := fun W => bookEnd_any g p r W
  have cC := fun W h a b hab hb => cost_any g p r a b W h hab hb hR hq
  unfold costV at cC
  have HR1 := HV0.out
  rw [if_neg (by simpa using hq)] at HR1
  have HR : Hid (V = if firstE (cbE (costR g r) g.items.length l) l.length ≠ 0 then (0, firstE (cbE (costR g r) g.items.length l) l.length) else if l.length = 0 ∨ cbAt l l.length ≠ g.items.length then (0, 14) else (brkSum (costR g r) 0 l l.length, 0)) := Lib.hid (HR1.trans rfl)
  have HH : Hid (∀ k, (∀ j, j < k → cbE (costR g r) g.items.length l j = 0) → k < l.length → cbE (costR g r) g.items.length l k ≠ 0 → V = (0, cbE (costR g r) g.items.length l k)) := Lib.hid fun k h0 hk hb => by
    rw [HR.out, firstE_hit (g := cbE (costR g r) g.items.length l) h0 hb hk, if_pos hb]
  have HZ : Hid ((∀ j, j < l.length → cbE (costR g r) g.items.length l j = 0) → V = if l.length = 0 ∨ cbAt l l.length ≠ g.items.length then (0, 14) else (brkSum (costR g r) 0 l l.length, 0)) := Lib.hid fun h => by
    rw [HR.out, firstE_none h, if_neg (by simp)]
  have HBD := Lib.hid (fun k h => cb_bd hs (l := l) k h)
  have HL := Lib.hid hl; have HSM := Lib.hid hs
  unfold bkVal at cO cE cC
  simp only [GT.val, QT.val] at *
  have CC := Lib.hid cC; have CO := Lib.hid cO; have CE := Lib.hid cE
  clear cC cO cE HR HR1 HV0 HOV hg hl hs hR hq
  go_enter Tryz.func42, Tryz.ntmps42
  go_wp2_with (first | (go_at_call 51; refine Calls.mono (CO.out _ ?_) ?_; (exact HG.out.ext (by repeat first | exact xe0 _ | assumption | refine xea ?_ _ | refine xed ?_ | refine xet ?_ (by assumption))); rintro e w1 ⟨rfl, hb⟩; have HX1 := Lib.hid (Ext.trans (a := w) (by repeat first | exact xe0 _ | assumption | refine xea ?_ _ | refine xed ?_ | refine xet ?_ (by assumption)) hb); clear hb))
  have HK0 : Hid (BkW w #[.slice p.A g.items.length p.c, .slice p.B g.notes.length p.d, .int .i64 r.height, .int .i64 r.gap, .int .i64 r.widow, .int .i64 r.orphan] w1.heap.size (w1.alloc (.cells #[.slice p.A g.items.length p.c, .slice p.B g.notes.length p.d, .int .i64 r.height, .int .i64 r.gap, .int .i64 r.widow, .int .i64 r.orphan] 96))) := Lib.hid ⟨HX1.out.trans (by repeat first | exact xe0 _ | assumption | refine xea ?_ _ | refine xed ?_ | refine xet ?_ (by assumption)), Blk.new w1 _ _⟩
  go_loopw [10, 11, 27] (fun b s i wr => ∃ k : Nat, k ≤ l.length ∧ i = .int .i64 (k : Int) ∧ b = .int .i64 ((cbAt l k : Nat) : Int) ∧ s = .int .i64 (brkSum (costR g r) 0 l k) ∧ Hid (∀ j, j < k → cbE (costR g r) g.items.length l j = 0) ∧ Hid (BkW w #[.slice p.A g.items.length p.c, .slice p.B g.notes.length p.d, .int .i64 r.height, .int .i64 r.gap, .int .i64 r.widow, .int .i64 r.orphan] w1.heap.size wr)) (fun _ _ i _ => l.length - (intOf i).toNat)
  case atStart => exact ⟨0, Nat.zero_le _, rfl, rfl, rfl, Lib.hid (fun j hj => absurd hj (by omega)), HK0⟩
  case round =>
    obtain ⟨k, hk, rfl, rfl, rfl, H0, HK⟩ := hrel
    clear HK0
    obtain ⟨hb1, hb2, hb3, hb4⟩ := HBD.out k H0.out
    obtain ⟨⟨k0, k1, k2, k3, k4, k5⟩, kl⟩ := HK.out.at
    by_cases hlt : k < l.length
    case neg =>
      obtain rfl : k = l.length := by omega
      have HV := Lib.hid (HZ.out H0.out)
      by_cases hl0 : l.length = 0
      case pos =>
        have HV2 : Hid (V = (0, 14)) := Lib.hid (by rw [HV.out, if_pos (.inl hl0)])
        have i1 : ((l.length : Int) == 0) = true := by rw [beq_iff_eq]; omega
        generalize cbAt l l.length = b0 at *
        clear hl0 HV HZ HH HBD
        go_wp2_with (first | (go_at_call 73; refine Calls.mono (CE.out _) ?_; rintro e w3 ⟨rfl, hb⟩; have HK9 := Lib.hid (HK.out.next (Ext.trans (by repeat first | exact xe0 _ | assumption | refine xea ?_ _ | refine xed ?_ | refine xet ?_ (by assumption)) hb)); clear k0 k1 k2 k3 k4 k5 kl HK; have HK := HK9; clear HK9; obtain ⟨⟨k0, k1, k2, k3, k4, k5⟩, kl⟩ := HK.out.at; clear hb))
        go_ret2
        exact Ret.mk' (by rw [HV2.out]; rfl) (HK.out.ext.trans (by repeat first | exact xe0 _ | assumption | refine xea ?_ _ | refine xed ?_ | refine xet ?_ (by assumption)))
      case neg =>
      have i1 : ((l.length : Int) == 0) = false := by rw [beq_eq_false_iff_ne]; omega
      by_cases hbn : cbAt l l.length = g.items.length
      case pos =>
        have HV2 : Hid (V = (brkSum (costR g r) 0 l l.length, 0)) := Lib.hid (by rw [HV.out, if_neg (by rintro (h | h); exact hl0 h; exact h hbn)])
        have i2 : ((cbAt l l.length : Nat) : Int) = (g.items.length : Int) := by omega
        have i3 : (((cbAt l l.length : Nat) : Int) != (g.items.length : Int)) = false := by rw [i2]; simp
        generalize cbAt l l.length = b0 at *
        clear hl0 hbn HV HZ HH HBD i2
        go_wp2_with (first | (go_at_call 73; refine Calls.mono (CE.out _) ?_; rintro e w3 ⟨rfl, hb⟩; have HK9 := Lib.hid (HK.out.next (Ext.trans (by repeat first | exact xe0 _ | assumption | refine xea ?_ _ | refine xed ?_ | refine xet ?_ (by assumption)) hb)); clear k0 k1 k2 k3 k4 k5 kl HK; have HK := HK9; clear HK9; obtain ⟨⟨k0, k1, k2, k3, k4, k5⟩, kl⟩ := HK.out.at; clear hb))
        go_ret2
        exact Ret.mk' (by rw [HV2.out]; rfl) (HK.out.ext.trans (by repeat first | exact xe0 _ | assumption | refine xea ?_ _ | refine xed ?_ | refine xet ?_ (by assumption)))
      case neg =>
        have HV2 : Hid (V = (0, 14)) := Lib.hid (by rw [HV.out, if_pos (.inr hbn)])
        have i3 : (((cbAt l l.length : Nat) : Int) != (g.items.length : Int)) = true := by rw [bne_iff_ne]; omega
        generalize cbAt l l.length = b0 at *
        clear hl0 hbn HV HZ HH HBD
        go_wp2_with (first | (go_at_call 73; refine Calls.mono (CE.out _) ?_; rintro e w3 ⟨rfl, hb⟩; have HK9 := Lib.hid (HK.out.next (Ext.trans (by repeat first | exact xe0 _ | assumption | refine xea ?_ _ | refine xed ?_ | refine xet ?_ (by assumption)) hb)); clear k0 k1 k2 k3 k4 k5 kl HK; have HK := HK9; clear HK9; obtain ⟨⟨k0, k1, k2, k3, k4, k5⟩, kl⟩ := HK.out.at; clear hb))
        go_ret2
        exact Ret.mk' (by rw [HV2.out]; rfl) (HK.out.ext.trans (by repeat first | exact xe0 _ | assumption | refine xea ?_ _ | refine xed ?_ | refine xet ?_ (by assumption)))
    case pos =>
      have hk1 : k < g.items.length + 1 := by
        rcases Nat.eq_zero_or_pos k with h | h
        · omega
        · have := hb2 h; omega
      obtain ⟨bb, bo, rfl, hbb, hbc⟩ := (HL.out.ext HK.out.ext).2.2 (by omega)
      have hbk := hbc k hlt
      have HE := Lib.hid (HH.out k H0.out hlt)
      have HE0 : Hid (cbE (costR g r) g.items.length l k = cbErr (costR g r) g.items.length (cbAt l k) (l.getD k 0)) := Lib.hid rfl
      have HSX : Hid (cbAt l (k + 1) = (l.getD k 0).toNat) := Lib.hid (cbAt_succ l k)
      have HSS : Hid (brkSum (costR g r) 0 l (k + 1) = brkSum (costR g r) 0 l k + (costR g r (cbAt l k) (l.getD k 0).toNat).1) := Lib.hid (brkSum_succ l k)
      have HN : Hid (cbE (costR g r) g.items.length l k = 0 → ∀ j, j < k + 1 → cbE (costR g r) g.items.length l j = 0) := Lib.hid fun h j hj => by
        rcases Nat.lt_or_ge j k with h9 | h9
        · exact H0.out j h9
        · obtain rfl : j = k := by omega
          exact h
      rw [HE0.out] at HE HN
      obtain ⟨z, hz⟩ : ∃ z, l.getD k 0 = z := ⟨_, rfl⟩
      rw [hz] at hbk HE HN HSX HSS
      have hki : (k : Int) < (l.length : Int) := by omega
      generalize cbAt l k = b0 at *
      clear hbc hz HE0 hb1 hb2 HZ HH HBD
      by_cases h1 : 0 ≤ z ∧ z ≤ (g.items.length : Int)
      case neg =>
        have hE : cbErr (costR g r) g.items.length b0 z = 2 := by unfold cbErr; rw [if_pos h1]
        have HV : Hid (V = (0, 2)) := Lib.hid (by have := HE.out; rw [hE] at this; exact this (by decide))
        have CW := Lib.hid (fun W => pWithin_no z 0 (g.items.length : Int) W h1)
        clear h1 hE HE HN HSX HSS
        go_wp2_with (first | (go_at_call 73; refine Calls.mono (CE.out _) ?_; rintro e w3 ⟨rfl, hb⟩; have HK9 := Lib.hid (HK.out.next (Ext.trans (by repeat first | exact xe0 _ | assumption | refine xea ?_ _ | refine xed ?_ | refine xet ?_ (by assumption)) hb)); clear k0 k1 k2 k3 k4 k5 kl HK; have HK := HK9; clear HK9; obtain ⟨⟨k0, k1, k2, k3, k4, k5⟩, kl⟩ := HK.out.at; clear hb) | (go_at_call 77; refine Calls.mono (CW.out _) ?_; rintro e w8 ⟨rfl, rfl⟩))
        go_ret2
        exact Ret.mk' (by rw [HV.out]; rfl) (HK.out.ext.trans (by repeat first | exact xe0 _ | assumption | refine xea ?_ _ | refine xed ?_ | refine xet ?_ (by assumption)))
      case pos =>
      obtain ⟨e0, he0⟩ : ∃ e0 : Nat, z = (e0 : Int) := ⟨z.toNat, by omega⟩
      subst he0
      have CW := Lib.hid (fun W => pWithin_yes (e0 : Int) 0 (g.items.length : Int) W h1)
      have hen : e0 ≤ g.items.length := by omega
      rw [Int.toNat_natCast] at HSX HSS
      by_cases h2 : e0 ≤ b0
      case pos =>
        have hE : cbErr (costR g r) g.items.length b0 (e0 : Int) = 9 := by unfold cbErr; rw [if_neg (by omega), if_pos (by omega)]
        have HV : Hid (V = (0, 9)) := Lib.hid (by have := HE.out; rw [hE] at this; exact this (by decide))
        have i2 : (e0 : Int) ≤ (b0 : Int) := by omega
        clear h1 hE HE HN HSX HSS h2
        go_wp2_with (first | (go_at_call 73; refine Calls.mono (CE.out _) ?_; rintro e w3 ⟨rfl, hb⟩; have HK9 := Lib.hid (HK.out.next (Ext.trans (by repeat first | exact xe0 _ | assumption | refine xea ?_ _ | refine xed ?_ | refine xet ?_ (by assumption)) hb)); clear k0 k1 k2 k3 k4 k5 kl HK; have HK := HK9; clear HK9; obtain ⟨⟨k0, k1, k2, k3, k4, k5⟩, kl⟩ := HK.out.at; clear hb) | (go_at_call 77; refine Calls.mono (CW.out _) ?_; rintro e w8 ⟨rfl, rfl⟩))
        go_ret2
        exact Ret.mk' (by rw [HV.out]; rfl) (HK.out.ext.trans (by repeat first | exact xe0 _ | assumption | refine xea ?_ _ | refine xed ?_ | refine xet ?_ (by assumption)))
      case neg =>
      have i2 : ¬ (e0 : Int) ≤ (b0 : Int) := by omega
      have hE : cbErr (costR g r) g.items.length b0 (e0 : Int) = (costR g r b0 e0).2 := by unfold cbErr; rw [if_neg (by omega), if_neg (by omega), Int.toNat_natCast]
      rw [hE] at HE HN
      have CK := Lib.hid (fun W h => CC.out W h b0 e0 (by omega) hen)
      have hcv := HSM.out b0 e0 (by omega) hen
      clear hE h1
      generalize costR g r b0 e0 = cs at *
      obtain ⟨cv, cz⟩ := cs
      simp only at HE HN HSS CK hcv
      have HCV := Lib.hid hcv
      clear hcv h2
      by_cases h3 : cz = 0
      case neg =>
        have HV : Hid (V = (0, cz)) := Lib.hid (HE.out h3)
        have i3 : (cz != 0) = true := by simpa using h3
        clear h3 HE HN HSX HSS HCV
        go_wp2_with (first | (go_at_call 73; refine Calls.mono (CE.out _) ?_; rintro e w3 ⟨rfl, hb⟩; have HK9 := Lib.hid (HK.out.next (Ext.trans (by repeat first | exact xe0 _ | assumption | refine xea ?_ _ | refine xed ?_ | refine xet ?_ (by assumption)) hb)); clear k0 k1 k2 k3 k4 k5 kl HK; have HK := HK9; clear HK9; obtain ⟨⟨k0, k1, k2, k3, k4, k5⟩, kl⟩ := HK.out.at; clear hb) | (go_at_call 77; refine Calls.mono (CW.out _) ?_; rintro e w8 ⟨rfl, rfl⟩) | (go_at_call 57; refine Calls.mono (CK.out _ ?_) ?_; (exact HG.out.ext (HK.out.ext.trans (by repeat first | exact xe0 _ | assumption | refine xea ?_ _ | refine xed ?_ | refine xet ?_ (by assumption)))); rintro e w4 ⟨rfl, hb⟩; have HK9 := Lib.hid (HK.out.next (Ext.trans (by repeat first | exact xe0 _ | assumption | refine xea ?_ _ | refine xed ?_ | refine xet ?_ (by assumption)) hb)); clear k0 k1 k2 k3 k4 k5 kl HK; have HK := HK9; clear HK9; obtain ⟨⟨k0, k1, k2, k3, k4, k5⟩, kl⟩ := HK.out.at; clear hb))
        go_ret2
        exact Ret.mk' (by rw [HV.out]; rfl) (HK.out.ext.trans (by repeat first | exact xe0 _ | assumption | refine xea ?_ _ | refine xed ?_ | refine xet ?_ (by assumption)))
      case pos =>
        have HN2 := Lib.hid (HN.out h3)
        obtain ⟨v1, v2⟩ := HCV.out h3
        subst h3
        have hws : brkSum (costR g r) 0 l k + cv ≤ 2000000000 := by omega
        clear HE HN HCV
        go_wp2_with (first | (go_at_call 73; refine Calls.mono (CE.out _) ?_; rintro e w3 ⟨rfl, hb⟩; have HK9 := Lib.hid (HK.out.next (Ext.trans (by repeat first | exact xe0 _ | assumption | refine xea ?_ _ | refine xed ?_ | refine xet ?_ (by assumption)) hb)); clear k0 k1 k2 k3 k4 k5 kl HK; have HK := HK9; clear HK9; obtain ⟨⟨k0, k1, k2, k3, k4, k5⟩, kl⟩ := HK.out.at; clear hb) | (go_at_call 77; refine Calls.mono (CW.out _) ?_; rintro e w8 ⟨rfl, rfl⟩) | (go_at_call 57; refine Calls.mono (CK.out _ ?_) ?_; (exact HG.out.ext (HK.out.ext.trans (by repeat first | exact xe0 _ | assumption | refine xea ?_ _ | refine xed ?_ | refine xet ?_ (by assumption)))); rintro e w4 ⟨rfl, hb⟩; have HK9 := Lib.hid (HK.out.next (Ext.trans (by repeat first | exact xe0 _ | assumption | refine xea ?_ _ | refine xed ?_ | refine xet ?_ (by assumption)) hb)); clear k0 k1 k2 k3 k4 k5 kl HK; have HK := HK9; clear HK9; obtain ⟨⟨k0, k1, k2, k3, k4, k5⟩, kl⟩ := HK.out.at; clear hb))
        go_roundw
        case rel => exact ⟨k + 1, by omega, by go_num, by rw [HSX.out], by rw [HSS.out], HN2, Lib.hid (HK.out.next (by repeat first | exact xe0 _ | assumption | refine xea ?_ _ | refine xed ?_ | refine xet ?_ (by assumption)))⟩
        case measure => simp [intOf] <;> omega
end Go.Proofs.YtpkmapngdkkglaaGreatDoor
