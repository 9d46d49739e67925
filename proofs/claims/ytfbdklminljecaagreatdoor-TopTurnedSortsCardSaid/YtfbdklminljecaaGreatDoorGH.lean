/-
  Walks: chapter 5: a book's end, and the core of a page.
  Walk: chapter 5: the notes of a page.
  Walk: chapter 5: what a page uses.
  Walks: chapter 5: whether places are those of a page; open.
  Walk: chapter 5: the cost of a page.
-/
import Derived.Test.YtfbdklminljecaaGreatDoorGC
import Derived.Test.YtfbdklminljecaaGreatDoorGG
import Derived.Test.YtfbdklminljecaaGreatDoorGB
import Derived.Deep.RegionHeld3
import Derived.Deep.DrawnRows
import Derived.Test.YtfbdklminljecaaGreatDoorGD
import Derived.Deep.CutRange
import Derived.Deep.DeepCutAuto
namespace Go.Proofs.YtfbdklminljecaaGreatDoor
open Go.RowKit

def bkVal (g : GT) (a : GA) (r : QT) : Value := .agg #[.slice a.A g.items.length a.c, .slice a.B g.notes.length a.d, .int .i64 r.height, .int .i64 r.gap, .int .i64 r.widow, .int .i64 r.orphan]
theorem bookEnd_any (g : GT) (a : GA) (r : QT) (w : World) : Calls Tryz.prog 32 #[bkVal g a r] w (Ret (.int .i64 (g.items.length : Int)) w) := by
  unfold bkVal
  go_enter Tryz.func32, Tryz.ntmps32
  go_wp2
  go_ret
  exact Ret.mk' rfl (by repeat (first | exact Ext.refl _ | assumption | refine Ext.alloc ?_ _ | refine Ext.drew ?_ | refine Ext.drewN ?_ _ | (refine Ext.setCell ?_ (by simp <;> omega) _) | refine Ext.trans ?_ (by assumption)))
theorem isGap_yes (h nt li m : Int) (w : World) : Calls Tryz.prog 86 #[.agg #[.int .i64 4, .int .i64 h, .int .i64 nt, .int .i64 li, .int .i64 m]] w (Ret (.bool true) w) := by
  go_enter Tryz.func86, Tryz.ntmps86
  go_wp2
  go_ret
  exact Ret.mk' rfl (by repeat (first | exact Ext.refl _ | assumption | refine Ext.alloc ?_ _ | refine Ext.drew ?_ | refine Ext.drewN ?_ _ | (refine Ext.setCell ?_ (by simp <;> omega) _) | refine Ext.trans ?_ (by assumption)))
theorem isGap_no (k h nt li m : Int) (w : World) (hk : (k == 4) = false) : Calls Tryz.prog 86 #[.agg #[.int .i64 k, .int .i64 h, .int .i64 nt, .int .i64 li, .int .i64 m]] w (Ret (.bool false) w) := by
  go_enter Tryz.func86, Tryz.ntmps86
  go_wp2
  go_ret
  exact Ret.mk' rfl (by repeat (first | exact Ext.refl _ | assumption | refine Ext.alloc ?_ _ | refine Ext.drew ?_ | refine Ext.drewN ?_ _ | (refine Ext.setCell ?_ (by simp <;> omega) _) | refine Ext.trans ?_ (by assumption)))
/-- Items i to j - 1 lie at A. -/
def Seg (w : World) (A : Option Addr) (c : Nat) (xs : List IT) (i j : Nat) : Prop :=
  j - i ≤ c ∧ (i < j → ∃ b off, A = some ⟨b, off, none⟩ ∧ b < w.heap.size ∧ ∀ k, i + k < j →
    w.cell? ⟨b, off + k * 5, none⟩ = some (.int .i64 (xs.getD (i + k) IT.zero).kind) ∧ w.cell? ⟨b, off + k * 5 + 1, none⟩ = some (.int .i64 (xs.getD (i + k) IT.zero).height) ∧
    w.cell? ⟨b, off + k * 5 + 2, none⟩ = some (.int .i64 (xs.getD (i + k) IT.zero).note) ∧ w.cell? ⟨b, off + k * 5 + 3, none⟩ = some (.int .i64 (xs.getD (i + k) IT.zero).line) ∧
    w.cell? ⟨b, off + k * 5 + 4, none⟩ = some (.int .i64 (xs.getD (i + k) IT.zero).many))
section
variable {w w' : World} {A : Option Addr} {c i j : Nat} {xs : List IT}
theorem Seg.ext (h : Seg w A c xs i j) (hx : Ext w w') : Seg w' A c xs i j :=
  ⟨h.1, fun hn => let ⟨b, off, ha, hb, hc⟩ := h.2 hn; ⟨b, off, ha, Nat.lt_of_lt_of_le hb hx.size, fun k hk => by
    rw [hx.cell (p := ⟨b, _, none⟩) hb, hx.cell (p := ⟨b, _, none⟩) hb, hx.cell (p := ⟨b, _, none⟩) hb, hx.cell (p := ⟨b, _, none⟩) hb, hx.cell (p := ⟨b, _, none⟩) hb]; exact hc k hk⟩⟩
theorem Seg.tail {b off : Nat} (h : Seg w (some ⟨b, off, none⟩) c xs i j) (hij : i + 1 < j) : Seg w (some ⟨b, off + 5, none⟩) (c - 1) xs (i + 1) j := by
  refine ⟨by have := h.1; omega, fun _ => ?_⟩
  obtain ⟨b', off', ha, hb, hc⟩ := h.2 (by omega)
  cases ha
  refine ⟨b, off + 5, rfl, hb, fun k hk => ?_⟩
  have := hc (k + 1) (by omega)
  rw [show off + 5 + k * 5 = off + (k + 1) * 5 by omega, show i + 1 + k = i + (k + 1) by omega]
  exact this
theorem Seg.empty (h : ¬ i < j) : Seg w A c xs i j := ⟨by omega, fun h' => absurd h' h⟩
theorem Seg.init (h : Seg w A c xs i (j + 1)) : Seg w A c xs i j := by
  refine ⟨by have := h.1; omega, fun hij => ?_⟩
  obtain ⟨b, off, ha, hb, hc⟩ := h.2 (by omega)
  exact ⟨b, off, ha, hb, fun k hk => hc k (by omega)⟩
theorem Seg.cut {u : Nat} (h : Seg w A c xs i j) (hu : u ≤ j) : Seg w A c xs i u := by
  refine ⟨by have := h.1; omega, fun hij => ?_⟩
  obtain ⟨b, off, ha, hb, hc⟩ := h.2 (by omega)
  exact ⟨b, off, ha, hb, fun k hk => hc k (by omega)⟩
theorem Seg.of_rp {b off : Nat} (h : RP w (some ⟨b, off, none⟩) xs.length xs) (hi : i ≤ j) (hj : j ≤ xs.length) (hc : xs.length ≤ c) : Seg w (some ⟨b, off + i * 5, none⟩) (c - i) xs i j := by
  refine ⟨by omega, fun _ => ?_⟩
  obtain ⟨b', off', ha, hb, hcl⟩ := h.2.2 (by omega)
  cases ha
  refine ⟨b, _, rfl, hb, fun k hk => ?_⟩
  have := hcl (i + k) (by omega)
  rw [show off + i * 5 + k * 5 = off + (i + k) * 5 by omega]
  exact this
end
/-- The call hands back the items i to j - 1. -/
def RetC (xs : List IT) (i j : Nat) (w : World) (e : Ending) (w' : World) : Prop := ∃ A c, e = .returned (.slice A (j - i) c) ∧ Seg w' A c xs i j ∧ Ext w w'
theorem frontG_stop {xs : List IT} {b a : Nat} (h : a < b) (hk : (xs.getD a IT.zero).kind ≠ 4) : frontG xs b (b - a) a = a := by
  obtain ⟨n, hn⟩ : ∃ n, b - a = n + 1 := ⟨b - a - 1, by omega⟩
  rw [hn, frontG, if_neg (fun hh => hk hh.2)]
theorem frontG_go {xs : List IT} {b a : Nat} (h : a < b) (hk : (xs.getD a IT.zero).kind = 4) : frontG xs b (b - a) a = frontG xs b (b - (a + 1)) (a + 1) := by
  obtain ⟨n, hn⟩ : ∃ n, b - a = n + 1 := ⟨b - a - 1, by omega⟩
  rw [hn, frontG, if_pos ⟨h, hk⟩, show n = b - (a + 1) by omega]
theorem backG_end {xs : List IT} {a b : Nat} (h : b ≤ a) : backG xs a b = b := by
  match b with
  | 0 => rfl
  | b + 1 => rw [backG, if_neg (fun hh => by omega)]
theorem frontG_end {xs : List IT} {b a : Nat} (h : ¬ a < b) : frontG xs b (b - a) a = a := by
  rw [show b - a = 0 by omega, frontG]
set_option maxRecDepth 100000 in
set_option maxHeartbeats 8000000 in
theorem core_any (g : GT) (p : GA) (r : QT) (a b : Nat) (w : World) (hg : GR w p g) (hab : a < b) (hb : b ≤ g.items.length) (hn : g.items.length ≤ 200) :
    Calls Tryz.prog 71 #[bkVal g p r, .agg #[.int .i64 a, .int .i64 b]] w (RetC g.items (coreA g.items a b) (coreB g.items a b) w) := by
  obtain ⟨bA, off, hA, hbw, hcell⟩ := hg.rp.2.2 (by omega)
  have hrp := hg.rp
  rw [hA] at hrp
  have hcap := hg.cap.1.1
  have hcm := hg.cap.1.2
  unfold maxLen at hcm
  have hs0 := Seg.of_rp (c := p.c) hrp (Nat.le_of_lt hab) hb hcap
  have HS0 := Lib.hid hs0
  have HAE : Hid (frontG g.items b (b - a) a = coreA g.items a b) := Lib.hid rfl
  have HBE : Hid (backG g.items (coreA g.items a b) b = coreB g.items a b) := Lib.hid rfl
  obtain ⟨cb1, cb2, cb3⟩ := core_bd g.items a b (Nat.le_of_lt hab)
  generalize coreA g.items a b = i0 at *
  generalize coreB g.items a b = j0 at *
  unfold bkVal
  rw [hA]
  clear hg hrp hcell hs0 hA
  have q1 : (0 : Int) ≤ (a : Int) := by omega
  have q2 : (a : Int) ≤ (b : Int) := by omega
  have q3 : (b : Int) ≤ (p.c : Int) := by omega
  have q4 : ¬ p.c = a := by omega
  go_enter Tryz.func71, Tryz.ntmps71
  go_wp2
  go_loopw [5] (fun v wr => ∃ (t : Nat) (A : Option Addr) (c : Nat), a ≤ t ∧ t ≤ b ∧ v = .slice A (b - t) c ∧ Hid (frontG g.items b (b - t) t = i0) ∧ Hid (Seg wr A c g.items t b) ∧ c ≤ p.c ∧ Ext w wr) (fun v _ => match v with | .slice _ n _ => n | _ => 0)
  case atStart => exact ⟨a, _, _, Nat.le_refl _, by omega, rfl, HAE, Lib.hid (HS0.out.ext (by repeat (first | exact Ext.refl _ | assumption | refine Ext.alloc ?_ _ | refine Ext.drew ?_ | refine Ext.drewN ?_ _ | (refine Ext.setCell ?_ (by simp <;> omega) _) | refine Ext.trans ?_ (by assumption)))), by omega, (by repeat (first | exact Ext.refl _ | assumption | refine Ext.alloc ?_ _ | refine Ext.drew ?_ | refine Ext.drewN ?_ _ | (refine Ext.setCell ?_ (by simp <;> omega) _) | refine Ext.trans ?_ (by assumption)))⟩
  case round =>
    obtain ⟨t, A, c, ht1, ht2, rfl, HF, HSG, hcc, hx⟩ := hrel
    have HX := Lib.hid hx
    have hsg := HSG.out
    have hc1 := hsg.1
    by_cases hlt : t < b
    case neg =>
      obtain rfl : t = b := by omega
      have hi0 : t = i0 := by rw [← HF.out, frontG_end (by omega)]
      subst hi0
      have hj0 : t = j0 := by omega
      subst hj0
      have e0 : t - t = 0 := by omega
      rw [e0]
      clear hx hsg
      go_wp2
      go_loopw [5] (fun v wr' => v = .slice A 0 c ∧ Ext wr wr') (fun _ _ => 0)
      case atStart => exact ⟨rfl, (by repeat (first | exact Ext.refl _ | assumption | refine Ext.alloc ?_ _ | refine Ext.drew ?_ | refine Ext.drewN ?_ _ | (refine Ext.setCell ?_ (by simp <;> omega) _) | refine Ext.trans ?_ (by assumption)))⟩
      case round =>
        obtain ⟨rfl, hx2⟩ := hrel
        go_wp2
        go_ret
        exact ⟨A, c, by rw [e0]; rfl, Seg.empty (by omega), HX.out.trans hx2⟩
    case pos =>
    obtain ⟨g9, o9, rfl, hg9, hcell⟩ := hsg.2 hlt
    obtain ⟨c0, c1, c2, c3, c4⟩ := hcell 0 (by omega)
    simp only [Nat.zero_mul, Nat.add_zero] at c0 c1 c2 c3 c4
    obtain ⟨m, hm⟩ : ∃ m, b - t = m + 1 := ⟨b - t - 1, by omega⟩
    have hm1 : (m : Int) + 1 ≤ 200 := by omega
    have hm2 : (1 : Int) ≤ (m : Int) + 1 := by omega
    have hm3 : (m : Int) + 1 ≤ (c : Int) := by omega
    have HC := Lib.hid hcell
    by_cases hk4 : (g.items.getD t IT.zero).kind = 4
    case pos =>
      have HF2 : Hid (frontG g.items b (b - (t + 1)) (t + 1) = i0) := Lib.hid (by rw [← frontG_go hlt hk4]; exact HF.out)
      rw [hk4] at c0
      generalize (g.items.getD t IT.zero).height = xh at *
      generalize (g.items.getD t IT.zero).note = xn at *
      generalize (g.items.getD t IT.zero).line = xl at *
      generalize (g.items.getD t IT.zero).many = xm at *
      by_cases hc9 : c = 1
      · subst hc9
        have hm0 : m = 0 := by omega
        subst hm0
        rw [hm]
        clear hx hsg hcell hk4 hm
        go_wp2_with (first | (go_at_call 86; refine Calls.mono (isGap_yes _ _ _ _ _) ?_; rintro e w1 ⟨rfl, hb9⟩))
        go_roundw
        case rel => exact ⟨t + 1, some ⟨g9, o9, none⟩, 0, by omega, by omega, by rw [show b - (t + 1) = 0 by omega], HF2, Lib.hid (Seg.empty (by omega)), by omega, HX.out.trans hb9⟩
        case measure => simp
      · have hc8 : (c = 1) = False := by simpa using hc9
        have HS2 : Hid (Seg wr (some ⟨g9, o9 + 5, none⟩) (c - 1) g.items (t + 1) b) := Lib.hid (by
          by_cases h9 : t + 1 < b
          · exact hsg.tail h9
          · exact ⟨by omega, fun h => absurd h h9⟩)
        rw [hm]
        clear hx hsg hcell hk4
        have HM := Lib.hid hm; clear hm
        go_wp2_with (first | (go_at_call 86; refine Calls.mono (isGap_yes _ _ _ _ _) ?_; rintro e w1 ⟨rfl, hb9⟩))
        go_roundw
        case rel => exact ⟨t + 1, some ⟨g9, o9 + 5, none⟩, c - 1, by omega, by omega, by rw [show b - (t + 1) = m by have := HM.out; omega], HF2, Lib.hid (HS2.out.ext hb9), by omega, HX.out.trans hb9⟩
        case measure => simp
    case neg =>
      have hi0 : t = i0 := by rw [← HF.out, frontG_stop hlt hk4]
      subst hi0
      have e4 : ((g.items.getD t IT.zero).kind == 4) = false := by simpa using hk4
      have HBT : Hid (b - t = m + 1) := Lib.hid hm
      generalize (g.items.getD t IT.zero).kind = xk at *
      generalize (g.items.getD t IT.zero).height = xh at *
      generalize (g.items.getD t IT.zero).note = xn at *
      generalize (g.items.getD t IT.zero).line = xl at *
      generalize (g.items.getD t IT.zero).many = xm at *
      rw [hm]
      clear hx hsg hcell hk4 hm
      go_wp2_with (first | (go_at_call 86; refine Calls.mono (isGap_no _ _ _ _ _ _ e4) ?_; rintro e w1 ⟨rfl, hb9⟩))
      have HB9 := Lib.hid hb9; clear hb9
      obtain ⟨wo, rfl⟩ : ∃ wo : World, wo = wr := ⟨_, rfl⟩
      go_loopw [5] (fun v wr' => ∃ u : Nat, t ≤ u ∧ u ≤ b ∧ v = .slice (some ⟨g9, o9, none⟩) (u - t) c ∧ Hid (backG g.items t u = j0) ∧ Ext w1 wr') (fun v _ => match v with | .slice _ n _ => n | _ => 0)
      case atStart => exact ⟨b, by omega, Nat.le_refl _, by rw [HBT.out], HBE, (by repeat (first | exact Ext.refl _ | assumption | refine Ext.alloc ?_ _ | refine Ext.drew ?_ | refine Ext.drewN ?_ _ | (refine Ext.setCell ?_ (by simp <;> omega) _) | refine Ext.trans ?_ (by assumption)))⟩
      case round =>
        obtain ⟨u, hu1, hu2, rfl, HU, hx2⟩ := hrel
        have HX2 := Lib.hid (HX.out.trans (HB9.out.trans hx2))
        by_cases hlt2 : t < u
        case neg =>
          obtain rfl : u = t := by omega
          have hj0 : u = j0 := by rw [← HU.out, backG_end (by omega)]
          subst hj0
          have e0 : u - u = 0 := by omega
          rw [e0]
          clear hx2 c0 c1 c2 c3 c4
          go_wp2
          go_ret
          exact ⟨some ⟨g9, o9, none⟩, c, by rw [e0]; rfl, Seg.empty (by omega), HX2.out⟩
        case pos =>
        obtain ⟨q, hq⟩ : ∃ q, u - t = q + 1 := ⟨u - t - 1, by omega⟩
        have hq1 : (q : Int) + 1 ≤ 200 := by omega
        have hq3 : (q : Int) + 1 ≤ (c : Int) := by omega
        have hcl := HC.out q (by omega)
        have hgw : g9 < wr.heap.size := Nat.lt_of_lt_of_le hg9 (HB9.out.trans hx2).size
        have hcl2 := fun o9 (v : Value) (h : wo.cell? ⟨g9, o9, none⟩ = some v) => ((HB9.out.trans hx2).cell (p := ⟨g9, o9, none⟩) hg9).trans h
        have d0 := hcl2 _ _ hcl.1
        have d1 := hcl2 _ _ hcl.2.1
        have d2 := hcl2 _ _ hcl.2.2.1
        have d3 := hcl2 _ _ hcl.2.2.2.1
        have d4 := hcl2 _ _ hcl.2.2.2.2
        have HSU : Hid (Seg wo (some ⟨g9, o9, none⟩) c g.items t b) := HSG
        have HQ := Lib.hid hq
        obtain ⟨u', hu'⟩ : ∃ u', u = u' + 1 := ⟨u - 1, by omega⟩
        have HUU := Lib.hid hu'
        have HXX := Lib.hid hx2
        rw [show t + q = u' by omega] at d0 d1 d2 d3 d4
        have hu8 : t ≤ u' := by omega
        have hu9 : u' ≤ b := by omega
        clear hcl hcl2 hx2 c0 c1 c2 c3 c4
        by_cases hk4 : (g.items.getD u' IT.zero).kind = 4
        case pos =>
          have HU2 : Hid (backG g.items t u' = j0) := Lib.hid (by rw [← HU.out, hu', backG, if_pos ⟨by omega, hk4⟩])
          rw [hk4] at d0
          generalize (g.items.getD u' IT.zero).height = yh at *
          generalize (g.items.getD u' IT.zero).note = yn at *
          generalize (g.items.getD u' IT.zero).line = yl at *
          generalize (g.items.getD u' IT.zero).many = ym at *
          rw [hq]
          clear hk4 hq hu' e4
          go_wp2_with (first | (go_at_call 86; refine Calls.mono (isGap_yes _ _ _ _ _) ?_; rintro e w2 ⟨rfl, hb8⟩))
          go_roundw
          case rel => exact ⟨u', hu8, hu9, by rw [show u' - t = q by have := HQ.out; have := HUU.out; omega], HU2, HXX.out.trans hb8⟩
          case measure => simp
        case neg =>
          have hj0 : u = j0 := by rw [← HU.out, hu', backG, if_neg (fun h => hk4 h.2)]
          subst hj0
          have e5 : ((g.items.getD u' IT.zero).kind == 4) = false := by simpa using hk4
          generalize (g.items.getD u' IT.zero).kind = yk at *
          generalize (g.items.getD u' IT.zero).height = yh at *
          generalize (g.items.getD u' IT.zero).note = yn at *
          generalize (g.items.getD u' IT.zero).line = yl at *
          generalize (g.items.getD u' IT.zero).many = ym at *
          rw [hq]
          clear hk4 hq hu' e4
          go_wp2_with (first | (go_at_call 86; refine Calls.mono (isGap_no _ _ _ _ _ _ e5) ?_; rintro e w2 ⟨rfl, hb8⟩))
          go_ret
          exact ⟨some ⟨g9, o9, none⟩, c, by rw [HQ.out]; rfl, (HSU.out.ext (HB9.out.trans (by repeat (first | exact Ext.refl _ | assumption | refine Ext.alloc ?_ _ | refine Ext.drew ?_ | refine Ext.drewN ?_ _ | (refine Ext.setCell ?_ (by simp <;> omega) _) | refine Ext.trans ?_ (by assumption))))).cut hu2, HX2.out.trans hb8⟩
end Go.Proofs.YtfbdklminljecaaGreatDoor
namespace Go.Proofs.YtfbdklminljecaaGreatDoor
open Go.RowKit

theorem notesR_len (xs : List IT) (a : Nat) : ∀ n, (notesR xs a n).length ≤ n
  | 0 => Nat.le_refl _
  | n + 1 => by
    unfold notesR
    split
    · rw [List.length_append]; have := notesR_len xs a n; simp; omega
    · have := notesR_len xs a n; omega
/-- What the loop over a page's items keeps. -/
structure NoS (w : World) (cs ab : Array Value) (wr : World) (v : Value) (zs : List Int) : Prop where
  ext : Ext w wr
  box : Blk wr w.heap.size 76 cs
  box2 : Blk wr (w.heap.size + 1) 66 ab
  own : Own wr (w.heap.size + 2) v zs
section
variable {w a b W w' : World} {cs ab : Array Value} {v v' : Value} {zs : List Int} {z : Int}
theorem NoS.next (h : NoS w cs ab a v zs) (hx : Ext a b) : NoS w cs ab b v zs := ⟨h.ext.trans hx, h.box.ext hx, h.box2.ext hx, h.own.ext hx⟩
theorem NoS.push (h : NoS w cs ab a v zs) (hx : Ext a W) (hg : W.grownBy w' v.ownBlock) (ho : Own w' (w.heap.size + 2) v' (zs ++ [z])) : NoS w cs ab w' v' (zs ++ [z]) := by
  have ho0 := h.own.ext hx
  have hb := h.box.ext hx
  have hb2 := h.box2.ext hx
  refine ⟨Ext.grown (h.ext.trans hx) hg fun k hk => by have := ho0.base_le k hk; omega, ?_, ?_, ho⟩
  · exact (hg.block _ hb.lt (fun e => by have := ho0.base_le _ e.symm; omega)).trans hb
  · exact (hg.block _ hb2.lt (fun e => by have := ho0.base_le _ e.symm; omega)).trans hb2
end
theorem RetS.mono' {zs : List Int} {w W w' : World} {v : Value} (h : RetS zs w (.returned v) W) (hx : Ext W w') : RetS zs w (.returned v) w' := by
  obtain ⟨A, c, he, hs, h1⟩ := h
  exact ⟨A, c, he, hs.ext hx, h1.trans hx⟩
set_option maxRecDepth 100000 in
set_option maxHeartbeats 8000000 in
theorem notes_any (g : GT) (p : GA) (r : QT) (a b : Nat) (w : World) (hg : GR w p g) (hab : a < b) (hb : b ≤ g.items.length) (hn : g.items.length ≤ 200) :
    Calls Tryz.prog 87 #[bkVal g p r, .agg #[.int .i64 a, .int .i64 b]] w (RetS (notesR g.items a (b - a)) w) := by
  obtain ⟨bA, off, hA, hbw, hcell⟩ := hg.rp.2.2 (by omega)
  have hrp := hg.rp
  rw [hA] at hrp
  have hcap := hg.cap.1.1
  have hcm := hg.cap.1.2
  unfold maxLen at hcm
  have HS0 := Lib.hid (Seg.of_rp (c := p.c) hrp (Nat.le_of_lt hab) hb hcap)
  have HLN : Hid (∀ n, (notesR g.items a n).length ≤ n) := Lib.hid (notesR_len g.items a)
  have HRE : Hid (∀ v w', Own w' (w.heap.size + 2) v (notesR g.items a (b - a)) → Ext w w' → RetS (notesR g.items a (b - a)) w (.returned v) w') := Lib.hid fun v w' ho hx => by
    have hl := notesR_len g.items a (b - a)
    obtain ⟨A, c, rfl, hc, hr⟩ := ho.form (by omega)
    exact ⟨A, c, rfl, (SL.of_own ho (by omega)).mono (by omega), hx⟩
  unfold bkVal
  rw [hA]
  generalize hcs : (#[.slice (some ⟨bA, off, none⟩) g.items.length p.c, .slice p.B g.notes.length p.d, .int .i64 r.height, .int .i64 r.gap, .int .i64 r.widow, .int .i64 r.orphan] : Array Value) = cs
  have HCS := Lib.hid hcs
  subst hcs
  clear hg hrp hcell hA
  obtain ⟨m, hm⟩ : ∃ m, b = a + m := ⟨b - a, by omega⟩
  subst hm
  rw [show a + m - a = m by omega] at HRE ⊢
  have q1 : (0 : Int) ≤ (a : Int) := by omega
  have q2 : (a : Int) ≤ ((a + m : Nat) : Int) := by omega
  have q3 : ((a + m : Nat) : Int) ≤ (p.c : Int) := by omega
  have q4 : ¬ p.c = a := by omega
  have hm9 : m ≤ 200 := by omega
  clear hb hab
  go_enter Tryz.func87, Tryz.ntmps87
  go_wp2
  go_loopw [5, 17] (fun v i wr => ∃ k : Nat, k ≤ m ∧ i = .int .i64 k ∧ NoS w #[.slice (some ⟨bA, off, none⟩) g.items.length p.c, .slice p.B g.notes.length p.d, .int .i64 r.height, .int .i64 r.gap, .int .i64 r.widow, .int .i64 r.orphan] #[.int .i64 a, .int .i64 ((a + m : Nat) : Int)] wr v (notesR g.items a k)) (fun _ i _ => m - (intOf i).toNat)
  case atStart => exact ⟨0, Nat.zero_le _, rfl, ⟨(by repeat (first | exact Ext.refl _ | assumption | refine Ext.alloc ?_ _ | refine Ext.drew ?_ | refine Ext.drewN ?_ _ | (refine Ext.setCell ?_ (by simp <;> omega) _) | refine Ext.trans ?_ (by assumption))), (Blk.new _ _ _).alloc _, Blk.new1 _ _ _ _, Own.nil _ _⟩⟩
  case round =>
    obtain ⟨k, hk, rfl, hS⟩ := hrel
    have HS := Lib.hid hS
    obtain ⟨b0, b1, b2, b3, b4, b5⟩ := (⟨hS.box.cell 0 _ rfl, hS.box.cell 1 _ rfl, hS.box.cell 2 _ rfl, hS.box.cell 3 _ rfl, hS.box.cell 4 _ rfl, hS.box.cell 5 _ rfl⟩ : _ ∧ _ ∧ _ ∧ _ ∧ _ ∧ _)
    have hbl := hS.box2.lt
    by_cases hlt : k < m
    case neg =>
      obtain rfl : k = m := by omega
      clear hS
      go_wp2
      go_ret
      exact (HRE.out _ _ HS.out.own HS.out.ext).mono' (by repeat (first | exact Ext.refl _ | assumption | refine Ext.alloc ?_ _ | refine Ext.drew ?_ | refine Ext.drewN ?_ _ | (refine Ext.setCell ?_ (by simp <;> omega) _) | refine Ext.trans ?_ (by assumption)))
    case pos =>
    obtain ⟨g9, o9, he, hg9, hcell⟩ := (HS0.out.ext hS.ext).2 (by omega)
    cases he
    obtain ⟨c0, c1, c2, c3, c4⟩ := hcell k (by omega)
    have HL := Lib.hid (Nat.le_trans (HLN.out k) hk)
    have HK : Hid (notesR g.items a (k + 1) = if 0 ≤ (g.items.getD (a + k) IT.zero).note then notesR g.items a k ++ [(g.items.getD (a + k) IT.zero).note] else notesR g.items a k) := Lib.hid rfl
    generalize hnx : notesR g.items a (k + 1) = nx at *
    have HNX := Lib.hid hnx; clear hnx
    generalize hzk : notesR g.items a k = zk at *
    generalize (g.items.getD (a + k) IT.zero).kind = xk at *
    generalize (g.items.getD (a + k) IT.zero).height = xh at *
    generalize (g.items.getD (a + k) IT.zero).note = xn at *
    generalize (g.items.getD (a + k) IT.zero).line = xl at *
    generalize (g.items.getD (a + k) IT.zero).many = xm at *
    clear hcell hS hzk
    by_cases hx : 0 ≤ xn
    · have HN : Hid (nx = zk ++ [xn]) := Lib.hid (by rw [HK.out, if_pos hx])
      clear HK
      go_wp2_with (first | (at_builtin; refine list_push rfl (.tmp 24) (.tmp 27) rfl (w.heap.size + 2) _ zk rfl (HS.out.own.ext (by repeat (first | exact Ext.refl _ | assumption | refine Ext.alloc ?_ _ | refine Ext.drew ?_ | refine Ext.drewN ?_ _ | (refine Ext.setCell ?_ (by simp <;> omega) _) | refine Ext.trans ?_ (by assumption)))) (wr.heap.size + 1) xn rfl (by simp) (by have := HL.out; omega) (by simp; omega) ?_; intro v' w' ho hg; have HS2 := Lib.hid (HS.out.push (by repeat (first | exact Ext.refl _ | assumption | refine Ext.alloc ?_ _ | refine Ext.drew ?_ | refine Ext.drewN ?_ _ | (refine Ext.setCell ?_ (by simp <;> omega) _) | refine Ext.trans ?_ (by assumption))) hg ho); clear ho hg))
      go_roundw
      case rel => exact ⟨k + 1, by omega, by go_num, by rw [HNX.out, HN.out]; exact HS2.out.next (by repeat (first | exact Ext.refl _ | assumption | refine Ext.alloc ?_ _ | refine Ext.drew ?_ | refine Ext.drewN ?_ _ | (refine Ext.setCell ?_ (by simp <;> omega) _) | refine Ext.trans ?_ (by assumption)))⟩
      case measure => simp [intOf]; omega
    · have HN : Hid (nx = zk) := Lib.hid (by rw [HK.out, if_neg hx])
      clear HK
      go_wp2
      go_roundw
      case rel => exact ⟨k + 1, by omega, by go_num, by rw [HNX.out, HN.out]; exact HS.out.next (by repeat (first | exact Ext.refl _ | assumption | refine Ext.alloc ?_ _ | refine Ext.drew ?_ | refine Ext.drewN ?_ _ | (refine Ext.setCell ?_ (by simp <;> omega) _) | refine Ext.trans ?_ (by assumption)))⟩
      case measure => simp [intOf]; omega
end Go.Proofs.YtfbdklminljecaaGreatDoor
namespace Go.Proofs.YtfbdklminljecaaGreatDoor
open Go.RowKit

/-- A book and a page, boxed at a call's beginning, in later worlds. -/
structure BkS (w : World) (cs ab : Array Value) (wr : World) : Prop where
  ext : Ext w wr
  box : Blk wr w.heap.size 76 cs
  box2 : Blk wr (w.heap.size + 1) 66 ab
theorem BkS.next {w a b : World} {cs ab : Array Value} (h : BkS w cs ab a) (hx : Ext a b) : BkS w cs ab b := ⟨h.ext.trans hx, h.box.ext hx, h.box2.ext hx⟩
theorem BkS.start {w b : World} {cs ab : Array Value} (h : Ext ((w.alloc (.cells cs 76)).alloc (.cells ab 66)) b) : BkS w cs ab b :=
  ⟨h.of_alloc.of_alloc, ((Blk.new _ _ _).alloc _).ext h, (Blk.new1 _ _ _ _).ext h⟩
theorem BkS.cells {w wr : World} {a b : Value} {c0 c1 c2 c3 c4 c5 : Value} (h : BkS w #[c0, c1, c2, c3, c4, c5] #[a, b] wr) : wr.cell? ⟨w.heap.size, 0, none⟩ = some c0 ∧ wr.cell? ⟨w.heap.size, 1, none⟩ = some c1 ∧ wr.cell? ⟨w.heap.size, 2, none⟩ = some c2 ∧
    wr.cell? ⟨w.heap.size, 3, none⟩ = some c3 ∧ wr.cell? ⟨w.heap.size, 4, none⟩ = some c4 ∧ wr.cell? ⟨w.heap.size, 5, none⟩ = some c5 ∧ wr.cell? ⟨w.heap.size + 1, 0, none⟩ = some a ∧ wr.cell? ⟨w.heap.size + 1, 1, none⟩ = some b ∧ w.heap.size + 1 < wr.heap.size :=
  ⟨h.box.cell 0 _ rfl, h.box.cell 1 _ rfl, h.box.cell 2 _ rfl, h.box.cell 3 _ rfl, h.box.cell 4 _ rfl, h.box.cell 5 _ rfl, h.box2.cell 0 _ rfl, h.box2.cell 1 _ rfl, h.box2.lt⟩
set_option maxRecDepth 100000 in
set_option maxHeartbeats 8000000 in
theorem uses_any (g : GT) (p : GA) (r : QT) (a b : Nat) (w : World) (hg : GR w p g) (hab : a < b) (hb : b ≤ g.items.length) (hr : RightG g) (hq : chkQ r = 0) :
    Calls Tryz.prog 72 #[bkVal g p r, .agg #[.int .i64 a, .int .i64 b]] w (Ret (.int .i64 (usesR g r a b)) w) := by
  have hn := hr.many
  have cC := fun W h => core_any g p r a b W h hab hb hn
  have cN := fun W h => notes_any g p r a b W h hab hb hn
  have HE : Hid (usesR g r a b = hTo g.items (coreA g.items a b) (coreB g.items a b - coreA g.items a b) + (if 0 < (notesR g.items a (b - a)).length then r.gap else 0) + nSum g.notes (notesR g.items a (b - a)) (notesR g.items a (b - a)).length) := Lib.hid rfl
  obtain ⟨cb1, cb2, cb3⟩ := core_bd g.items a b (Nat.le_of_lt hab)
  have HHT := Lib.hid (fun k (hk : coreA g.items a b + k ≤ g.items.length) => hTo_bd hr (coreA g.items a b) k hk)
  have HHS : Hid (∀ k, hTo g.items (coreA g.items a b) (k + 1) = hTo g.items (coreA g.items a b) k + (g.items.getD (coreA g.items a b + k) IT.zero).height) := Lib.hid fun _ => rfl
  obtain ⟨hn1, hn2⟩ := notesR_bd hr a (b - a) (by omega)
  have HNB := Lib.hid hn2
  have HNS := Lib.hid (fun k (hk : k ≤ (notesR g.items a (b - a)).length) => nSum_bd hr hn2 k hk)
  have HNT : Hid (∀ k, nSum g.notes (notesR g.items a (b - a)) (k + 1) = nSum g.notes (notesR g.items a (b - a)) k + g.notes.getD ((notesR g.items a (b - a)).getD k 0).toNat 0) := Lib.hid fun _ => rfl
  have hgap := (chkQ_zero hq).2.1
  obtain ⟨hg1, hg2⟩ := hgap
  have hgri := hg.ri
  have HNH := Lib.hid hr.nh
  have HRIT := Lib.hid (fun k (hk : k < g.items.length) => (hr.items k hk).height)
  have hnn := hr.notes
  generalize usesR g r a b = z at *
  generalize coreA g.items a b = i0 at *
  generalize hj : coreB g.items a b = j0 at *
  clear hj
  generalize hzs : notesR g.items a (b - a) = zs at *
  clear hzs
  have hz1 : zs.length ≤ 200 := by omega
  have HG := Lib.hid hg
  obtain ⟨m, hm⟩ : ∃ m, j0 = i0 + m := ⟨j0 - i0, by omega⟩
  subst hm
  rw [show i0 + m - i0 = m by omega] at HE
  have hm1 : i0 + m ≤ g.items.length := by omega
  have hm2 : m ≤ 200 := by omega
  unfold bkVal at *
  have CC := Lib.hid cC; have CN := Lib.hid cN
  have HRI := Lib.hid hgri
  clear cC cN hg hr hq hn2 hn1 hgri hn hab hb cb1 cb2 cb3
  go_enter Tryz.func72, Tryz.ntmps72
  go_wp2_with (first | (go_at_call 71; refine Calls.mono (CC.out _ ?_) ?_; (exact HG.out.ext (by repeat (first | exact Ext.refl _ | assumption | refine Ext.alloc ?_ _ | refine Ext.drew ?_ | refine Ext.drewN ?_ _ | (refine Ext.setCell ?_ (by simp <;> omega) _) | refine Ext.trans ?_ (by assumption)))); rintro e w1 ⟨A1, c1, rfl, hsg, hb⟩; have HSG := Lib.hid hsg; have HBS := Lib.hid (BkS.start hb); obtain ⟨k0, k1, k2, k3, k4, k5, k6, k7, kl⟩ := HBS.out.cells; clear hsg hb))
  go_loopw [5, 15] (fun v i wr => ∃ k : Nat, k ≤ m ∧ i = .int .i64 k ∧ v = .int .i64 (hTo g.items i0 k) ∧ BkS w #[.slice p.A g.items.length p.c, .slice p.B g.notes.length p.d, .int .i64 r.height, .int .i64 r.gap, .int .i64 r.widow, .int .i64 r.orphan] #[.int .i64 a, .int .i64 b] wr ∧ Ext w1 wr) (fun _ i _ => m - (intOf i).toNat)
  case atStart => exact ⟨0, Nat.zero_le _, rfl, rfl, HBS.out.next (by repeat (first | exact Ext.refl _ | assumption | refine Ext.alloc ?_ _ | refine Ext.drew ?_ | refine Ext.drewN ?_ _ | (refine Ext.setCell ?_ (by simp <;> omega) _) | refine Ext.trans ?_ (by assumption))), (by repeat (first | exact Ext.refl _ | assumption | refine Ext.alloc ?_ _ | refine Ext.drew ?_ | refine Ext.drewN ?_ _ | (refine Ext.setCell ?_ (by simp <;> omega) _) | refine Ext.trans ?_ (by assumption)))⟩
  case round =>
    obtain ⟨k, hk, rfl, rfl, hB, hx⟩ := hrel
    have HB := Lib.hid hB
    have HX := Lib.hid hx
    clear k0 k1 k2 k3 k4 k5 k6 k7 kl
    obtain ⟨k0, k1, k2, k3, k4, k5, k6, k7, kl⟩ := hB.cells
    have hbd := HHT.out k (by omega)
    obtain ⟨hbd1, hbd2⟩ := hbd
    by_cases hlt : k < m
    case pos =>
      obtain ⟨g9, o9, rfl, hg9, hcell⟩ := (HSG.out.ext hx).2 (by omega)
      obtain ⟨c0, c1, c2, c3, c4⟩ := hcell k (by omega)
      have hh := HRIT.out (i0 + k) (by omega)
      obtain ⟨hh1, hh2⟩ := hh
      have HNX := Lib.hid (HHS.out k)
      generalize hnx : hTo g.items i0 (k + 1) = nx at *
      have HNE := Lib.hid hnx; clear hnx
      generalize hTo g.items i0 k = nk at *
      generalize (g.items.getD (i0 + k) IT.zero).kind = xk at *
      generalize (g.items.getD (i0 + k) IT.zero).height = xh at *
      generalize (g.items.getD (i0 + k) IT.zero).note = xn at *
      generalize (g.items.getD (i0 + k) IT.zero).line = xl at *
      generalize (g.items.getD (i0 + k) IT.zero).many = xm at *
      have hnk : nk ≤ 400000 := by omega
      clear hcell hB hx hbd2
      go_wp2
      go_roundw
      case rel => exact ⟨k + 1, by omega, by go_num, by rw [HNE.out, HNX.out], HB.out.next (by repeat (first | exact Ext.refl _ | assumption | refine Ext.alloc ?_ _ | refine Ext.drew ?_ | refine Ext.drewN ?_ _ | (refine Ext.setCell ?_ (by simp <;> omega) _) | refine Ext.trans ?_ (by assumption))), HX.out.trans (by repeat (first | exact Ext.refl _ | assumption | refine Ext.alloc ?_ _ | refine Ext.drew ?_ | refine Ext.drewN ?_ _ | (refine Ext.setCell ?_ (by simp <;> omega) _) | refine Ext.trans ?_ (by assumption)))⟩
      case measure => simp [intOf]; omega
    case neg =>
      obtain rfl : k = m := by omega
      generalize hTo g.items i0 k = nk at *
      have hnk : nk ≤ 400000 := by omega
      clear hB hx hbd2 HHT HHS
      by_cases hz0 : 0 < zs.length
      case neg =>
        have hz9 : ¬ (0 : Int) < (zs.length : Int) := by omega
        have HEZ : Hid (z = nk + nSum g.notes zs zs.length) := Lib.hid (by rw [HE.out, if_neg hz0]; omega)
        clear hz0
        go_wp2_with (first | (go_at_call 87; refine Calls.mono (CN.out _ ?_) ?_; (exact HG.out.ext (HB.out.ext.trans (by repeat (first | exact Ext.refl _ | assumption | refine Ext.alloc ?_ _ | refine Ext.drew ?_ | refine Ext.drewN ?_ _ | (refine Ext.setCell ?_ (by simp <;> omega) _) | refine Ext.trans ?_ (by assumption))))); rintro e w2 ⟨A2, c2, rfl, hS, hb2⟩; have HS2 := Lib.hid hS.ri; have HB2 := Lib.hid (HB.out.next (Ext.trans (by repeat (first | exact Ext.refl _ | assumption | refine Ext.alloc ?_ _ | refine Ext.drew ?_ | refine Ext.drewN ?_ _ | (refine Ext.setCell ?_ (by simp <;> omega) _) | refine Ext.trans ?_ (by assumption))) hb2)); clear k0 k1 k2 k3 k4 k5 k6 k7 kl; obtain ⟨k0, k1, k2, k3, k4, k5, k6, k7, kl⟩ := HB2.out.cells; clear hS hb2))
        go_loop [5, 37] (fun v i => ∃ k : Nat, k ≤ zs.length ∧ i = .int .i64 k ∧ v = .int .i64 (nk + nSum g.notes zs k)) (fun _ i => zs.length - (intOf i).toNat)
        case atStart => exact ⟨0, Nat.zero_le _, rfl, by show _ = Value.int .i64 (nk + 0); rw [Int.add_zero]⟩
        case round =>
          obtain ⟨k, hk, rfl, rfl⟩ := hrel
          by_cases hlt2 : k < zs.length
          case pos =>
            exact absurd hlt2 (by omega)
          case neg =>
            obtain rfl : k = zs.length := by omega
            go_wp2
            go_ret
            exact Ret.mk' (by rw [HEZ.out]; rfl) (HB2.out.ext.trans (by repeat (first | exact Ext.refl _ | assumption | refine Ext.alloc ?_ _ | refine Ext.drew ?_ | refine Ext.drewN ?_ _ | (refine Ext.setCell ?_ (by simp <;> omega) _) | refine Ext.trans ?_ (by assumption))))
      case pos =>
        have hz9 : (0 : Int) < (zs.length : Int) := by omega
        have HEZ : Hid (z = nk + r.gap + nSum g.notes zs zs.length) := Lib.hid (by rw [HE.out, if_pos hz0])
        clear hz0
        go_wp2_with (first | (go_at_call 87; refine Calls.mono (CN.out _ ?_) ?_; (exact HG.out.ext (HB.out.ext.trans (by repeat (first | exact Ext.refl _ | assumption | refine Ext.alloc ?_ _ | refine Ext.drew ?_ | refine Ext.drewN ?_ _ | (refine Ext.setCell ?_ (by simp <;> omega) _) | refine Ext.trans ?_ (by assumption))))); rintro e w2 ⟨A2, c2, rfl, hS, hb2⟩; have HS2 := Lib.hid hS.ri; have HB2 := Lib.hid (HB.out.next (Ext.trans (by repeat (first | exact Ext.refl _ | assumption | refine Ext.alloc ?_ _ | refine Ext.drew ?_ | refine Ext.drewN ?_ _ | (refine Ext.setCell ?_ (by simp <;> omega) _) | refine Ext.trans ?_ (by assumption))) hb2)); clear k0 k1 k2 k3 k4 k5 k6 k7 kl; obtain ⟨k0, k1, k2, k3, k4, k5, k6, k7, kl⟩ := HB2.out.cells; clear hS hb2))
        go_loop [5, 37] (fun v i => ∃ k : Nat, k ≤ zs.length ∧ i = .int .i64 k ∧ v = .int .i64 (nk + r.gap + nSum g.notes zs k)) (fun _ i => zs.length - (intOf i).toNat)
        case atStart => exact ⟨0, Nat.zero_le _, rfl, by show _ = Value.int .i64 (nk + r.gap + 0); rw [Int.add_zero]⟩
        case round =>
          obtain ⟨k, hk, rfl, rfl⟩ := hrel
          by_cases hlt2 : k < zs.length
          case pos =>
            obtain ⟨g9, o9, rfl, hg9, hcell⟩ := HS2.out.2.2 (by omega)
            have d1 := hcell k hlt2
            have hzk := HNB.out _ (mem_getD hlt2)
            obtain ⟨j, hj⟩ := Int.eq_ofNat_of_zero_le hzk.1
            have hsb := HNS.out k hk
            obtain ⟨hs1, hs2⟩ := hsb
            have HNX := Lib.hid (HNT.out k)
            rw [hj] at d1 HNX hzk
            rw [Int.toNat_natCast] at HNX
            have hjl : j < g.notes.length := by omega
            obtain ⟨gB, oB, hBe, hgB, hcB⟩ := (HRI.out.ext HB2.out.ext).2.2 (by omega)
            have d2 := hcB j hjl
            have hnh := HNH.out j hjl
            obtain ⟨hn1, hn2⟩ := hnh
            have hji : (j : Int) < (g.notes.length : Int) := by omega
            rw [hBe] at k1
            generalize hnx : nSum g.notes zs (k + 1) = nx at *
            have HNE := Lib.hid hnx; clear hnx
            generalize nSum g.notes zs k = ny at *
            generalize g.notes.getD j 0 = nz at *
            have hny : ny ≤ 400000 := by omega
            clear hcell hcB hj hzk hs2 HNT HNS HNB
            go_wp2
            go_round
            case rel => exact ⟨k + 1, by omega, by go_num, by rw [HNE.out, HNX.out, Int.add_assoc]⟩
            case measure => simp [intOf]; omega
          case neg =>
            obtain rfl : k = zs.length := by omega
            go_wp2
            go_ret
            exact Ret.mk' (by rw [HEZ.out]; rfl) (HB2.out.ext.trans (by repeat (first | exact Ext.refl _ | assumption | refine Ext.alloc ?_ _ | refine Ext.drew ?_ | refine Ext.drewN ?_ _ | (refine Ext.setCell ?_ (by simp <;> omega) _) | refine Ext.trans ?_ (by assumption))))
end Go.Proofs.YtfbdklminljecaaGreatDoor
namespace Go.Proofs.YtfbdklminljecaaGreatDoor
open Go.RowKit
attribute [local go_sem ↓] Go.wp_at_zero Go.wp_at_succ

def pageB (n a b : Int) : Bool := decide (0 ≤ a ∧ a ≤ n - 1) && decide (a + 1 ≤ b ∧ b ≤ n)
def pageE (n a b : Int) : Int := if pageB n a b = true then 0 else 2
end Go.Proofs.YtfbdklminljecaaGreatDoor
namespace Go.Proofs.YtfbdklminljecaaGreatDoor
open Go.RowKit
attribute [local go_sem ↓] Go.wp_at_zero Go.wp_at_succ

def costV (g : GT) (r : QT) (a b : Nat) : Value := .tuple #[.int .i64 (costR g r a b).1, .int .i64 (costR g r a b).2]
set_option maxRecDepth 100000 in
set_option maxHeartbeats 8000000 in
theorem cost_any (g : GT) (p : GA) (r : QT) (a b : Nat) (w : World) (hg : GR w p g) (hab : a < b) (hb : b ≤ g.items.length) (hr : RightG g) (hq : chkQ r = 0) :
    Calls Tryz.prog 53 #[bkVal g p r, .agg #[.int .i64 a, .int .i64 b]] w (Ret (costV g r a b) w) := by
  have hn := hr.many
  have cC := fun W h => core_any g p r a b W h hab hb hn
  have cE := fun W => bookEnd_any g p r W
  have cU := fun W h => uses_any g p r a b W h hab hb hr hq
  obtain ⟨cb1, cb2, cb3⟩ := core_bd g.items a b (Nat.le_of_lt hab)
  obtain ⟨hu1, hu2⟩ := usesR_bd hr hq a b (Nat.le_of_lt hab) hb
  obtain ⟨⟨hh1, hh2⟩, _, ⟨hw1, hw2⟩, ho1, ho2⟩ := chkQ_zero hq
  have HC : Hid (costR g r a b = if coreB g.items a b ≤ coreA g.items a b then (0, 3)
    else if r.height - usesR g r a b < 0 then (0, 26)
    else if (g.items.getD (coreB g.items a b - 1) IT.zero).kind = 2 ∧ b ≠ g.items.length then (0, 15)
    else ((if b = g.items.length then 0 else (r.height - usesR g r a b) * (r.height - usesR g r a b)) +
      (if 1 < (g.items.getD (coreB g.items a b - 1) IT.zero).many ∧ (g.items.getD (coreB g.items a b - 1) IT.zero).line = 1 then r.orphan else 0) +
      (if 1 < (g.items.getD (coreA g.items a b) IT.zero).many ∧ (g.items.getD (coreA g.items a b) IT.zero).line = (g.items.getD (coreA g.items a b) IT.zero).many then r.widow else 0), 0)) := Lib.hid rfl
  unfold costV
  generalize costR g r a b = cR at *
  generalize coreA g.items a b = i0 at *
  generalize hj : coreB g.items a b = j0 at *
  clear hj
  generalize usesR g r a b = us at *
  obtain ⟨m, hm⟩ : ∃ m, j0 = i0 + m := ⟨j0 - i0, by omega⟩
  subst hm
  have HG := Lib.hid hg
  have hm1 : i0 + m ≤ g.items.length := by omega
  have hm2 : m ≤ 200 := by omega
  unfold bkVal at *
  have HZL : Hid (((b : Int) == (g.items.length : Int)) = decide (b = g.items.length)) := Lib.hid (by
    rw [Bool.eq_iff_iff, beq_iff_eq, decide_eq_true_eq]; omega)
  have CC := Lib.hid cC; have CE := Lib.hid cE; have CU := Lib.hid cU
  clear cC cE cU hg hq hn cb1 cb2 cb3 hab hb hr
  go_enter Tryz.func53, Tryz.ntmps53
  go_upto_region 1 with fail
  have HBK := Lib.hid (BkS.start (w := w) (cs := #[.slice p.A g.items.length p.c, .slice p.B g.notes.length p.d, .int .i64 r.height, .int .i64 r.gap, .int .i64 r.widow, .int .i64 r.orphan]) (ab := #[.int .i64 a, .int .i64 b]) (Ext.refl _))
  obtain ⟨k0, k1, k2, k3, k4, k5, k6, k7, kl⟩ := HBK.out.cells
  go_cut [6, 7] from 12 to 19 (fun v6 v7 wx => ∃ A1 c1, v6 = .slice A1 m c1 ∧ v7 = .bool ((b : Int) == (g.items.length : Int)) ∧ Hid (Seg wx A1 c1 g.items i0 (i0 + m)) ∧ Hid (BkS w #[.slice p.A g.items.length p.c, .slice p.B g.notes.length p.d, .int .i64 r.height, .int .i64 r.gap, .int .i64 r.widow, .int .i64 r.orphan] #[.int .i64 a, .int .i64 b] wx))
  case first =>
    go_region_held3 (fun W => (W.cell? ⟨w.heap.size, 0, none⟩ = some (.slice p.A g.items.length p.c) ∧ W.cell? ⟨w.heap.size, 1, none⟩ = some (.slice p.B g.notes.length p.d) ∧ W.cell? ⟨w.heap.size, 2, none⟩ = some (.int .i64 r.height) ∧ W.cell? ⟨w.heap.size, 3, none⟩ = some (.int .i64 r.gap) ∧ W.cell? ⟨w.heap.size, 4, none⟩ = some (.int .i64 r.widow) ∧ W.cell? ⟨w.heap.size, 5, none⟩ = some (.int .i64 r.orphan)) ∧ (W.cell? ⟨w.heap.size + 1, 0, none⟩ = some (.int .i64 a) ∧ W.cell? ⟨w.heap.size + 1, 1, none⟩ = some (.int .i64 b)) ∧ w.heap.size + 1 < W.heap.size) (first | exact ⟨⟨k0, k1, k2, k3, k4, k5⟩, ⟨k6, k7⟩, kl⟩ | go_keep) (first | (go_at_call 71; refine Calls.mono (CC.out _ ?_) ?_; (exact HG.out.ext (HBK.out.ext.trans (by repeat (first | exact Ext.refl _ | assumption | refine Ext.alloc ?_ _ | refine Ext.drew ?_ | refine Ext.drewN ?_ _ | (refine Ext.setCell ?_ (by simp <;> omega) _) | refine Ext.trans ?_ (by assumption))))); rintro e w1 ⟨A1, c1, rfl, hsg, hb⟩; have HBK9 := Lib.hid (HBK.out.next (Ext.trans (by repeat (first | exact Ext.refl _ | assumption | refine Ext.alloc ?_ _ | refine Ext.drew ?_ | refine Ext.drewN ?_ _ | (refine Ext.setCell ?_ (by simp <;> omega) _) | refine Ext.trans ?_ (by assumption))) hb)); clear k0 k1 k2 k3 k4 k5 k6 k7 kl HBK; have HBK := HBK9; clear HBK9; obtain ⟨k0, k1, k2, k3, k4, k5, k6, k7, kl⟩ := HBK.out.cells; have HSG := Lib.hid hsg; clear hsg hb) | (go_at_call 32; refine Calls.mono (CE.out _) ?_; rintro e w1 ⟨rfl, hb⟩; have HBK9 := Lib.hid (HBK.out.next (Ext.trans (by repeat (first | exact Ext.refl _ | assumption | refine Ext.alloc ?_ _ | refine Ext.drew ?_ | refine Ext.drewN ?_ _ | (refine Ext.setCell ?_ (by simp <;> omega) _) | refine Ext.trans ?_ (by assumption))) hb)); clear k0 k1 k2 k3 k4 k5 k6 k7 kl HBK; have HBK := HBK9; clear HBK9; obtain ⟨k0, k1, k2, k3, k4, k5, k6, k7, kl⟩ := HBK.out.cells; (try (have q9 := Lib.hid (HSG.out.ext (Ext.trans (by repeat (first | exact Ext.refl _ | assumption | refine Ext.alloc ?_ _ | refine Ext.drew ?_ | refine Ext.drewN ?_ _ | (refine Ext.setCell ?_ (by simp <;> omega) _) | refine Ext.trans ?_ (by assumption))) hb)); clear HSG; have HSG := q9; clear q9)); clear hb))
    all_goals
      go_wp2_with fail
      go_meet
      case rel => exact ⟨A1, c1, (by first | rfl | simp), rfl, Lib.hid (HSG.out.ext (by repeat (first | exact Ext.refl _ | assumption | refine Ext.alloc ?_ _ | refine Ext.drew ?_ | refine Ext.drewN ?_ _ | (refine Ext.setCell ?_ (by simp <;> omega) _) | refine Ext.trans ?_ (by assumption)))), Lib.hid (HBK.out.next (by repeat (first | exact Ext.refl _ | assumption | refine Ext.alloc ?_ _ | refine Ext.drew ?_ | refine Ext.drewN ?_ _ | (refine Ext.setCell ?_ (by simp <;> omega) _) | refine Ext.trans ?_ (by assumption))))⟩
  case rest =>
    obtain ⟨A1, c1, rfl, rfl, HSG, HBK⟩ := hcut
    clear k0 k1 k2 k3 k4 k5 k6 k7 kl
    have HX0 : Hid (Ext w wc) := Lib.hid HBK.out.ext
    by_cases hm0 : m = 0
    case pos =>
      subst hm0
      have HV : Hid (cR = (0, 3)) := Lib.hid (by rw [HC.out, if_pos (by omega)])
      clear HC
      go_wp2
      go_ret2
      exact Ret.mk' (by rw [HV.out]; rfl) (HX0.out.trans (by repeat (first | exact Ext.refl _ | assumption | refine Ext.alloc ?_ _ | refine Ext.drew ?_ | refine Ext.drewN ?_ _ | (refine Ext.setCell ?_ (by simp <;> omega) _) | refine Ext.trans ?_ (by assumption))))
    case neg =>
    have hm3 : ((m : Int) == 0) = false := by rw [beq_eq_false_iff_ne]; omega
    have hm4 : (1 : Int) ≤ (m : Int) := by omega
    have HV := HC.out
    rw [if_neg (by omega)] at HV
    have HC2 := Lib.hid HV; clear HC HV
    have HM0 := Lib.hid hm0; clear hm0
    obtain ⟨wb, rfl⟩ : ∃ wb : World, wb = wc := ⟨_, rfl⟩
    go_upto_region 4 with fail
    go_cut [8] from 23 to 29 (fun v8 wx => v8 = .int .i64 (r.height - us) ∧ Hid (Ext wb wx))
    case first =>
      refine wp_region_steady (Ext _) [?_, ?_, ?_, ?_, ?_, ?_, ?_, ?_] (by kernel_rfl) (by kernel_rfl) rfl (Ext.refl _).drew ?_ ?_
      rotate_left 8
      · refine StepsT.cons (fun W hW => ?_) ?_
        · obtain ⟨q0, q1, q2, q3, q4, q5, q6, q7, ql⟩ := (HBK.out.next hW).cells; first | (refine StepT.off rfl hW ?_; rfl) | (refine StepT.go rfl ?_; go_simp; first | (refine ⟨?_, hW⟩; rfl) | (refine Calls.mono (CU.out _ (HG.out.ext (HX0.out.trans hW))) ?_; rintro e w1 ⟨rfl, hb⟩; refine ⟨?_, hW.trans hb⟩; rfl))
        simp only [Act.put, List.setIfInBounds_toArray, List.set_cons_zero, List.set_cons_succ]
        refine StepsT.cons (fun W hW => ?_) ?_
        · obtain ⟨q0, q1, q2, q3, q4, q5, q6, q7, ql⟩ := (HBK.out.next hW).cells; first | (refine StepT.off rfl hW ?_; rfl) | (refine StepT.go rfl ?_; go_simp; first | (refine ⟨?_, hW⟩; rfl) | (refine Calls.mono (CU.out _ (HG.out.ext (HX0.out.trans hW))) ?_; rintro e w1 ⟨rfl, hb⟩; refine ⟨?_, hW.trans hb⟩; rfl))
        simp only [Act.put, List.setIfInBounds_toArray, List.set_cons_zero, List.set_cons_succ]
        refine StepsT.cons (fun W hW => ?_) ?_
        · obtain ⟨q0, q1, q2, q3, q4, q5, q6, q7, ql⟩ := (HBK.out.next hW).cells; first | (refine StepT.off rfl hW ?_; rfl) | (refine StepT.go rfl ?_; go_simp; first | (refine ⟨?_, hW⟩; rfl) | (refine Calls.mono (CU.out _ (HG.out.ext (HX0.out.trans hW))) ?_; rintro e w1 ⟨rfl, hb⟩; refine ⟨?_, hW.trans hb⟩; rfl))
        simp only [Act.put, List.setIfInBounds_toArray, List.set_cons_zero, List.set_cons_succ]
        refine StepsT.cons (fun W hW => ?_) ?_
        · obtain ⟨q0, q1, q2, q3, q4, q5, q6, q7, ql⟩ := (HBK.out.next hW).cells; first | (refine StepT.off rfl hW ?_; rfl) | (refine StepT.go rfl ?_; go_simp; first | (refine ⟨?_, hW⟩; rfl) | (refine Calls.mono (CU.out _ (HG.out.ext (HX0.out.trans hW))) ?_; rintro e w1 ⟨rfl, hb⟩; refine ⟨?_, hW.trans hb⟩; rfl))
        simp only [Act.put, List.setIfInBounds_toArray, List.set_cons_zero, List.set_cons_succ]
        refine StepsT.cons (fun W hW => ?_) ?_
        · obtain ⟨q0, q1, q2, q3, q4, q5, q6, q7, ql⟩ := (HBK.out.next hW).cells; first | (refine StepT.off rfl hW ?_; rfl) | (refine StepT.go rfl ?_; go_simp; first | (refine ⟨?_, hW⟩; rfl) | (refine Calls.mono (CU.out _ (HG.out.ext (HX0.out.trans hW))) ?_; rintro e w1 ⟨rfl, hb⟩; refine ⟨?_, hW.trans hb⟩; rfl))
        simp only [Act.put, List.setIfInBounds_toArray, List.set_cons_zero, List.set_cons_succ]
        refine StepsT.cons (fun W hW => ?_) ?_
        · obtain ⟨q0, q1, q2, q3, q4, q5, q6, q7, ql⟩ := (HBK.out.next hW).cells; first | (refine StepT.off rfl hW ?_; rfl) | (refine StepT.go rfl ?_; go_simp; first | (refine ⟨?_, hW⟩; rfl) | (refine Calls.mono (CU.out _ (HG.out.ext (HX0.out.trans hW))) ?_; rintro e w1 ⟨rfl, hb⟩; refine ⟨?_, hW.trans hb⟩; rfl))
        simp only [Act.put, List.setIfInBounds_toArray, List.set_cons_zero, List.set_cons_succ]
        refine StepsT.cons (fun W hW => ?_) ?_
        · obtain ⟨q0, q1, q2, q3, q4, q5, q6, q7, ql⟩ := (HBK.out.next hW).cells; first | (refine StepT.off rfl hW ?_; rfl) | (refine StepT.go rfl ?_; go_simp; first | (refine ⟨?_, hW⟩; rfl) | (refine Calls.mono (CU.out _ (HG.out.ext (HX0.out.trans hW))) ?_; rintro e w1 ⟨rfl, hb⟩; refine ⟨?_, hW.trans hb⟩; rfl))
        simp only [Act.put, List.setIfInBounds_toArray, List.set_cons_zero, List.set_cons_succ]
        refine StepsT.cons (fun W hW => ?_) ?_
        · obtain ⟨q0, q1, q2, q3, q4, q5, q6, q7, ql⟩ := (HBK.out.next hW).cells; first | (refine StepT.off rfl hW ?_; rfl) | (refine StepT.go rfl ?_; go_simp; first | (refine ⟨?_, hW⟩; rfl) | (refine Calls.mono (CU.out _ (HG.out.ext (HX0.out.trans hW))) ?_; rintro e w1 ⟨rfl, hb⟩; refine ⟨?_, hW.trans hb⟩; rfl))
        simp only [Act.put, List.setIfInBounds_toArray, List.set_cons_zero, List.set_cons_succ]
        trivial
      intro W hW
      simp only [putAll, Act.put, List.setIfInBounds_toArray, List.set_cons_zero, List.set_cons_succ]
      go_wp2_with fail
      go_meet
      case rel => exact ⟨by rw [IntWalk.i64_in _ (by omega)], Lib.hid hW⟩
    case rest =>
    obtain ⟨rfl, HX1⟩ := hcut
    obtain ⟨q, hq⟩ : ∃ q, m = q + 1 := ⟨m - 1, by have := HM0.out; omega⟩
    subst hq
    obtain ⟨g9, o9, he, hg9, hcell⟩ := (HSG.out.ext HX1.out).2 (by omega)
    subst he
    obtain ⟨c0, c1, c2, c3, c4⟩ := hcell 0 (by omega)
    obtain ⟨d0, d1, d2, d3, d4⟩ := hcell q (by omega)
    simp only [Nat.zero_mul, Nat.add_zero] at c0 c1 c2 c3 c4
    have hq1 : (0 : Int) ≤ (q : Int) := by omega
    have hq2 : (q : Int) < (q : Int) + 1 := by omega
    have HC3 : Hid (i0 + (q + 1) - 1 = i0 + q) := Lib.hid (by omega)
    have HC4 := HC2.out
    rw [HC3.out] at HC4
    have HC5 := Lib.hid HC4
    clear hcell HC2 HC3 HC4 hm3 hm4
    generalize (g.items.getD i0 IT.zero).kind = xk at *
    generalize (g.items.getD i0 IT.zero).height = xh at *
    generalize (g.items.getD i0 IT.zero).note = xn at *
    generalize (g.items.getD i0 IT.zero).line = xl at *
    generalize (g.items.getD i0 IT.zero).many = xm at *
    generalize (g.items.getD (i0 + q) IT.zero).kind = yk at *
    generalize (g.items.getD (i0 + q) IT.zero).height = yh at *
    generalize (g.items.getD (i0 + q) IT.zero).note = yn at *
    generalize (g.items.getD (i0 + q) IT.zero).line = yl at *
    generalize (g.items.getD (i0 + q) IT.zero).many = ym at *
    have e3 : IntKind.i64.wrap (q : Int) = (q : Int) := IntWalk.i64_in _ (by omega)
    have e4 : IntKind.i64.wrap ((q : Int) + 1 - 1) = (q : Int) := by rw [IntWalk.i64_in _ (by omega)]; omega
    have hn1 : ¬ g9 = wc.heap.size := by omega
    have hn2 : ¬ g9 = wc.heap.size + 1 := by omega
    have hn3 : ¬ wc.heap.size = g9 := by omega
    have hn4 : ¬ wc.heap.size + 1 = g9 := by omega
    go_upto_region 5 with fail
    go_cut [9, 10] from 30 to 38 (fun v9 v10 wx => ∃ b9 b10, v9 = .pointer (some ⟨b9, 0, none⟩) ∧ v10 = .pointer (some ⟨b10, 0, none⟩) ∧ Hid (Blk wx b9 85 #[.int .i64 xk, .int .i64 xh, .int .i64 xn, .int .i64 xl, .int .i64 xm]) ∧ Hid (Blk wx b10 85 #[.int .i64 yk, .int .i64 yh, .int .i64 yn, .int .i64 yl, .int .i64 ym]) ∧ Hid (Ext wc wx))
    case first =>
      go_region_held3 (fun W => (W.cell? ⟨g9, o9, none⟩ = some (.int .i64 xk) ∧ W.cell? ⟨g9, o9 + 1, none⟩ = some (.int .i64 xh) ∧ W.cell? ⟨g9, o9 + 2, none⟩ = some (.int .i64 xn) ∧ W.cell? ⟨g9, o9 + 3, none⟩ = some (.int .i64 xl) ∧ W.cell? ⟨g9, o9 + 4, none⟩ = some (.int .i64 xm)) ∧ (W.cell? ⟨g9, o9 + q * 5, none⟩ = some (.int .i64 yk) ∧ W.cell? ⟨g9, o9 + q * 5 + 1, none⟩ = some (.int .i64 yh) ∧ W.cell? ⟨g9, o9 + q * 5 + 2, none⟩ = some (.int .i64 yn) ∧ W.cell? ⟨g9, o9 + q * 5 + 3, none⟩ = some (.int .i64 yl) ∧ W.cell? ⟨g9, o9 + q * 5 + 4, none⟩ = some (.int .i64 ym))) (first | exact ⟨⟨c0, c1, c2, c3, c4⟩, ⟨d0, d1, d2, d3, d4⟩⟩ | go_keep) (fail)
      all_goals
        go_wp2_with fail
        go_meet
        case rel => first | exact ⟨_, _, rfl, rfl, Lib.hid ((Blk.new _ _ _).alloc _), Lib.hid (Blk.new1 _ _ _ _), Lib.hid (by repeat (first | exact Ext.refl _ | assumption | refine Ext.alloc ?_ _ | refine Ext.drew ?_ | refine Ext.drewN ?_ _ | (refine Ext.setCell ?_ (by simp <;> omega) _) | refine Ext.trans ?_ (by assumption)))⟩ | exact ⟨_, _, rfl, rfl, Lib.hid (Blk.new1 _ _ _ _), Lib.hid ((Blk.new _ _ _).alloc _), Lib.hid (by repeat (first | exact Ext.refl _ | assumption | refine Ext.alloc ?_ _ | refine Ext.drew ?_ | refine Ext.drewN ?_ _ | (refine Ext.setCell ?_ (by simp <;> omega) _) | refine Ext.trans ?_ (by assumption)))⟩
    case rest =>
    have HX3 := Lib.hid (HX0.out.trans HX1.out)
    obtain ⟨b9, b10, rfl, rfl, HB9, HB10, HX2⟩ := hcut
    have HX4 := Lib.hid (HX3.out.trans HX2.out)
    obtain ⟨k0, k1, k2, k3, k4, k5, k6, k7, kl⟩ := (HBK.out.next (HX1.out.trans HX2.out)).cells
    have f3 := HB9.out.cell 3 _ rfl
    have f4 := HB9.out.cell 4 _ rfl
    have fl := HB9.out.lt
    have s0 := HB10.out.cell 0 _ rfl
    have s3 := HB10.out.cell 3 _ rfl
    have s4 := HB10.out.cell 4 _ rfl
    have sl := HB10.out.lt
    clear c0 c1 c2 c3 c4 d0 d1 d2 d3 d4 hn1 hn2 hn3 hn4 hg9 e3 e4 k6 k7
    by_cases t1 : r.height - us < 0
    case pos =>
      have HV : Hid (cR = (0, 26)) := Lib.hid (by rw [HC5.out, if_pos t1])
      go_wp2
      go_ret2
      exact Ret.mk' (by rw [HV.out]; rfl) (HX4.out.trans (by repeat (first | exact Ext.refl _ | assumption | refine Ext.alloc ?_ _ | refine Ext.drew ?_ | refine Ext.drewN ?_ _ | (refine Ext.setCell ?_ (by simp <;> omega) _) | refine Ext.trans ?_ (by assumption))))
    case neg =>
    obtain ⟨hs1, hs2⟩ := sq_bd (d := r.height - us) (by omega)
    have hv1 : r.height - us ≤ 2000 := by omega
    have HV := HC5.out
    rw [if_neg t1] at HV
    have HC6 := Lib.hid HV; clear HC5 HV
    generalize hzl : ((b : Int) == (g.items.length : Int)) = zl at *
    clear hzl
    have HZN : Hid (b = g.items.length ↔ zl = true) := Lib.hid (by rw [HZL.out, decide_eq_true_eq])
    clear HZL
    have ht1 : ¬ r.height < us := by omega
    by_cases t2 : yk = 2 ∧ zl = false
    case pos =>
      obtain ⟨t2a, t2b⟩ := t2
      subst t2b
      have HV : Hid (cR = (0, 15)) := Lib.hid (by rw [HC6.out, if_pos ⟨t2a, fun h => by have := HZN.out.1 h; cases this⟩])
      have e2 : (yk == 2) = true := by rw [beq_iff_eq]; exact t2a
      clear t2a
      go_wp2
      go_ret2
      exact Ret.mk' (by rw [HV.out]; rfl) (HX4.out.trans (by repeat (first | exact Ext.refl _ | assumption | refine Ext.alloc ?_ _ | refine Ext.drew ?_ | refine Ext.drewN ?_ _ | (refine Ext.setCell ?_ (by simp <;> omega) _) | refine Ext.trans ?_ (by assumption))))
    case neg =>
    have HV := HC6.out
    rw [if_neg (fun h => t2 ⟨h.1, by rw [← Bool.not_eq_true]; exact fun e => h.2 (HZN.out.2 e)⟩)] at HV
    have HC7 := Lib.hid HV; clear HC6 HV
    have h4 : (¬ 1 < ym ∧ Hid ((if 1 < ym ∧ yl = 1 then r.orphan else 0) = 0)) ∨ (1 < ym ∧ (yl == 1) = false ∧ Hid ((if 1 < ym ∧ yl = 1 then r.orphan else 0) = 0)) ∨ (1 < ym ∧ (yl == 1) = true ∧ Hid ((if 1 < ym ∧ yl = 1 then r.orphan else 0) = r.orphan)) := by
      by_cases h : 1 < ym
      · cases h' : (yl == 1)
        · exact .inr (.inl ⟨h, rfl, Lib.hid (by rw [if_neg (fun e => by rw [e.2] at h'; cases h')])⟩)
        · exact .inr (.inr ⟨h, rfl, Lib.hid (by rw [if_pos ⟨h, by simpa using h'⟩])⟩)
      · exact .inl ⟨h, Lib.hid (by rw [if_neg (fun e => h e.1)])⟩
    have h5 : (¬ 1 < xm ∧ Hid ((if 1 < xm ∧ xl = xm then r.widow else 0) = 0)) ∨ (1 < xm ∧ (xl == xm) = false ∧ Hid ((if 1 < xm ∧ xl = xm then r.widow else 0) = 0)) ∨ (1 < xm ∧ (xl == xm) = true ∧ Hid ((if 1 < xm ∧ xl = xm then r.widow else 0) = r.widow)) := by
      by_cases h : 1 < xm
      · cases h' : (xl == xm)
        · exact .inr (.inl ⟨h, rfl, Lib.hid (by rw [if_neg (fun e => by rw [e.2] at h'; simp at h')])⟩)
        · exact .inr (.inr ⟨h, rfl, Lib.hid (by rw [if_pos ⟨h, by simpa using h'⟩])⟩)
      · exact .inl ⟨h, Lib.hid (by rw [if_neg (fun e => h e.1)])⟩
    by_cases t3 : (yk == 2) = true
    case pos =>
      have hz : zl = true := by rw [← Bool.not_eq_false]; exact fun e => t2 ⟨by simpa using t3, e⟩
      subst hz
      have HBN : Hid ((if b = g.items.length then 0 else (r.height - us) * (r.height - us)) = 0) := Lib.hid (by rw [if_pos (HZN.out.2 rfl)])
      clear t2
      rcases h4 with ⟨t4, I4⟩ | ⟨t4, t5, I4⟩ | ⟨t4, t5, I4⟩ <;> rcases h5 with ⟨t6, I5⟩ | ⟨t6, t7, I5⟩ | ⟨t6, t7, I5⟩
      all_goals
        go_wp2
        go_ret2
        refine Ret.mk' ?_ (HX4.out.trans (by repeat (first | exact Ext.refl _ | assumption | refine Ext.alloc ?_ _ | refine Ext.drew ?_ | refine Ext.drewN ?_ _ | (refine Ext.setCell ?_ (by simp <;> omega) _) | refine Ext.trans ?_ (by assumption))))
        rw [HC7.out, I4.out, I5.out, HBN.out]
        first | rfl | (simp only [Int.add_zero]; rfl) | (simp only [Int.zero_add]; rfl) | (simp only [Int.add_zero, Int.zero_add]; rfl)
    case neg =>
      rw [Bool.not_eq_true] at t3
      cases zl
      · have HBN : Hid ((if b = g.items.length then 0 else (r.height - us) * (r.height - us)) = (r.height - us) * (r.height - us)) := Lib.hid (by rw [if_neg (fun e => Bool.false_ne_true (HZN.out.1 e))])
        clear t2
        rcases h4 with ⟨t4, I4⟩ | ⟨t4, t5, I4⟩ | ⟨t4, t5, I4⟩ <;> rcases h5 with ⟨t6, I5⟩ | ⟨t6, t7, I5⟩ | ⟨t6, t7, I5⟩
        all_goals
          go_wp2
          go_ret2
          refine Ret.mk' ?_ (HX4.out.trans (by repeat (first | exact Ext.refl _ | assumption | refine Ext.alloc ?_ _ | refine Ext.drew ?_ | refine Ext.drewN ?_ _ | (refine Ext.setCell ?_ (by simp <;> omega) _) | refine Ext.trans ?_ (by assumption))))
          rw [HC7.out, I4.out, I5.out, HBN.out]
          first | rfl | (simp only [Int.add_zero]; rfl) | (simp only [Int.zero_add]; rfl) | (simp only [Int.add_zero, Int.zero_add]; rfl)
      · have HBN : Hid ((if b = g.items.length then 0 else (r.height - us) * (r.height - us)) = 0) := Lib.hid (by rw [if_pos (HZN.out.2 rfl)])
        clear t2
        rcases h4 with ⟨t4, I4⟩ | ⟨t4, t5, I4⟩ | ⟨t4, t5, I4⟩ <;> rcases h5 with ⟨t6, I5⟩ | ⟨t6, t7, I5⟩ | ⟨t6, t7, I5⟩
        all_goals
          go_wp2
          go_ret2
          refine Ret.mk' ?_ (HX4.out.trans (by repeat (first | exact Ext.refl _ | assumption | refine Ext.alloc ?_ _ | refine Ext.drew ?_ | refine Ext.drewN ?_ _ | (refine Ext.setCell ?_ (by simp <;> omega) _) | refine Ext.trans ?_ (by assumption))))
          rw [HC7.out, I4.out, I5.out, HBN.out]
          first | rfl | (simp only [Int.add_zero]; rfl) | (simp only [Int.zero_add]; rfl) | (simp only [Int.add_zero, Int.zero_add]; rfl)
end Go.Proofs.YtfbdklminljecaaGreatDoor
