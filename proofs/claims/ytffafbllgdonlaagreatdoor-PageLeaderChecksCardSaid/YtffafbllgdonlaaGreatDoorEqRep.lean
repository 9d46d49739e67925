/-
  Walks: slices.Equal, slices.Repeat of a list, slices.ContainsFunc with what is asked of the list's own items.
-/
import Derived.Test.YtffafbllgdonlaaGreatDoorGI
import Derived.Test.YtffafbllgdonlaaGreatDoorLeadLaw
import Derived.Test.YtffafbllgdonlaaGreatDoorGE
namespace Go.Proofs.YtffafbllgdonlaaGreatDoor
open Go.RowKit

def SameN (V : Value) (w : World) (e : Ending) (w' : World) : Prop := e = .returned V ∧ ∃ q, w' = w.drewN q
theorem SameN.quiet {P : Program} {f : FuncId} {args : Array Value} {w : World} {n : Nat} {v : Value} (h : Calls P f args (w.drewN n) (SameN v (w.drewN n))) :
    Calls P f args (w.drewN n) fun e w'' => e = .returned v ∧ ∃ m, w'' = w.drewN m := h.mono fun _ _ ⟨he, q, hm⟩ => ⟨he, n + q, by rw [hm, World.drewN_drewN]⟩
theorem SameN.ret {P : Program} {f : FuncId} {args : Array Value} {w : World} {v : Value} (h : Calls P f args w (SameN v w)) : Calls P f args w (Ret v w) := h.mono fun _ _ ⟨he, q, hm⟩ => by subst hm he; exact Ret.mk' rfl ((Ext.refl w).drewN q)
set_option maxHeartbeats 1000000 in
theorem equalN_any (A B : Option Addr) (c d n m : Nat) (xs ys : List Int) (w : World) (hx : RI w A n xs) (hy : RI w B m ys) :
    Calls Tryz.prog 52 #[.slice A n c, .slice B m d] w (SameN (.bool (decide (xs = ys))) w) := by
  obtain rfl := hx.len
  obtain rfl := hy.len
  have hbx := hx.big; have hby := hy.big
  by_cases hl : xs.length = ys.length
  · have e1 : ((xs.length : Int) != (ys.length : Int)) = false := by simp [hl]
    have HL := Lib.hid hl; clear hl
    have HX := Lib.hid hx; have HY := Lib.hid hy; clear hx hy
    go_enter Tryz.func52, Tryz.ntmps52
    go_wp2
    go_loopw [5, 13] (fun _ i wr => ∃ k : Nat, k ≤ xs.length ∧ i = .int .i64 k ∧ sameTo xs ys k ∧ ∃ q, wr = w.drewN q) (fun _ i _ => xs.length - (intOf i).toNat)
    case atStart => exact ⟨0, Nat.zero_le _, rfl, fun j hj => absurd hj (by omega), 0, rfl⟩
    case round =>
      obtain ⟨k, hk, rfl, hs, q, hwr⟩ := hrel
      have hxt : Ext w wr := by rw [hwr]; exact (Ext.refl w).drewN q
      have HWR := Lib.hid hwr; clear hwr
      have HS := Lib.hid hs; clear hs
      by_cases hlt : k < xs.length
      · have hlt' : k < ys.length := by have := HL.out; omega
        obtain ⟨b, off, rfl, hbw, hcell⟩ := (HX.out.ext hxt).2.2 (by omega)
        obtain ⟨b', off', rfl, hbw', hcell'⟩ := (HY.out.ext hxt).2.2 (by omega)
        have c1 := hcell k hlt
        have c2 := hcell' k hlt'
        have i1 : (k : Int) < (xs.length : Int) := by omega
        have i2 : (k : Int) < (ys.length : Int) := by omega
        have HK : Hid (xs.getD k 0 = ys.getD k 0 → sameTo xs ys (k + 1)) := Lib.hid (fun he j hj => by
          by_cases hj' : j < k
          · exact HS.out j hj'
          · obtain rfl : j = k := by omega
            exact he)
        have HD : Hid (xs.getD k 0 ≠ ys.getD k 0 → ¬ xs = ys) := Lib.hid (fun he hh => he (by rw [hh]))
        generalize xs.getD k 0 = x at *
        generalize ys.getD k 0 = y at *
        have HXT := Lib.hid hxt; clear hxt hcell hcell'
        by_cases he : x = y
        · subst he
          go_wp2
          go_quiet (fail)
          go_wp2
          go_roundw
          case rel => exact ⟨k + 1, by omega, by go_num, HK.out (by first | exact rfl | trivial), by rw [HWR.out]; first | exact ⟨_, rfl⟩ | (rw [World.drewN_drewN]; exact ⟨_, rfl⟩)⟩
          case measure => simp [intOf]; omega
        · have e0 : (x != y) = true := by simpa using he
          have HE := Lib.hid he; clear he
          go_wp2
          go_quiet (fail)
          go_wp2
          go_ret
          exact ⟨by rw [decide_eq_false (HD.out HE.out)]; rfl, by rw [HWR.out]; first | exact ⟨_, rfl⟩ | (rw [World.drewN_drewN]; exact ⟨_, rfl⟩)⟩
      · obtain rfl : k = xs.length := by omega
        have HE : Hid (xs = ys) := Lib.hid (list_ext_getD HL.out HS.out)
        have HXT := Lib.hid hxt; clear hxt
        go_wp2
        go_ret
        exact ⟨by rw [decide_eq_true HE.out]; rfl, by rw [HWR.out]; first | exact ⟨_, rfl⟩ | (rw [World.drewN_drewN]; exact ⟨_, rfl⟩)⟩
  · have e1 : ((xs.length : Int) != (ys.length : Int)) = true := by simp; omega
    have HL : Hid (¬ xs = ys) := Lib.hid (fun h => hl (by rw [h]))
    clear hx hy hl
    go_enter Tryz.func52, Tryz.ntmps52
    go_wp2
    go_ret
    exact ⟨by rw [decide_eq_false HL.out]; rfl, 0, rfl⟩
set_option maxHeartbeats 1000000 in
theorem intsN_any (A B : Option Addr) (c d n m : Nat) (xs ys : List Int) (w : World) (hx : RI w A n xs) (hy : RI w B m ys) :
    Calls Tryz.prog 30 #[.slice A n c, .slice B m d] w (SameN (.bool (decide (xs = ys))) w) := by
  obtain rfl := hx.len
  obtain rfl := hy.len
  have hbx := hx.big; have hby := hy.big
  by_cases hl : xs.length = ys.length
  · have e1 : ((xs.length : Int) != (ys.length : Int)) = false := by simp [hl]
    have HL := Lib.hid hl; clear hl
    have HX := Lib.hid hx; have HY := Lib.hid hy; clear hx hy
    go_enter Tryz.func30, Tryz.ntmps30
    go_wp2
    go_loopw [5] (fun i wr => ∃ k : Nat, k ≤ xs.length ∧ i = .int .i64 k ∧ sameTo xs ys k ∧ ∃ q, wr = w.drewN q) (fun i _ => xs.length - (intOf i).toNat)
    case atStart => exact ⟨0, Nat.zero_le _, rfl, fun j hj => absurd hj (by omega), 0, rfl⟩
    case round =>
      obtain ⟨k, hk, rfl, hs, q, hwr⟩ := hrel
      have hxt : Ext w wr := by rw [hwr]; exact (Ext.refl w).drewN q
      have HWR := Lib.hid hwr; clear hwr
      have HS := Lib.hid hs; clear hs
      by_cases hlt : k < xs.length
      · have hlt' : k < ys.length := by have := HL.out; omega
        obtain ⟨b, off, rfl, hbw, hcell⟩ := (HX.out.ext hxt).2.2 (by omega)
        obtain ⟨b', off', rfl, hbw', hcell'⟩ := (HY.out.ext hxt).2.2 (by omega)
        have c1 := hcell k hlt
        have c2 := hcell' k hlt'
        have i1 : (k : Int) < (xs.length : Int) := by omega
        have i2 : (k : Int) < (ys.length : Int) := by omega
        have HK : Hid (xs.getD k 0 = ys.getD k 0 → sameTo xs ys (k + 1)) := Lib.hid (fun he j hj => by
          by_cases hj' : j < k
          · exact HS.out j hj'
          · obtain rfl : j = k := by omega
            exact he)
        have HD : Hid (xs.getD k 0 ≠ ys.getD k 0 → ¬ xs = ys) := Lib.hid (fun he hh => he (by rw [hh]))
        generalize xs.getD k 0 = x at *
        generalize ys.getD k 0 = y at *
        have HXT := Lib.hid hxt; clear hxt hcell hcell'
        by_cases he : x = y
        · subst he
          go_wp2
          go_quiet (fail)
          go_wp2
          go_roundw
          case rel => exact ⟨k + 1, by omega, by go_num, HK.out (by first | exact rfl | trivial), by rw [HWR.out]; first | exact ⟨_, rfl⟩ | (rw [World.drewN_drewN]; exact ⟨_, rfl⟩)⟩
          case measure => simp [intOf]; omega
        · have e0 : (x != y) = true := by simpa using he
          have HE := Lib.hid he; clear he
          go_wp2
          go_quiet (fail)
          go_wp2
          go_ret
          exact ⟨by rw [decide_eq_false (HD.out HE.out)]; rfl, by rw [HWR.out]; first | exact ⟨_, rfl⟩ | (rw [World.drewN_drewN]; exact ⟨_, rfl⟩)⟩
      · obtain rfl : k = xs.length := by omega
        have HE : Hid (xs = ys) := Lib.hid (list_ext_getD HL.out HS.out)
        have HXT := Lib.hid hxt; clear hxt
        go_wp2
        go_ret
        exact ⟨by rw [decide_eq_true HE.out]; rfl, by rw [HWR.out]; first | exact ⟨_, rfl⟩ | (rw [World.drewN_drewN]; exact ⟨_, rfl⟩)⟩
  · have e1 : ((xs.length : Int) != (ys.length : Int)) = true := by simp; omega
    have HL : Hid (¬ xs = ys) := Lib.hid (fun h => hl (by rw [h]))
    clear hx hy hl
    go_enter Tryz.func30, Tryz.ntmps30
    go_wp2
    go_ret
    exact ⟨by rw [decide_eq_false HL.out]; rfl, 0, rfl⟩
theorem equal_any (A B : Option Addr) (c d n m : Nat) (xs ys : List Int) (w : World) (hx : RI w A n xs) (hy : RI w B m ys) :
    Calls Tryz.prog 52 #[.slice A n c, .slice B m d] w (Ret (.bool (decide (xs = ys))) w) := SameN.ret (equalN_any A B c d n m xs ys w hx hy)
set_option maxHeartbeats 1000000 in
theorem indexIn_any (g : Nat) (lb : Array Value) (eg : ∀ args w, (callFunc g args).run Tryz.prog w = .ok (.enter g args) w) (p : Int → Bool) (A : Option Addr) (n c : Nat) (zs : List Int) (w : World) (h : RI w A n zs)
    (hp : ∀ k, k < n → Calls Tryz.prog g (#[.int .i64 (zs.getD k 0)] ++ lb) w (Same (.bool (p (zs.getD k 0))) w)) :
    Calls Tryz.prog 113 #[.slice A n c, .func (.func g) #[] lb] w (Same (.int .i64 (optI (idxOf p zs n))) w) := by
  have hbig := h.big
  go_enter Tryz.func113, Tryz.ntmps113
  go_wp2
  go_loop [8] (fun i => ∃ k : Nat, k ≤ n ∧ i = .int .i64 k ∧ ∀ j, j < k → p (zs.getD j 0) = false) (fun i => n - (intOf i).toNat)
  case atStart => exact ⟨0, Nat.zero_le _, rfl, fun j hj => absurd hj (by omega)⟩
  case round =>
    obtain ⟨k, hk, rfl, hno⟩ := hrel
    have HNO := Lib.hid hno; clear hno
    by_cases hlt : k < n
    · obtain ⟨b, off, rfl, hbw, hcell⟩ := h.2.2 (by omega)
      have c1 := hcell k hlt
      have HK : Hid (p (zs.getD k 0) = false → ∀ j, j < k + 1 → p (zs.getD j 0) = false) := Lib.hid (fun he j hj => by
        by_cases hj' : j < k
        · exact HNO.out j hj'
        · obtain rfl : j = k := by omega
          exact he)
      have HV := Lib.hid (fun he => idxOf_some (n := n) HNO.out he hlt)
      have cP := hp k hlt
      generalize zs.getD k 0 = z at *
      clear hcell h hp
      cases hpz : p z
      · rw [hpz] at cP
        have HPZ := Lib.hid hpz; clear hpz
        have CP := Lib.hid cP; clear cP
        go_wp2_with (go_at_fn g; refine Calls.mono CP.out ?_; rintro e W' ⟨rfl, rfl⟩)
        go_round
        case rel => exact ⟨k + 1, by omega, by go_num, HK.out HPZ.out⟩
        case measure => simp [intOf]; omega
      · rw [hpz] at cP
        have HPZ := Lib.hid hpz; clear hpz
        have CP := Lib.hid cP; clear cP
        go_wp2_with (go_at_fn g; refine Calls.mono CP.out ?_; rintro e W' ⟨rfl, rfl⟩)
        go_ret
        exact ⟨by rw [HV.out HPZ.out]; rfl, rfl⟩
    · obtain rfl : k = n := by omega
      have HV := Lib.hid (idxOf_none HNO.out)
      clear h hp
      go_wp2
      go_ret
      exact ⟨by rw [HV.out]; rfl, rfl⟩
set_option maxHeartbeats 1000000 in
theorem containsIn_any (g : Nat) (lb : Array Value) (eg : ∀ args w, (callFunc g args).run Tryz.prog w = .ok (.enter g args) w) (p : Int → Bool) (A : Option Addr) (n c : Nat) (zs : List Int) (w : World) (h : RI w A n zs)
    (hp : ∀ k, k < n → Calls Tryz.prog g (#[.int .i64 (zs.getD k 0)] ++ lb) w (Same (.bool (p (zs.getD k 0))) w)) :
    Calls Tryz.prog 55 #[.slice A n c, .func (.func g) #[] lb] w (Same (.bool (idxOf p zs n).isSome) w) := by
  have HD := Lib.hid (optI_dec (idxOf p zs n))
  have cI := indexIn_any g lb eg p A n c zs w h hp
  clear eg
  generalize optI (idxOf p zs n) = o at *
  have CI := Lib.hid cI; clear cI h hp
  go_enter Tryz.func55, Tryz.ntmps55
  go_wp2_with (go_at_call 113; refine Calls.mono CI.out ?_; rintro e W' ⟨rfl, rfl⟩)
  go_ret
  exact ⟨by rw [← HD.out]; rfl, rfl⟩
end Go.Proofs.YtffafbllgdonlaaGreatDoor
