/-
  Walk: Spaces, the spaces of a fount by their widths (the program's, by the library's stable sort).
-/
import Derived.Test.YtaopcpfgmjpliaaDoorSpacesLaw
import Derived.Test.YtaopcpfgmjpliaaDoorBox
import Derived.Test.YtaopcpfgmjpliaaDoorLists2
import Derived.Lib.OwnBridge
namespace Go.Proofs.YtaopcpfgmjpliaaDoor
open Go.RowKit Go.Shelf Go.Sort Go.Proofs

/-- The sort of a slice that is nil changes nothing. -/
theorem insertion_nil (g : Nat) (cb : Array Value) (w : World) : Calls Tryd.prog 53 #[.slice none 0 0, .int .i64 0, .int .i64 0, .func (.func g) #[] cb] w (RetPut w) := by
  go_enter Tryd.func53, Tryd.ntmps53
  go_wp2
  go_loop [8] (fun i => i = .int .i64 1) (fun _ => 0)
  case atStart => rfl
  case round =>
    obtain rfl := hrel
    go_wp2
    go_end0
    exact ⟨rfl, 0, rfl⟩
theorem stableCmp_nil (g : Nat) (cb : Array Value) (w : World) : Calls Tryd.prog 44 #[.slice none 0 0, .int .i64 0, .func (.func g) #[] cb] w (RetPut w) := by
  go_enter Tryd.func44, Tryd.ntmps44
  go_wp2
  go_loop [7, 8] (fun a b => a = .int .i64 0 ∧ b = .int .i64 20) (fun _ _ => 0)
  case atStart => exact ⟨rfl, rfl⟩
  case round =>
    obtain ⟨rfl, rfl⟩ := hrel
    go_wp2_with (first | (go_at_call 53; refine Calls.mono (insertion_nil _ _ _) ?_; rintro e w1 ⟨rfl, q, rfl⟩))
    go_loop [6] (fun b => b = .int .i64 20) (fun _ => 0)
    case atStart => rfl
    case round =>
      obtain rfl := hrel
      go_wp2
      go_end0
      exact ⟨rfl, q, rfl⟩
theorem stable_nil (g : Nat) (cb : Array Value) (w : World) : Calls Tryd.prog 22 #[.slice none 0 0, .func (.func g) #[] cb] w (RetPut w) := by
  go_enter Tryd.func22, Tryd.ntmps22
  go_wp2_with (first | (go_at_call 44; refine Calls.mono (stableCmp_nil _ _ _) ?_; rintro e w1 ⟨rfl, q, rfl⟩))
  go_end0
  exact ⟨rfl, q, rfl⟩

def diffW (ss : List TS) (i j : Nat) : Int := (ss.getD i TS.zero).width - (ss.getD j TS.zero).width
set_option maxHeartbeats 1000000 in
theorem spCmp_any (W : World) (b : Nat) (A : Option Addr) (c : Nat) (ss : List TS) (i j : Nat) (hb : W.cell? ⟨b, 2, none⟩ = some (.slice A ss.length c)) (hr : RT W A ss.length ss) (hi : i < ss.length) (hj : j < ss.length)
    (hw : ∀ k, k < ss.length → 1 ≤ (ss.getD k TS.zero).width ∧ (ss.getD k TS.zero).width ≤ 100000) :
    Calls Tryd.prog 23 #[.int .i64 i, .int .i64 j, .pointer (some ⟨b, 0, none⟩)] W (RetQ (diffW ss i j) W) := by
  obtain ⟨b', off, rfl, hbw, hcell⟩ := hr.2.2 (by omega)
  have c1 := (hcell i hi).2.2.2
  have c2 := (hcell j hj).2.2.2
  have hii : (i : Int) < (ss.length : Int) := by omega
  have hjj : (j : Int) < (ss.length : Int) := by omega
  have p1 := hw i hi
  have p2 := hw j hj
  have HD : Hid (diffW ss i j = (ss.getD i TS.zero).width - (ss.getD j TS.zero).width) := Lib.hid rfl
  generalize diffW ss i j = d at *
  generalize (ss.getD i TS.zero).width = x at *
  generalize (ss.getD j TS.zero).width = y at *
  clear hcell hw hr
  obtain ⟨x1, x2⟩ := p1
  obtain ⟨y1, y2⟩ := p2
  have q3 := IntWalk.i64_in (x - y) (by omega)
  have q4 : wrap64 (x - y) = x - y := IntWalk.wrap64_in _ ⟨by omega, by omega⟩
  go_enter Tryd.func23, Tryd.ntmps23
  go_wp2
  go_quiet (fail)
  go_wp2
  go_ret
  exact ⟨by rw [HD.out]; rfl, _, rfl⟩

theorem own_fin {w : World} {base m : Nat} {v : Value} {zs : List Int} (hz : ∀ z ∈ zs, 0 ≤ z ∧ z < ((m + 1 : Nat) : Int)) (h : Own w base v zs) : w.ownsRow base 3 1 v zs.length ((finA m zs).toList.map (encF m)) := by
  have e : (finA m zs).toList.map (encF m) = zs.map (Value.int .i64) := by
    conv => rhs; rw [← finA_back m zs hz]
    rw [List.map_map]; rfl
  rw [e]; exact h
/-- The row at v holds zs; nothing but block g has turned. -/
def RetSp (g base : Nat) (v : Value) (zs : List Int) (w : World) (e : Ending) (w' : World) : Prop := e = .returned (.tuple #[]) ∧ But [g] w w' ∧ Own w' base v zs
theorem sortSp_any (m : Nat) (w : World) (base g cap b : Nat) (A : Option Addr) (c : Nat) (ss : List TS) (zs : List Int) (hm : ss.length = m + 1) (hz : ∀ z ∈ zs, 0 ≤ z ∧ z < ((m + 1 : Nat) : Int)) (hl : zs.length ≤ 19)
    (hown : Own w base (.slice (some ⟨g, 0, none⟩) zs.length cap) zs) (h2 : w.cell? ⟨b, 2, none⟩ = some (.slice A ss.length c)) (hb : b < base) (hX : ∀ a, A = some a → a.block < base) (hr : RT w A ss.length ss)
    (hw : ∀ k, k < ss.length → 1 ≤ (ss.getD k TS.zero).width ∧ (ss.getD k TS.zero).width ≤ 100000) :
    Calls Tryd.prog 22 #[.slice (some ⟨g, 0, none⟩) zs.length cap, .func (.func 23) #[] #[.pointer (some ⟨b, 0, none⟩)]] w
      (RetSp g base (.slice (some ⟨g, 0, none⟩) zs.length cap) (sortZ m ss zs) w) := by
  have hro := own_fin hz hown
  obtain ⟨g', cap', hv, hbg, hgw, _, _, _, hH⟩ := Lib.holds_of_ownsRow hro (by simp)
  obtain ⟨e1, _, e3⟩ := Value.slice.inj hv
  cases e1
  rw [Array.toArray_toList] at hH
  have hsz := finA_size m zs
  have lt_of : ∀ {b o : Nat} {v : Value}, w.cell? ⟨b, o, none⟩ = some v → b < w.heap.size := fun {b o v} h => cell_lt h
  have hcmp : CmpReads Tryd.prog 23 #[.pointer (some ⟨b, 0, none⟩)] (encF m) (cfW m ss) g 0 (finA m zs).size w := by
    intro q os dk _ x y
    have far : ∀ {b o : Nat} {v : Value}, w.cell? ⟨b, o, none⟩ = some v → b < base → (sortWorld (encF m) w g 0 q dk os).cell? ⟨b, o, none⟩ = some v := fun {b o v} h hb =>
      (World.cell?_of_block (a := ⟨b, o, none⟩) (sortWorld_block _ _ _ _ _ _ (lt_of h) (show b ≠ g by omega))).trans h
    have hsize : w.heap.size ≤ (sortWorld (encF m) w g 0 q dk os).heap.size := by simp [sortWorld, grow, putRow, mapBlock, Sort.ahead]
    have hrt : RT (sortWorld (encF m) w g 0 q dk os) A ss.length ss := ⟨hr.1, hr.2.1, fun hn => by
      obtain ⟨b', off, ha, hb', hc⟩ := hr.2.2 hn
      have hlt := hX _ ha
      exact ⟨b', off, ha, Nat.lt_of_lt_of_le hb' hsize, fun k hk => by
        obtain ⟨q0, q1, q2, q3⟩ := hc k hk
        exact ⟨far q0 hlt, far q1 hlt, far q2 hlt, far q3 hlt⟩⟩⟩
    exact spCmp_any _ b A c ss x.val y.val (far h2 hb) hrt (by omega) (by omega) hw
  have key := stable_any m (cfW m ss) 23 #[.pointer (some ⟨b, 0, none⟩)] g cap (finA m zs) w (fun _ _ => by kernel_rfl) hcmp hH (by omega)
  rw [hsz] at key
  refine key.mono fun e w' ⟨he, q, hw⟩ => ⟨he, ?_, ?_⟩
  · subst hw
    refine ⟨rfl, rfl, rfl, by simp [putRow, mapBlock, World.drewN], fun k hk hk' => ?_⟩
    have hne : g ≠ k := fun e => hk' (by simp [e])
    show (putRow _ _ _ _ _).heap[k]? = _
    simp [putRow, mapBlock, Array.getElem?_modify, hne]
  · subst hw
    have hlen : (Sort.insertionSort (ltOf (cfW m ss)) (finA m zs) 0 zs.length).toList.length = zs.length := by rw [Array.length_toList, insertionSort_size, hsz]
    have h9 := Lib.ownsRow_putRow (q := 0) (k := zs.length) (ys := (Sort.insertionSort (ltOf (cfW m ss)) (finA m zs) 0 zs.length).toList) hro hlen (Nat.le_refl _)
    rw [Array.toArray_toList, ahead_zero, List.take_of_length_le (by omega)] at h9
    have h8 : Own (putRow (encF m) w g 0 (Sort.insertionSort (ltOf (cfW m ss)) (finA m zs) 0 zs.length)) base (.slice (some ⟨g, 0, none⟩) zs.length cap) (sortZ m ss zs) := by
      unfold Own sortZ
      rw [List.length_map, hsz, hlen, List.map_map]
      exact h9
    exact h8.ext ((Ext.refl _).drewN q)
/-- What the loop over the sorts keeps. -/
structure SpS (w : World) (name : ByteArray) (body : Int) (A : Option Addr) (n c : Nat) (a : World) (v : Value) (zs : List Int) : Prop where
  box : Box w name body A n c a
  own : Own a (w.heap.size + 1) v zs
  none_ : zs = [] → v = .slice none 0 0
section
variable {w a b W w' : World} {name : ByteArray} {body : Int} {A : Option Addr} {n c : Nat} {v v' : Value} {zs : List Int} {z : Int}
theorem SpS.next (h : SpS w name body A n c a v zs) (hx : Ext a b) : SpS w name body A n c b v zs := ⟨h.box.next hx, h.own.ext hx, h.none_⟩
theorem SpS.push (h : SpS w name body A n c a v zs) (hx : Ext a W) (hg : W.grownBy w' v.ownBlock) (ho : Own w' (w.heap.size + 1) v' (zs ++ [z])) : SpS w name body A n c w' v' (zs ++ [z]) := by
  have ho0 := h.own.ext hx
  refine ⟨⟨?_, ?_⟩, ho, fun e => by simp at e⟩
  · exact Ext.grown (h.box.ext.trans hx) hg fun k hk => by have := ho0.base_le k hk; omega
  · have hb := h.box.blk.ext hx
    exact (hg.block _ hb.lt (fun e => by have := ho0.base_le _ e.symm; omega)).trans hb
end
def spacesR (f : FT) : List Int × Int := if (chk f).2 ≠ 0 then ([], (chk f).2) else (spR f.sorts f.sorts.length, 0)
set_option maxRecDepth 100000 in
set_option maxHeartbeats 4000000 in
theorem spaces_any (f : FT) (A : Option Addr) (c : Nat) (w : World) (hf : FR w A c f) (hten : (chk f).2 = 0 → f.sorts.length ≤ 19) :
    Calls Tryd.prog 9 #[f.val A c] w (RetSE (spacesR f).1 (spacesR f).2 w) := by
  have cR := fun W h => checkFount_any f A c W h
  unfold ChkV at cR
  have HF := Lib.hid hf; clear hf
  by_cases hz : (chk f).2 = 0
  case neg =>
    have HE : Hid (spacesR f = ([], (chk f).2)) := Lib.hid (by unfold spacesR; rw [if_pos hz])
    generalize spacesR f = r at *
    clear hten
    generalize chk f = p at *
    obtain ⟨n, z⟩ := p
    simp only at cR hz HE
    have e0 : (z != 0) = true := by simpa using hz
    obtain ⟨name, body, ss⟩ := f
    simp only [FT.val] at *
    have CR := Lib.hid cR; clear cR hz
    go_enter Tryd.func9, Tryd.ntmps9
    go_wp2_with (first | (go_at_call 6; refine Calls.mono (CR.out _ ?_) ?_; (exact HF.out.ext (by repeat (first | exact Ext.refl _ | assumption | refine Ext.alloc ?_ _ | refine Ext.drew ?_ | refine Ext.drewN ?_ _ | (refine Ext.setCell ?_ (by simp <;> omega) _) | refine Ext.trans ?_ (by assumption)))); rintro e w1 ⟨rfl, hb⟩))
    go_ret2
    rw [HE.out]
    exact ⟨none, 0, rfl, SL.nil _ _, (by repeat (first | exact Ext.refl _ | assumption | refine Ext.alloc ?_ _ | refine Ext.drew ?_ | refine Ext.drewN ?_ _ | (refine Ext.setCell ?_ (by simp <;> omega) _) | refine Ext.trans ?_ (by assumption)))⟩
  case pos =>
  have hn := hten hz
  have hn0 := (chk_zero hz).2.1
  have HWD : Hid (∀ k, k < f.sorts.length → 1 ≤ (f.sorts.getD k TS.zero).width ∧ (f.sorts.getD k TS.zero).width ≤ 100000) := Lib.hid fun k hk => (sort_ok hz hk).2.1
  have HE : Hid (spacesR f = (spR f.sorts f.sorts.length, 0)) := Lib.hid (by unfold spacesR; rw [if_neg (by simpa using hz)])
  have HSR : Hid (sortZ (f.sorts.length - 1) f.sorts (spIx f.sorts f.sorts.length) = spR f.sorts f.sorts.length) := Lib.hid (sortZ_spR _ _ (by omega))
  have HBD : Hid (∀ z ∈ spIx f.sorts f.sorts.length, 0 ≤ z ∧ z < ((f.sorts.length - 1 + 1 : Nat) : Int)) := Lib.hid fun z h => by have := spIx_bd f.sorts _ z h; omega
  have HLN := Lib.hid (spIx_len f.sorts f.sorts.length)
  have HLK : Hid (∀ k, k ≤ f.sorts.length → (spIx f.sorts k).length ≤ 1000000) := Lib.hid fun k hk => by have := spIx_len f.sorts k; omega
  rw [hz] at cR
  clear hz hten
  generalize spacesR f = r at *
  generalize (chk f).1 = n1 at *
  obtain ⟨name, body, ss⟩ := f
  simp only [FT.val] at *
  have CR := Lib.hid cR; clear cR
  have hfn : ∀ (fn : Fn) (first cap : Array Value) (w : World), (Instr.makeFunc fn first cap).run Tryd.prog w = .ok (.func fn first cap) w := fun _ _ _ _ => rfl
  go_enter Tryd.func9, Tryd.ntmps9
  go_wp2_with (first | (go_at_call 6; refine Calls.mono (CR.out _ ?_) ?_; (exact HF.out.ext (by repeat (first | exact Ext.refl _ | assumption | refine Ext.alloc ?_ _ | refine Ext.drew ?_ | refine Ext.drewN ?_ _ | (refine Ext.setCell ?_ (by simp <;> omega) _) | refine Ext.trans ?_ (by assumption)))); rintro e w1 ⟨rfl, hb⟩; have HB1 := Lib.hid (Box.start w hb); obtain ⟨k0, k1, k2, kl⟩ := HB1.out.blk.c3; clear hb))
  go_loopw [6, 20] (fun v i wr => ∃ k : Nat, k ≤ ss.length ∧ i = .int .i64 k ∧ SpS w name body A ss.length c wr v (spIx ss k)) (fun _ i _ => ss.length - (intOf i).toNat)
  case atStart => exact ⟨0, Nat.zero_le _, rfl, ⟨HB1.out.next (by repeat (first | exact Ext.refl _ | assumption | refine Ext.alloc ?_ _ | refine Ext.drew ?_ | refine Ext.drewN ?_ _ | (refine Ext.setCell ?_ (by simp <;> omega) _) | refine Ext.trans ?_ (by assumption))), Own.nil _ _, fun _ => rfl⟩⟩
  case round =>
    obtain ⟨k, hk, rfl, hS⟩ := hrel
    have HS := Lib.hid hS
    have hbl := hS.box.blk.lt
    clear k0 k1 k2 kl
    obtain ⟨k0, k1, k2, kl⟩ := hS.box.blk.c3
    by_cases hlt : k < ss.length
    case pos =>
      obtain ⟨b, off, rfl, hbw, hcell⟩ := (HF.out.rt.ext hS.box.ext).2.2 (by show 0 < ss.length; omega)
      obtain ⟨c1, c2, c3, c4⟩ := hcell k hlt
      have hki : (k : Int) < (ss.length : Int) := by omega
      have HL := Lib.hid (HLK.out k hk)
      have HK : Hid (spIx ss (k + 1) = if (ss.getD k TS.zero).kind = 3 then spIx ss k ++ [(k : Int)] else spIx ss k) := Lib.hid rfl
      generalize hnx : spIx ss (k + 1) = nx at *
      have HNX := Lib.hid hnx
      clear hnx
      generalize hzk : spIx ss k = zk at *
      clear hcell hS hzk
      generalize ss.getD k TS.zero = s at *
      obtain ⟨sn, st, sk, sw⟩ := s
      simp only at *
      by_cases hk3 : sk = 3
      · have e3 : (sk == 3) = true := by simpa using hk3
        have HN : Hid (nx = zk ++ [(k : Int)]) := Lib.hid (by rw [HK.out, if_pos hk3])
        clear HK hk3
        go_wp2_with (first | (at_builtin; refine list_push rfl (.tmp 28) (.tmp 30) rfl (w.heap.size + 1) _ zk rfl (HS.out.own.ext (by repeat (first | exact Ext.refl _ | assumption | refine Ext.alloc ?_ _ | refine Ext.drew ?_ | refine Ext.drewN ?_ _ | (refine Ext.setCell ?_ (by simp <;> omega) _) | refine Ext.trans ?_ (by assumption)))) (wr.heap.size + 1) (k : Int) rfl (by simp) HL.out (by simp; omega) ?_; intro v' w' ho hg; have HS2 := Lib.hid (HS.out.push (by repeat (first | exact Ext.refl _ | assumption | refine Ext.alloc ?_ _ | refine Ext.drew ?_ | refine Ext.drewN ?_ _ | (refine Ext.setCell ?_ (by simp <;> omega) _) | refine Ext.trans ?_ (by assumption))) hg ho); clear ho hg))
        go_roundw
        case rel => exact ⟨k + 1, by omega, by go_num, by rw [HNX.out, HN.out]; exact HS2.out.next (by repeat (first | exact Ext.refl _ | assumption | refine Ext.alloc ?_ _ | refine Ext.drew ?_ | refine Ext.drewN ?_ _ | (refine Ext.setCell ?_ (by simp <;> omega) _) | refine Ext.trans ?_ (by assumption)))⟩
        case measure => simp [intOf]; omega
      · have e3 : (sk == 3) = false := by simpa using hk3
        have HN : Hid (nx = zk) := Lib.hid (by rw [HK.out, if_neg hk3])
        clear HK hk3
        go_wp2
        go_roundw
        case rel => exact ⟨k + 1, by omega, by go_num, by rw [HNX.out, HN.out]; exact HS.out.next (by repeat (first | exact Ext.refl _ | assumption | refine Ext.alloc ?_ _ | refine Ext.drew ?_ | refine Ext.drewN ?_ _ | (refine Ext.setCell ?_ (by simp <;> omega) _) | refine Ext.trans ?_ (by assumption)))⟩
        case measure => simp [intOf]; omega
    case neg =>
      obtain rfl : k = ss.length := by omega
      rcases Nat.eq_zero_or_pos (spIx ss ss.length).length with h0 | h0
      · have h1 := List.eq_nil_of_length_eq_zero h0
        obtain rfl := hS.none_ h1
        have HR0 : Hid (r = ([], 0)) := Lib.hid (by
          rw [HE.out, ← HSR.out, h1]
          have : (sortZ (ss.length - 1) ss []).length = 0 := sortZ_len _ _ _
          rw [List.eq_nil_of_length_eq_zero this])
        have HX := Lib.hid hS.box.ext
        clear hS h0 h1 HS
        go_wp2_with (first | (go_at_call 22; refine Calls.mono (stable_nil _ _ _) ?_; rintro e w3 ⟨rfl, q, rfl⟩))
        go_ret2
        rw [HR0.out]
        exact ⟨none, 0, rfl, SL.nil _ _, HX.out.trans (by repeat (first | exact Ext.refl _ | assumption | refine Ext.alloc ?_ _ | refine Ext.drew ?_ | refine Ext.drewN ?_ _ | (refine Ext.setCell ?_ (by simp <;> omega) _) | refine Ext.trans ?_ (by assumption)))⟩
      · obtain ⟨g, cap, hv, hbg, hgl⟩ := World.ownsRow.form hS.own h0
        subst hv
        have hc19 := HLN.out
        have CB := Lib.hid (fun W h1 h2 h3 => sortSp_any (ss.length - 1) W (w.heap.size + 1) g cap w.heap.size A c ss (spIx ss ss.length) (by omega) HBD.out (by omega) h1 h2 (by omega) (fun a ha => by
          obtain ⟨b', off', he, hb', _⟩ := HF.out.rt.2.2 (by show 0 < ss.length; omega)
          rw [he] at ha; cases ha; show b' < _; omega) h3 HWD.out)
        rw [HSR.out] at CB
        have HZ : Hid ((spR ss ss.length).length = (spIx ss ss.length).length) := Lib.hid (by rw [← HSR.out, sortZ_len])
        generalize spR ss ss.length = sr at *
        generalize hzz : spIx ss ss.length = zz at *
        clear hS hzz h0 HSR hbg hgl
        go_wp2_with (first | (go_at_call 22; refine Calls.mono (CB.out _ ?_ ?_ ?_) ?_; (exact HS.out.own.ext (by repeat (first | exact Ext.refl _ | assumption | refine Ext.alloc ?_ _ | refine Ext.drew ?_ | refine Ext.drewN ?_ _ | (refine Ext.setCell ?_ (by simp <;> omega) _) | refine Ext.trans ?_ (by assumption)))); (exact k2); (exact HF.out.rt.ext (HS.out.box.ext.trans (by repeat (first | exact Ext.refl _ | assumption | refine Ext.alloc ?_ _ | refine Ext.drew ?_ | refine Ext.drewN ?_ _ | (refine Ext.setCell ?_ (by simp <;> omega) _) | refine Ext.trans ?_ (by assumption))))); rintro e w3 ⟨rfl, hbut, hown⟩; have HBU := Lib.hid hbut; have HOW := Lib.hid hown; clear hbut hown))
        go_ret2
        rw [HE.out]
        have e9 : sr.length ≤ 1000000 := by rw [HZ.out]; omega
        have hgb : w.heap.size ≤ g := by
          have := HOW.out.base_le g rfl; omega
        have hs9 : SL w3 (w.heap.size + 1) (some ⟨g, 0, none⟩) cap sr := SL.of_own (by rw [HZ.out]; exact HOW.out) e9
        refine ⟨some ⟨g, 0, none⟩, cap, by rw [HZ.out]; rfl, (hs9.mono (Nat.le_succ _)).ext (by repeat (first | exact Ext.refl _ | assumption | refine Ext.alloc ?_ _ | refine Ext.drew ?_ | refine Ext.drewN ?_ _ | (refine Ext.setCell ?_ (by simp <;> omega) _) | refine Ext.trans ?_ (by assumption))), ?_⟩
        exact (But.ext HS.out.box.ext HBU.out fun x hx => by rw [List.mem_singleton.1 hx]; exact hgb).trans (by repeat (first | exact Ext.refl _ | assumption | refine Ext.alloc ?_ _ | refine Ext.drew ?_ | refine Ext.drewN ?_ _ | (refine Ext.setCell ?_ (by simp <;> omega) _) | refine Ext.trans ?_ (by assumption)))
end Go.Proofs.YtaopcpfgmjpliaaDoor
