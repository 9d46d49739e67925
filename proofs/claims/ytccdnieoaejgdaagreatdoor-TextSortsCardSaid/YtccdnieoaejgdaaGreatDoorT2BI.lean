/-
  The hyphens of a word rise, and stand within it. No program in sight.
  Walk: whether the dots of a pattern stand at the ends (the reference's dots).
  What the reference's readPattern and levels compute: the same as the program's patterns and levels. No program in sight.
-/
import Derived.Test.YtccdnieoaejgdaaGreatDoorT2BH
import Derived.Test.YtccdnieoaejgdaaGreatDoorT2AX
import Derived.Test.YtccdnieoaejgdaaGreatDoorT2BF
set_option linter.unusedVariables false
set_option linter.unusedSimpArgs false
set_option linter.unusedSectionVars false
namespace Go.Proofs.YtccdnieoaejgdaaGreatDoor

theorem ruledE_rule {r : RU} {s : ByteArray} (h : ruledE r s = 0) : (ruleE r).2 = 0 := by
  unfold ruledE at h
  by_cases h0 : (ruleE r).2 = 0
  · exact h0
  · rw [if_neg h0] at h; exact h
theorem UpZ.snoc {zs : List Int} {z : Int} (h : UpZ zs) (hz : ∀ x ∈ zs, x < z) : UpZ (zs ++ [z]) := by
  unfold UpZ at h ⊢
  rw [List.pairwise_append]
  exact ⟨h, List.pairwise_singleton _ _, fun x hx y hy => by rw [List.mem_singleton.1 hy]; exact hz x hx⟩
theorem mkTo_up {l : List UInt8} {m : UInt8} : ∀ {n : Nat} {x : List UInt8 × List Int}, mkTo l m n = some x → UpZ x.2 ∧ (∀ z ∈ x.2, z ≤ (x.1.length : Int)) ∧ (0 < n → l.getD (n - 1) 0 ≠ m → ∀ z ∈ x.2, z < (x.1.length : Int)) ∧ (n = 0 → x.2 = [])
  | 0, x, h => by cases h; exact ⟨List.Pairwise.nil, by simp, by simp, by simp⟩
  | n + 1, x, h => by
    rw [mkTo] at h
    cases hq : mkTo l m n with
    | none => rw [hq] at h; cases h
    | some q =>
      obtain ⟨w, ps⟩ := q
      obtain ⟨h1, h2, h3, h4⟩ := mkTo_up hq
      rw [hq] at h
      simp only at h h1 h2 h3 h4
      split at h
      · rename_i hm
        split at h
        · cases h
        · rename_i hn
          cases h
          have h5 : ∀ z ∈ ps, z < (w.length : Int) := h3 (by omega) (fun e => hn (.inr (.inr e)))
          refine ⟨h1.snoc h5, fun z hz => ?_, fun _ hne => absurd hm (by rwa [Nat.add_sub_cancel] at hne), fun h => by omega⟩
          rcases List.mem_append.1 hz with h6 | h6
          · have := h5 z h6; simp only; omega
          · rw [List.mem_singleton.1 h6]; exact Int.le_refl _
      · cases h
        refine ⟨h1, fun z hz => ?_, fun _ _ z hz => ?_, fun h => by omega⟩
        · have := h2 z hz; simp; omega
        · have := h2 z hz; simp; omega
theorem mkLook_up {lt : Bool} {m : UInt8} {l : List ByteArray} {w : List UInt8} {zs : List Int} : ∀ {n : Nat}, mkLook lt m l n w = some zs → UpZ zs
  | 0, h => by cases h
  | n + 1, h => by
    rw [mkLook] at h
    split at h
    · rename_i x hx
      split at h
      · cases h
        unfold mkOf at hx
        split at hx
        · rename_i y hy
          split at hx
          · cases hx
            unfold mkAll at hy
            split at hy
            · cases hy
            · exact (mkTo_up hy).1
          · cases hx
        · cases hx
      · exact mkLook_up h
    · exact mkLook_up h
theorem oddTo_up {f : Nat → Int} : ∀ n, UpZ (oddTo f n)
  | 0 => List.Pairwise.nil
  | n + 1 => by
    rw [oddTo]
    split
    · exact (oddTo_up n).snoc fun x hx => (oddTo_at x hx).2
    · exact oddTo_up n
theorem hyRw_up (r : RU) (w : List UInt8) : UpZ (hyRw r w) := by
  unfold hyRw
  split
  · rename_i l h; exact mkLook_up h
  · split
    · exact oddTo_up _
    · exact List.Pairwise.nil
theorem hyW_up (r : RU) (w : List UInt8) : UpZ (hyW r w) := (hyRw_up r w).filter _
theorem hyW_in {r : RU} (hr : RightU r) (w : List UInt8) : ∀ z ∈ hyW r w, 1 ≤ z ∧ z < (w.length : Int) := by
  intro z hz
  have h := (List.mem_filter.1 hz).2
  unfold hyOk at h
  rw [Bool.and_eq_true, decide_eq_true_eq, decide_eq_true_eq] at h
  have := hr.left; have := hr.right
  omega
theorem hyW_len (r : RU) (w : List UInt8) : (hyW r w).length ≤ w.length + 1 := Nat.le_trans (List.length_filter_le _ _) (hyRw_len r w)
theorem hyW_fwd {r : RU} (hr : RightU r) (w : List UInt8) : hyFwd w (hyW r w) w.length = insL w (hyW r w) :=
  (insL_fwd (hyW_up r w) fun z hz => ⟨by have := (hyW_in hr w z hz).1; omega, (hyW_in hr w z hz).2⟩).symm
end Go.Proofs.YtccdnieoaejgdaaGreatDoor
namespace Go.Proofs.YtccdnieoaejgdaaGreatDoor
open Go.RowKit Go.Lib

def dotB (l : List UInt8) (n k : Nat) : Bool := (!decide (bya l 0 = 46) || decide (k = 0)) && (!decide (bya l (l.length - 1) = 46) || decide (k + l.length = n))
set_option maxRecDepth 100000 in
set_option maxHeartbeats 4000000 in
theorem rDots_any (it s : ByteArray) (k : Nat) (w : World) (hi : 1 ≤ it.size ∧ it.size ≤ 1000000) (hs : s.size ≤ 1000000) (hk : k ≤ 1000000) :
    Calls Tryz.prog 120 #[.string it, .string s, .int .i64 (k : Int)] w (Same (.bool (dotB it.data.toList s.size k)) w) := by
  obtain ⟨n, hn⟩ : ∃ n, it.size = n + 1 := ⟨it.size - 1, by omega⟩
  have h0 : 0 < it.size := by omega
  have hnl : n < it.size := by omega
  have i0 : (0 : Int) < (it.size : Int) := by omega
  have in1 : (it.size : Int) - 1 = (n : Int) := by omega
  have in2 : (n : Int) < (it.size : Int) := by omega
  have u1 : IntKind.i64.wrap (n : Int) = (n : Int) := IntWalk.i64_in _ (by omega)
  have u2 : IntKind.i64.wrap ((k : Int) + (it.size : Int)) = (k : Int) + (it.size : Int) := IntWalk.i64_in _ (by omega)
  have HD : Hid (dotB it.data.toList s.size k = ((!decide ((it[0].toNat : Int) = 46) || decide (k = 0)) && (!decide ((it[n].toNat : Int) = 46) || decide (k + it.size = s.size)))) := Lib.hid (by
    unfold dotB
    rw [bya_byte it 0 h0, bya_byte it n hnl, show it.data.toList.length = it.size by simp, show it.size - 1 = n by omega])
  generalize dotB it.data.toList s.size k = out at *
  have u3 : IntKind.i64.wrap (it.size : Int) = (it.size : Int) := IntWalk.i64_in _ (by omega)
  clear hn hi
  generalize hx0 : (it[0].toNat : Int) = x0 at *
  generalize hxn : (it[n].toNat : Int) = xn at *
  have hnl' := hnl
  by_cases ek : k = 0
  case pos =>
    subst ek
    by_cases e0 : x0 = 46 <;> by_cases en : xn = 46 <;> by_cases el : 0 + it.size = s.size
    all_goals
      have b0 : (x0 == 46) = decide (x0 = 46) := rfl
      have b2 : (xn == 46) = decide (xn = 46) := rfl
      have b3 : ((it.size : Int) == (s.size : Int)) = decide (0 + it.size = s.size) := by rw [Bool.eq_iff_iff, beq_iff_eq, decide_eq_true_eq]; omega
      simp only [e0, en, el, decide_true, decide_false] at b0 b2 b3 HD
      clear el u2
      go_enter Tryz.func120, Tryz.ntmps120
      go_wp2
      go_ret
      exact ⟨by rw [HD.out]; rfl, rfl⟩
  case neg =>
    by_cases e0 : x0 = 46 <;> by_cases en : xn = 46 <;> by_cases el : k + it.size = s.size
    all_goals
      have b0 : (x0 == 46) = decide (x0 = 46) := rfl
      have b1 : ((k : Int) == 0) = decide (k = 0) := by rw [Bool.eq_iff_iff, beq_iff_eq, decide_eq_true_eq]; omega
      have b2 : (xn == 46) = decide (xn = 46) := rfl
      have b3 : ((k : Int) + (it.size : Int) == (s.size : Int)) = decide (k + it.size = s.size) := by rw [Bool.eq_iff_iff, beq_iff_eq, decide_eq_true_eq]; omega
      simp only [e0, ek, en, el, decide_true, decide_false] at b0 b1 b2 b3 HD
      go_enter Tryz.func120, Tryz.ntmps120
      go_wp2
      go_ret
      exact ⟨by rw [HD.out]; rfl, rfl⟩
end Go.Proofs.YtccdnieoaejgdaaGreatDoor
namespace Go.Proofs.YtccdnieoaejgdaaGreatDoor

def fN (p : Pat) : Nat := if p.fs = true then 1 else 0
def eN (p : Pat) : Nat := if p.en = true then 1 else 0
/-- A pattern's letters with its dots, and the levels with those of the dots. -/
def itemsL (p : Pat) : List UInt8 := (if p.fs = true then [46] else []) ++ p.lt ++ (if p.en = true then [46] else [])
def levsL (p : Pat) : List Int := (if p.fs = true then [0] else []) ++ p.lv ++ (if p.en = true then [0] else [])
def dotted (l : List UInt8) : List UInt8 := 46 :: (l ++ [46])
theorem itemsL_len (p : Pat) : (itemsL p).length = fN p + p.lt.length + eN p := by
  unfold itemsL fN eN; split <;> split <;> simp <;> omega
theorem levsL_len (p : Pat) : (levsL p).length = fN p + p.lv.length + eN p := by
  unfold levsL fN eN; split <;> split <;> simp <;> omega
theorem dotted_len (l : List UInt8) : (dotted l).length = l.length + 2 := by unfold dotted; simp
theorem itemsL_at (p : Pat) {j : Nat} (h : j < p.lt.length) : (itemsL p).getD (fN p + j) 0 = p.lt.getD j 0 := by
  unfold itemsL fN
  cases p.fs <;> simp [List.getD_eq_getElem?_getD, List.getElem?_append, h, Nat.add_comm 1 j]
theorem itemsL_first (p : Pat) (h : p.fs = true) : (itemsL p).getD 0 0 = 46 := by
  unfold itemsL; rw [if_pos h]; rfl
theorem itemsL_last (p : Pat) (h : p.en = true) : (itemsL p).getD (fN p + p.lt.length) 0 = 46 := by
  unfold itemsL fN; rw [if_pos h]
  cases p.fs <;> simp [List.getD_eq_getElem?_getD, Nat.add_comm 1 p.lt.length]
theorem levsL_at (p : Pat) {j : Nat} (h : j < p.lv.length) : (levsL p).getD (fN p + j) 0 = p.lv.getD j 0 := by
  unfold levsL fN
  cases p.fs <;> simp [List.getD_eq_getElem?_getD, List.getElem?_append, h, Nat.add_comm 1 j]
theorem dotted_mid (l : List UInt8) {i : Nat} (h : i < l.length) : (dotted l).getD (i + 1) 0 = l.getD i 0 := by
  unfold dotted; simp [List.getD_eq_getElem?_getD, List.getElem?_append, h]
theorem dotted_last (l : List UInt8) : (dotted l).getD (l.length + 1) 0 = 46 := by
  unfold dotted; simp [List.getD_eq_getElem?_getD]
theorem dotted_first (l : List UInt8) : (dotted l).getD 0 0 = 46 := rfl
theorem take_drop_eq {a b : List UInt8} {o : Nat} (h : o + b.length ≤ a.length) : (a.drop o).take b.length = b ↔ ∀ j, j < b.length → a.getD (o + j) 0 = b.getD j 0 := by
  constructor
  · intro he j hj
    have h1 := congrArg (fun x => x.getD j 0) he
    simp only [List.getD_eq_getElem?_getD, List.getElem?_take, List.getElem?_drop, hj, if_true] at h1
    simp only [List.getD_eq_getElem?_getD]
    exact h1
  · intro hj
    apply List.ext_getElem
    · simp; omega
    · intro i h1 h2
      have h3 := hj i h2
      simp only [List.getD_eq_getElem?_getD] at h3
      rw [List.getElem?_eq_getElem (by omega), List.getElem?_eq_getElem h2] at h3
      simpa using h3
theorem sm_ne {b : UInt8} (h : smC b.toNat = true) : b ≠ 46 := by
  rintro rfl
  have h1 := smC_iff.1 h
  have h2 : ((46 : UInt8).toNat : Int) = 46 := rfl
  omega
theorem lt_ne {p : Pat} (hp : p.Ok) {j : Nat} (h : j < p.lt.length) : p.lt.getD j 0 ≠ 46 := by
  refine sm_ne (hp.sm _ ?_)
  rw [List.getD_eq_getElem?_getD, List.getElem?_eq_getElem h]
  exact List.getElem_mem _
theorem bya_46 {l : List UInt8} {k : Nat} : bya l k = 46 ↔ l.getD k 0 = 46 := by
  unfold bya
  constructor
  · intro h; exact UInt8.toNat_inj.1 (by have h2 : (46 : UInt8).toNat = 46 := rfl; omega)
  · intro h; rw [h]; rfl
def rhit (p : Pat) (L : List UInt8) (o : Nat) : Bool := decide (((dotted L).drop o).take (itemsL p).length = itemsL p) && dotB (itemsL p) (L.length + 2) o
theorem rhit_iff {p : Pat} (hp : p.Ok) {L : List UInt8} {o : Nat} (ho : o + (itemsL p).length ≤ L.length + 2) : rhit p L o = true ↔ 1 ≤ o + fN p ∧ hit p L (o + fN p - 1) = true := by
  have hlen := itemsL_len p
  have h1 := hp.lo
  have hfi : (itemsL p).getD 0 0 = 46 ↔ p.fs = true := by
    constructor
    · intro h
      cases hf : p.fs
      · have h2 := itemsL_at p (j := 0) (by omega)
        unfold fN at h2
        rw [hf] at h2
        simp only [Bool.false_eq_true, if_false, Nat.zero_add] at h2
        exact absurd (h2.symm.trans h) (lt_ne hp (by omega))
      · rfl
    · exact itemsL_first p
  have hla : (itemsL p).getD ((itemsL p).length - 1) 0 = 46 ↔ p.en = true := by
    constructor
    · intro h
      cases hf : p.en
      · have h2 := itemsL_at p (j := p.lt.length - 1) (by omega)
        rw [hlen] at h
        unfold eN at h
        rw [hf] at h
        simp only [Bool.false_eq_true, if_false, Nat.add_zero] at h
        rw [show fN p + p.lt.length - 1 = fN p + (p.lt.length - 1) by omega] at h
        exact absurd (h2.symm.trans h) (lt_ne hp (by omega))
      · rfl
    · intro h
      have h2 := itemsL_last p h
      rw [hlen]; unfold eN; rw [if_pos h]; simpa using h2
  unfold rhit dotB hit
  simp only [Bool.and_eq_true, Bool.or_eq_true, Bool.not_eq_true', decide_eq_true_eq, decide_eq_false_iff_not, bya_46, hfi, hla]
  rw [take_drop_eq (by rw [dotted_len]; exact ho)]
  have hf1 : fN p = if p.fs = true then 1 else 0 := rfl
  have he1 : eN p = if p.en = true then 1 else 0 := rfl
  constructor
  · rintro ⟨hj, hd1, hd2⟩
    have hin : ∀ j, j < p.lt.length → 1 ≤ o + fN p + j ∧ o + fN p + j ≤ L.length ∧ L.getD (o + fN p + j - 1) 0 = p.lt.getD j 0 := by
      intro j hlt
      have h2 := hj (fN p + j) (by omega)
      rw [itemsL_at p hlt, ← Nat.add_assoc] at h2
      have h3 := lt_ne hp hlt
      have h4 : 1 ≤ o + fN p + j := by
        rcases Nat.eq_zero_or_pos (o + fN p + j) with h5 | h5
        · rw [h5, dotted_first] at h2; exact absurd h2.symm h3
        · exact h5
      have h6 : o + fN p + j ≤ L.length := by
        rcases Nat.lt_or_ge L.length (o + fN p + j) with h5 | h5
        · have h7 : o + fN p + j = L.length + 1 := by omega
          rw [h7, dotted_last] at h2; exact absurd h2.symm h3
        · exact h5
      refine ⟨h4, h6, ?_⟩
      rw [← dotted_mid L (by omega), show o + fN p + j - 1 + 1 = o + fN p + j by omega]
      exact h2
    have ha := hin 0 (by omega)
    have hb := hin (p.lt.length - 1) (by omega)
    refine ⟨by omega, ⟨⟨by omega, ?_⟩, ?_⟩, ?_⟩
    · cases hf : p.fs
      · exact .inl rfl
      · right
        rw [hf] at hd1 hf1
        simp at hd1 hf1
        omega
    · cases hf : p.en
      · exact .inl rfl
      · right
        rw [hf] at hd2 he1
        simp at hd2 he1
        omega
    · rw [take_drop_eq (by omega)]
      intro j hlt
      have h2 := (hin j hlt).2.2
      rw [← h2]; congr 1; omega
  · rintro ⟨hone, ⟨⟨hb, hf⟩, he⟩, ht⟩
    rw [take_drop_eq (by omega)] at ht
    refine ⟨?_, ?_, ?_⟩
    · intro j hlt
      rcases Nat.lt_or_ge j (fN p) with h2 | h2
      · have hfs : p.fs = true := by
          cases hfs : p.fs
          · rw [hfs] at hf1; simp at hf1; omega
          · rfl
        rw [if_pos hfs] at hf1
        have h3 : j = 0 := by omega
        subst h3
        rw [itemsL_first p hfs]
        have h4 : o = 0 := by
          rcases hf with h5 | h5
          · rw [hfs] at h5; cases h5
          · omega
        subst h4; rfl
      · obtain ⟨i, rfl⟩ : ∃ i, j = fN p + i := ⟨j - fN p, by omega⟩
        rcases Nat.lt_or_ge i p.lt.length with h3 | h3
        · rw [itemsL_at p h3, ← ht i h3, ← dotted_mid L (by omega)]
          congr 1; omega
        · have hen : p.en = true := by
            cases hen : p.en
            · rw [hen] at he1; simp at he1; omega
            · rfl
          rw [if_pos hen] at he1
          have h4 : i = p.lt.length := by omega
          subst h4
          rw [itemsL_last p hen, ← dotted_last L]
          congr 1
          rcases he with h5 | h5
          · rw [hen] at h5; cases h5
          · omega
    · rcases hf with h2 | h2
      · left; rw [h2]; simp
      · cases hfs : p.fs
        · left; simp
        · right
          rw [hfs] at hf1; simp at hf1; omega
    · rcases he with h2 | h2
      · left; rw [h2]; simp
      · cases hen : p.en
        · left; simp
        · right
          rw [hen] at he1; simp at he1; omega
/-- The ints f 0 .. f n. -/
def outF (n : Nat) (F : Nat → Int) : List Int := (List.range (n + 1)).map F
theorem outF_len (n : Nat) (F : Nat → Int) : (outF n F).length = n + 1 := by unfold outF; simp
theorem outF_at (n : Nat) (F : Nat → Int) {i : Nat} (h : i ≤ n) : (outF n F).getD i 0 = F i := by
  unfold outF; rw [List.getD_eq_getElem?_getD, List.getElem?_map, List.getElem?_range (by omega)]; rfl
theorem outF_set (n : Nat) (F : Nat → Int) {i : Nat} (v : Int) (h : i ≤ n) : (outF n F).set i v = outF n (fun k => if k = i then v else F k) := by
  apply List.ext_getElem?
  intro k
  rw [List.getElem?_set]
  unfold outF
  simp only [List.length_map, List.length_range, List.getElem?_map]
  by_cases hk : k < n + 1
  · rw [List.getElem?_range hk]
    by_cases h1 : i = k
    · subst h1; rw [if_pos rfl, if_pos hk]; simp
    · rw [if_neg h1]; simp [Ne.symm h1]
  · rw [List.getElem?_eq_none (by simp; omega)]
    by_cases h1 : i = k
    · omega
    · rw [if_neg h1]; rfl
theorem outF_congr {n : Nat} {F G : Nat → Int} (h : ∀ i, i ≤ n → F i = G i) : outF n F = outF n G := by
  unfold outF; apply List.map_congr_left
  intro i hi; exact h i (by have := List.mem_range.1 hi; omega)
/-- The levels while those of a hit at n are laid in, j of them. -/
def inJ (old : Nat → Int) (p : Pat) (n j : Nat) : Nat → Int := fun i => if n ≤ i ∧ i < n + j then max (old i) (p.lv.getD (i - n) 0) else old i
theorem inJ_zero (old : Nat → Int) (p : Pat) (n : Nat) : inJ old p n 0 = old := by
  funext i; unfold inJ; rw [if_neg (by omega)]
theorem inJ_next (old : Nat → Int) (p : Pat) (n j : Nat) : inJ old p n (j + 1) = fun i => if i = n + j then max (inJ old p n j i) (p.lv.getD j 0) else inJ old p n j i := by
  funext i; unfold inJ
  by_cases h : i = n + j
  · subst h
    rw [if_pos (by omega), if_pos rfl, if_neg (by omega), Nat.add_sub_cancel_left]
  · rw [if_neg h]
    by_cases h2 : n ≤ i ∧ i < n + j
    · rw [if_pos (by omega), if_pos h2]
    · rw [if_neg (by omega), if_neg h2]
theorem inJ_all {p : Pat} (L : List UInt8) (n : Nat) (h : hit p L n = true) : inJ (lvAt p L n) p n (p.lt.length + 1) = lvAt p L (n + 1) := by
  funext i
  rw [lvAt]
  unfold inJ
  by_cases h2 : n ≤ i ∧ i ≤ n + p.lt.length
  · rw [if_pos (by omega), if_pos ⟨h, h2⟩]
  · rw [if_neg (by omega), if_neg (fun h3 => h2 h3.2)]
theorem lvAt_skip {p : Pat} (L : List UInt8) (n : Nat) (h : hit p L n = false) : lvAt p L n = lvAt p L (n + 1) := by
  funext i; rw [lvAt, if_neg (by rw [h]; simp)]
/-- The dots of a text: a pattern's ends. -/
theorem last_eq (l : List UInt8) : (decide (1 < l.length) && decide (bya l (l.length - 1) = 46)) = backDot (cutFront l) := by
  match l with
  | [] => rfl
  | [a] =>
    unfold cutFront frontDot backDot
    by_cases h : a = 46
    · subst h; rfl
    · simp [h]
  | a :: b :: t =>
    have hb : ∀ x : List UInt8, x ≠ [] → (decide (x.getLast? = some 46)) = decide (bya x (x.length - 1) = 46) := by
      intro x hx
      rw [decide_eq_decide, bya_46, List.getLast?_eq_getElem?, List.getD_eq_getElem?_getD, List.getElem?_eq_getElem (by have := List.length_pos_iff.2 hx; omega)]
      simp
    rw [decide_eq_true (by simp), Bool.true_and]
    unfold backDot cutFront
    split
    · rw [← hb _ (by simp)]
      simp [List.getLast?_cons_cons]
    · rw [hb _ (by simp)]
theorem first_eq (l : List UInt8) : (decide (0 < l.length) && decide (bya l 0 = 46)) = frontDot l := by
  match l with
  | [] => rfl
  | a :: t =>
    unfold frontDot
    rw [decide_eq_true (by simp), Bool.true_and, decide_eq_decide, bya_46]
    simp
end Go.Proofs.YtccdnieoaejgdaaGreatDoor
