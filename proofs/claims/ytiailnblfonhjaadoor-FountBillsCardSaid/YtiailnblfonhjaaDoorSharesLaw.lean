/-
  Plain law: what a bill gives each sort: its share, or one more; by what remains.
-/
import Derived.Test.YtiailnblfonhjaaDoorStable
import Derived.Test.YtiailnblfonhjaaDoorBillLaw
namespace Go.Proofs.YtiailnblfonhjaaDoor
open Go.RowKit

theorem sumTo_app1 (g : Nat → Int) : ∀ b, sumTo g (b + 1) = g 0 + sumTo (fun i => g (i + 1)) b
  | 0 => by simp [sumTo]
  | b + 1 => by rw [sumTo, sumTo_app1 g b, sumTo]; omega
theorem sumTo_list (g : Int → Int) : ∀ l : List Int, sumTo (fun t => g (l.getD t 0)) l.length = (l.map g).foldr (· + ·) 0
  | [] => rfl
  | x :: r => by
    rw [List.length_cons, sumTo_app1, List.map_cons, List.foldr_cons, ← sumTo_list g r]
    rfl
theorem perm_sum {l l' : List Int} (h : l.Perm l') : l.foldr (· + ·) 0 = l'.foldr (· + ·) 0 := by
  induction h with
  | nil => rfl
  | cons x _ ih => simp only [List.foldr_cons, ih]
  | swap x y l => simp only [List.foldr_cons]; omega
  | trans _ _ ih1 ih2 => exact ih1.trans ih2
section
variable {n : Nat} {key : Nat → Int} {ord : List Int} (ho : Ord n key ord)
include ho
theorem Ord.len : ord.length = n := by rw [ho.perm.length_eq, ids_len]
theorem Ord.sum (g : Nat → Int) : sumTo (fun t => g (ord.getD t 0).toNat) n = sumTo g n := by
  have h1 := sumTo_list (fun z => g z.toNat) ord
  rw [ho.len] at h1
  rw [h1, perm_sum (ho.perm.map (fun z => g z.toNat)), ← sumTo_list, ids_len]
  exact sumTo_congr _ _ _ fun k hk => by rw [ids_at n k hk, Int.toNat_natCast]
theorem Ord.inj {s t : Nat} (hs : s < n) (ht : t < n) (h : ord.getD s 0 = ord.getD t 0) : s = t := by
  rcases Nat.lt_trichotomy s t with h1 | h1 | h1
  · have := ho.asc s t h1 ht; rw [h] at this; omega
  · exact h1
  · have := ho.asc t s h1 hs; rw [h] at this; omega
/-- What is bumped. -/
theorem Ord.bump {outs : List Int} (hl : outs.length = n) (j : Nat) (hj : j < n) : ∀ t, t ≤ n → (bumpTo ord outs t).getD j 0 = outs.getD j 0 + if ∃ s, s < t ∧ ord.getD s 0 = (j : Int) then 1 else 0
  | 0, _ => by rw [bumpTo, if_neg (by rintro ⟨s, hs, _⟩; omega)]; omega
  | t + 1, ht => by
    have ih := Ord.bump hl j hj t (by omega)
    obtain ⟨i, hi, he⟩ := ho.ix t (by omega)
    rw [bumpTo, he, Int.toNat_natCast, getD_set (by rw [bump_len, hl]; exact hi)]
    by_cases hij : j = i
    · subst hij
      rw [if_pos rfl, ih, if_neg (by
        rintro ⟨s, hs, hse⟩
        have := ho.inj (s := s) (t := t) (by omega) (by omega) (by rw [hse, he])
        omega), if_pos ⟨t, by omega, he⟩]; omega
    · rw [if_neg hij, ih]
      congr 1
      by_cases hx : ∃ s, s < t ∧ ord.getD s 0 = (j : Int)
      · obtain ⟨s, hs, hse⟩ := hx
        rw [if_pos ⟨s, hs, hse⟩, if_pos ⟨s, by omega, hse⟩]
      · rw [if_neg hx, if_neg]
        rintro ⟨s, hs, hse⟩
        by_cases hst : s = t
        · subst hst; rw [he] at hse; omega
        · exact hx ⟨s, by omega, hse⟩
end
def remB (total all : Int) (ns : List Int) (k : Nat) : Int := total * ns.getD k 0 % all
/-- The order in which a bill's sorts are bumped. -/
theorem bill_ord (total all : Int) (ns : List Int) (hn : 1 ≤ ns.length) : Ord ns.length (fun k => - remB total all ns k) (ordL (ns.length - 1) (cfB (ns.length - 1) total all ns)) := by
  have := ordL_ord (ns.length - 1) (cfB (ns.length - 1) total all ns) (fun k => - remB total all ns k) (fun x y => by unfold cfB diffB remB; omega)
  rwa [show ns.length - 1 + 1 = ns.length by omega] at this
/-- Whether a sort gets one more. -/
def more (total : Int) (ns : List Int) (j : Nat) : Prop :=
  ∃ s, s < (restB total (sumZ ns ns.length) ns).toNat ∧ (ordL (ns.length - 1) (cfB (ns.length - 1) total (sumZ ns ns.length) ns)).getD s 0 = (j : Int)
section
variable {total : Int} {ns : List Int} (hn : 1 ≤ ns.length) (ha : 1 ≤ sumZ ns ns.length) (ht : 0 ≤ total)
include hn ha
theorem bill_at (j : Nat) (hj : j < ns.length) [Decidable (more total ns j)] : (billL total ns).getD j 0 = shareB total (sumZ ns ns.length) ns j + if more total ns j then 1 else 0 := by
  obtain ⟨r0, r1⟩ := rest_bd (total := total) (ns := ns) rfl ha
  have ho := bill_ord total (sumZ ns ns.length) ns hn
  unfold billL
  rw [ho.bump (baseB_len _ _ _) j hj _ (by omega), baseB_at _ _ _ _ hj]
  congr 1
  by_cases h : more total ns j
  · rw [if_pos h]; unfold more at h; rw [if_pos h]
  · rw [if_neg h]; unfold more at h; rw [if_neg h]
/-- Who gets one more has a rest. -/
theorem more_pos (j : Nat) (hm : more total ns j) : 1 ≤ remB total (sumZ ns ns.length) ns j := by
  obtain ⟨s, hs, he⟩ := hm
  obtain ⟨r0, r1⟩ := rest_bd (total := total) (ns := ns) rfl ha
  have ho := bill_ord total (sumZ ns ns.length) ns hn
  have hre := rest_eq (total := total) (ns := ns) (all := sumZ ns ns.length) rfl
  generalize ordL (ns.length - 1) (cfB (ns.length - 1) total (sumZ ns ns.length) ns) = ord at *
  have hsum := ho.sum (fun k => remB total (sumZ ns ns.length) ns k)
  generalize hal : sumZ ns ns.length = al at *
  generalize restB total al ns = R at *
  have hb : ∀ k, 0 ≤ remB total al ns k ∧ remB total al ns k ≤ al - 1 := fun k => by
    unfold remB
    have h1 := Int.emod_nonneg (total * ns.getD k 0) (show al ≠ 0 by omega)
    have h2 := Int.emod_lt_of_pos (total * ns.getD k 0) (show 0 < al by omega)
    omega
  rcases Int.lt_or_le 0 (remB total al ns j) with h | h
  · omega
  · exfalso
    have h0 : remB total al ns j = 0 := by have := hb j; omega
    have hzero : ∀ t, s ≤ t → t < ns.length → remB total al ns (ord.getD t 0).toNat = 0 := fun t hst htn => by
      rcases Nat.eq_or_lt_of_le hst with h1 | h1
      · subst h1; rw [he, Int.toNat_natCast]; exact h0
      · have := ho.asc s t h1 htn
        rw [he, Int.toNat_natCast, h0] at this
        have := hb (ord.getD t 0).toNat
        omega
    have hsn : s ≤ ns.length := by omega
    obtain ⟨d, hd⟩ : ∃ d, ns.length = s + d := ⟨ns.length - s, by omega⟩
    have hsplit : sumTo (fun t => remB total al ns (ord.getD t 0).toNat) ns.length = sumTo (fun t => remB total al ns (ord.getD t 0).toNat) s := by
      rw [hd]
      have key : ∀ d, s + d ≤ ns.length → sumTo (fun t => remB total al ns (ord.getD t 0).toNat) (s + d) = sumTo (fun t => remB total al ns (ord.getD t 0).toNat) s := by
        intro d
        induction d with
        | zero => intro _; rfl
        | succ d ih => intro h; rw [← Nat.add_assoc, sumTo, ih (by omega), hzero (s + d) (by omega) (by omega)]; omega
      exact key d (by omega)
    have hbd := (sumTo_bd (fun t => remB total al ns (ord.getD t 0).toNat) (al - 1) s (fun k _ => hb _)).2
    have h3 : al * R ≤ (s : Int) * (al - 1) := by
      have : al * R = sumTo (fun k => remB total al ns k) ns.length := hre
      rw [this, ← hsum, hsplit]; exact hbd
    have h4 : (s : Int) * (al - 1) ≤ (R - 1) * (al - 1) := Int.mul_le_mul_of_nonneg_right (by omega) (by omega)
    have h5 : (R - 1) * (al - 1) = al * R - R - al + 1 := by rw [Int.sub_mul, Int.mul_sub, Int.mul_comm R al]; omega
    omega
/-- Each sort gets its share within one. -/
theorem bill_near (j : Nat) (hj : j < ns.length) : max ((billL total ns).getD j 0 * sumZ ns ns.length - total * ns.getD j 0) (-((billL total ns).getD j 0 * sumZ ns ns.length - total * ns.getD j 0)) < sumZ ns ns.length := by
  classical
  rw [bill_at hn ha j hj]
  have hmp := more_pos hn ha (total := total) j
  generalize sumZ ns ns.length = al at *
  have h1 := Int.emod_nonneg (total * ns.getD j 0) (show al ≠ 0 by omega)
  have h2 := Int.emod_lt_of_pos (total * ns.getD j 0) (show 0 < al by omega)
  have h3 := Int.mul_ediv_add_emod (total * ns.getD j 0) al
  unfold remB at hmp
  unfold shareB
  by_cases hm : more total ns j
  · have h4 := hmp hm
    rw [if_pos hm, Int.add_mul, Int.mul_comm (total * ns.getD j 0 / al) al]
    omega
  · rw [if_neg hm, Int.add_zero, Int.mul_comm (total * ns.getD j 0 / al) al]
    omega
include ht
/-- A sort that is needed more never gets less. -/
theorem bill_mono (k i : Nat) (hk : k < ns.length) (hi : i < ns.length) (h : ns.getD k 0 < ns.getD i 0) : (billL total ns).getD k 0 ≤ (billL total ns).getD i 0 := by
  classical
  rw [bill_at hn ha k hk, bill_at hn ha i hi]
  have hmp := more_pos hn ha (total := total) k
  have ho := bill_ord total (sumZ ns ns.length) ns hn
  obtain ⟨r0, r1⟩ := rest_bd (total := total) (ns := ns) rfl ha
  have hmono : shareB total (sumZ ns ns.length) ns k ≤ shareB total (sumZ ns ns.length) ns i := Int.ediv_le_ediv (by omega) (Int.mul_le_mul_of_nonneg_left (by omega) ht)
  by_cases hm : more total ns k
  · rw [if_pos hm]
    by_cases hi2 : more total ns i
    · rw [if_pos hi2]; omega
    · rw [if_neg hi2]
      rcases Int.lt_or_le (shareB total (sumZ ns ns.length) ns k) (shareB total (sumZ ns ns.length) ns i) with hlt | hge
      · omega
      · exfalso
        have hp := hmp hm
        have hle : total * ns.getD k 0 ≤ total * ns.getD i 0 := Int.mul_le_mul_of_nonneg_left (by omega) ht
        have e1 := Int.mul_ediv_add_emod (total * ns.getD k 0) (sumZ ns ns.length)
        have e2 := Int.mul_ediv_add_emod (total * ns.getD i 0) (sumZ ns ns.length)
        have hs : total * ns.getD k 0 / sumZ ns ns.length = total * ns.getD i 0 / sumZ ns ns.length := by unfold shareB at hmono hge; omega
        rw [hs] at e1
        have ht1 : 1 ≤ total := by
          rcases Int.lt_or_le 0 total with h1 | h1
          · omega
          · have h0 : total = 0 := by omega
            unfold remB at hp; rw [h0] at hp; simp at hp
        have hlt : total * ns.getD k 0 < total * ns.getD i 0 := Int.mul_lt_mul_of_pos_left h (by omega)
        have hrem : remB total (sumZ ns ns.length) ns k < remB total (sumZ ns ns.length) ns i := by unfold remB; omega
        obtain ⟨s, hs1, hs2⟩ := hm
        obtain ⟨t, ht2, ht3⟩ := ho.all i hi
        apply hi2
        refine ⟨t, ?_, ht3⟩
        rcases Nat.lt_trichotomy s t with h1 | h1 | h1
        · have := ho.asc s t h1 ht2
          rw [hs2, ht3, Int.toNat_natCast, Int.toNat_natCast] at this
          omega
        · subst h1
          have : (k : Int) = (i : Int) := by rw [← hs2, ht3]
          have hki : k = i := by omega
          rw [hki] at h; omega
        · omega
  · rw [if_neg hm]
    split <;> omega
end
end Go.Proofs.YtiailnblfonhjaaDoor
