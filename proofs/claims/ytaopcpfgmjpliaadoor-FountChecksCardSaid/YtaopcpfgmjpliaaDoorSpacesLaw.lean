/-
  Plain law: the spaces of a fount by their widths: the insertion of one after the other leaves what the stable sort leaves.
-/
import Derived.Test.YtaopcpfgmjpliaaDoorStable
namespace Go.Proofs.YtaopcpfgmjpliaaDoor
open Go.RowKit Go.Shelf Go.Sort Go.Proofs

def widZ (ss : List TS) (z : Int) : Int := (ss.getD z.toNat TS.zero).width
def LexW (ss : List TS) (a b : Int) : Prop := widZ ss a < widZ ss b ∨ (widZ ss a = widZ ss b ∧ a < b)
/-- The numbers of the spaces among the first n sorts. -/
def spIx (ss : List TS) : Nat → List Int
  | 0 => []
  | n + 1 => if (ss.getD n TS.zero).kind = 3 then spIx ss n ++ [(n : Int)] else spIx ss n
/-- The place of x behind the first k, from the end. -/
def atTo (ss : List TS) (out : List Int) (x : Int) : Nat → Nat
  | 0 => 0
  | k + 1 => if widZ ss x < widZ ss (out.getD k 0) then atTo ss out x k else k + 1
def insW (ss : List TS) (out : List Int) (x : Int) : List Int := out.take (atTo ss out x out.length) ++ [x] ++ out.drop (atTo ss out x out.length)
def spR (ss : List TS) : Nat → List Int
  | 0 => []
  | n + 1 => if (ss.getD n TS.zero).kind = 3 then insW ss (spR ss n) n else spR ss n
theorem atTo_le (ss : List TS) (out : List Int) (x : Int) : ∀ k, atTo ss out x k ≤ k
  | 0 => Nat.le_refl _
  | k + 1 => by
    unfold atTo
    split
    · have := atTo_le ss out x k; omega
    · omega
theorem atTo_after (ss : List TS) (out : List Int) (x : Int) : ∀ k j, atTo ss out x k ≤ j → j < k → widZ ss x < widZ ss (out.getD j 0)
  | 0, _, _, h => absurd h (by omega)
  | k + 1, j, h1, h2 => by
    unfold atTo at h1
    split at h1
    case isTrue h =>
      by_cases e : j = k
      · subst e; exact h
      · exact atTo_after ss out x k j h1 (by omega)
    case isFalse h => omega
theorem atTo_before (ss : List TS) (out : List Int) (x : Int) : ∀ k, 0 < atTo ss out x k → ¬ widZ ss x < widZ ss (out.getD (atTo ss out x k - 1) 0)
  | 0, h => absurd h (by simp [atTo])
  | k + 1, h => by
    unfold atTo at h ⊢
    split at h
    case isTrue hh => rw [if_pos hh]; exact atTo_before ss out x k h
    case isFalse hh => rw [if_neg hh]; exact hh
theorem insW_perm (ss : List TS) (out : List Int) (x : Int) : (insW ss out x).Perm (out ++ [x]) := by
  unfold insW
  generalize atTo ss out x out.length = a
  have h : (out.take a ++ [x] ++ out.drop a).Perm (out.take a ++ out.drop a ++ [x]) := by
    rw [List.append_assoc, List.append_assoc]
    exact List.Perm.append_left _ List.perm_append_comm
  rwa [List.take_append_drop] at h
theorem insW_len (ss : List TS) (out : List Int) (x : Int) : (insW ss out x).length = out.length + 1 := by
  rw [(insW_perm ss out x).length_eq]; simp
theorem lexW_trans {ss : List TS} {a b c : Int} (h : LexW ss a b) (k : LexW ss b c) : LexW ss a c := by
  unfold LexW at *; omega
theorem getD_mem' {l : List Int} {k : Nat} (h : k < l.length) : l.getD k 0 ∈ l := by
  rw [List.getD_eq_getElem?_getD, List.getElem?_eq_getElem h]; exact List.getElem_mem h
theorem insW_lex {ss : List TS} {out : List Int} {x : Int} (hp : out.Pairwise (LexW ss)) (hx : ∀ z ∈ out, z < x) : (insW ss out x).Pairwise (LexW ss) := by
  have hle := atTo_le ss out x out.length
  have h1 : ∀ z ∈ out.take (atTo ss out x out.length), LexW ss z x := by
    intro z hz
    obtain ⟨j, hj, rfl⟩ := List.getElem_of_mem hz
    have hj' : j < atTo ss out x out.length := by rw [List.length_take] at hj; omega
    have hb := atTo_before ss out x out.length (by omega)
    generalize atTo ss out x out.length = a at *
    have hjo : j < out.length := by omega
    have hzj : (out.take a)[j] = out[j] := List.getElem_take
    rw [hzj]
    have hlast : ¬ widZ ss x < widZ ss out[a - 1] := by
      rw [List.getD_eq_getElem?_getD, List.getElem?_eq_getElem (by omega)] at hb; exact hb
    have hm : out[j] < x := hx _ (List.getElem_mem hjo)
    by_cases e : j = a - 1
    · subst e; unfold LexW; omega
    · have := List.pairwise_iff_getElem.1 hp j (a - 1) hjo (by omega) (by omega)
      unfold LexW at this ⊢; omega
  have h2 : ∀ z ∈ out.drop (atTo ss out x out.length), LexW ss x z := by
    intro z hz
    obtain ⟨j, hj, rfl⟩ := List.getElem_of_mem hz
    rw [List.length_drop] at hj
    have ha := atTo_after ss out x out.length (atTo ss out x out.length + j) (by omega) (by omega)
    rw [List.getElem_drop]
    rw [List.getD_eq_getElem?_getD, List.getElem?_eq_getElem (by omega)] at ha
    exact .inl ha
  unfold insW
  have hsplit : (out.take (atTo ss out x out.length) ++ out.drop (atTo ss out x out.length)).Pairwise (LexW ss) := by rw [List.take_append_drop]; exact hp
  generalize atTo ss out x out.length = a at *
  obtain ⟨p1, p2, p3⟩ := List.pairwise_append.1 hsplit
  rw [List.append_assoc]
  refine List.pairwise_append.2 ⟨p1, List.pairwise_append.2 ⟨List.pairwise_singleton _ _, p2, fun u hu v hv => ?_⟩, fun u hu v hv => ?_⟩
  · rw [List.mem_singleton.1 hu]; exact h2 v hv
  · rcases List.mem_append.1 hv with h | h
    · rw [List.mem_singleton.1 h]; exact h1 u hu
    · exact p3 u hu v h
theorem spIx_bd (ss : List TS) : ∀ n, ∀ z ∈ spIx ss n, 0 ≤ z ∧ z < n
  | 0, z, h => by cases h
  | n + 1, z, h => by
    unfold spIx at h
    split at h
    · rcases List.mem_append.1 h with h | h
      · have := spIx_bd ss n z h; omega
      · rw [List.mem_singleton.1 h]; omega
    · have := spIx_bd ss n z h; omega
theorem spIx_rise (ss : List TS) : ∀ n, (spIx ss n).Pairwise (· < ·)
  | 0 => List.Pairwise.nil
  | n + 1 => by
    unfold spIx
    split
    · refine List.pairwise_append.2 ⟨spIx_rise ss n, List.pairwise_singleton _ _, fun u hu v hv => ?_⟩
      rw [List.mem_singleton.1 hv]; exact (spIx_bd ss n u hu).2
    · exact spIx_rise ss n
theorem spIx_len (ss : List TS) : ∀ n, (spIx ss n).length ≤ n
  | 0 => Nat.le_refl _
  | n + 1 => by
    unfold spIx
    split
    · rw [List.length_append]; have := spIx_len ss n; simp; omega
    · have := spIx_len ss n; omega
theorem spR_perm (ss : List TS) : ∀ n, (spR ss n).Perm (spIx ss n)
  | 0 => List.Perm.refl _
  | n + 1 => by
    unfold spR spIx
    split
    · exact (insW_perm ss _ _).trans ((spR_perm ss n).append_right _)
    · exact spR_perm ss n
theorem spR_bd (ss : List TS) (n : Nat) : ∀ z ∈ spR ss n, 0 ≤ z ∧ z < n := fun z h => spIx_bd ss n z ((spR_perm ss n).mem_iff.1 h)
theorem spR_len (ss : List TS) (n : Nat) : (spR ss n).length ≤ n := by rw [(spR_perm ss n).length_eq]; exact spIx_len ss n
theorem spR_lex (ss : List TS) : ∀ n, (spR ss n).Pairwise (LexW ss)
  | 0 => List.Pairwise.nil
  | n + 1 => by
    unfold spR
    split
    · exact insW_lex (spR_lex ss n) fun z hz => (spR_bd ss n z hz).2
    · exact spR_lex ss n
/-- Two orders by width, then by number, of the same numbers are one. -/
theorem lexW_uniq {ss : List TS} {a b : List Int} (hp : a.Perm b) (ha : a.Pairwise (LexW ss)) (hb : b.Pairwise (LexW ss)) : a = b :=
  List.Perm.eq_of_pairwise (le := LexW ss) (fun x y _ _ h1 h2 => by unfold LexW at *; omega) ha hb hp

/-- Numbers below m + 1 as an array. -/
def finA (m : Nat) (zs : List Int) : Array (Fin (m + 1)) := (zs.map fun z => Fin.ofNat (m + 1) z.toNat).toArray
theorem finA_size (m : Nat) (zs : List Int) : (finA m zs).size = zs.length := by simp [finA]
theorem finA_at (m : Nat) (zs : List Int) (h : ∀ z ∈ zs, 0 ≤ z ∧ z < ((m + 1 : Nat) : Int)) (k : Nat) (hk : k < zs.length) : (((finA m zs)[k]!).val : Int) = zs.getD k 0 := by
  rw [getElem!_pos _ k (by rw [finA_size]; exact hk)]
  have hm := h _ (getD_mem' hk)
  rw [List.getD_eq_getElem?_getD, List.getElem?_eq_getElem hk] at hm ⊢
  simp only [finA, List.getElem_toArray, List.getElem_map, Option.getD_some, Fin.ofNat] at hm ⊢
  rw [Nat.mod_eq_of_lt (by omega)]; omega
theorem finA_back (m : Nat) (zs : List Int) (h : ∀ z ∈ zs, 0 ≤ z ∧ z < ((m + 1 : Nat) : Int)) : (finA m zs).toList.map (fun x : Fin (m + 1) => (x.val : Int)) = zs := by
  apply List.ext_getElem (by simp [finA])
  intro i h1 h2
  have := finA_at m zs h i h2
  rw [getElem!_pos _ i (by rw [finA_size]; exact h2), List.getD_eq_getElem?_getD, List.getElem?_eq_getElem h2] at this
  simpa using this
def cfW (m : Nat) (ss : List TS) (x y : Fin (m + 1)) : Int := (ss.getD x.val TS.zero).width - (ss.getD y.val TS.zero).width
/-- What the stable sort leaves of zs. -/
def sortZ (m : Nat) (ss : List TS) (zs : List Int) : List Int := (Sort.insertionSort (ltOf (cfW m ss)) (finA m zs) 0 (finA m zs).size).toList.map fun x => (x.val : Int)
theorem sortZ_spec (m : Nat) (ss : List TS) (zs : List Int) (h : ∀ z ∈ zs, 0 ≤ z ∧ z < ((m + 1 : Nat) : Int)) (hr : zs.Pairwise (· < ·)) : (sortZ m ss zs).Perm zs ∧ (sortZ m ss zs).Pairwise (LexW ss) := by
  have hlt : ltOf (cfW m ss) = byKey (fun x => (ss.getD x.val TS.zero).width) := by
    funext x y
    unfold ltOf byKey cfW
    refine decide_eq_decide.2 ?_
    show ((ss.getD x.val TS.zero).width - (ss.getD y.val TS.zero).width < 0) ↔ ((ss.getD x.val TS.zero).width < (ss.getD y.val TS.zero).width)
    omega
  have hsz := finA_size m zs
  obtain ⟨h1, h2, h3⟩ := sort_spec (fun x : Fin (m + 1) => (ss.getD x.val TS.zero).width) (finA m zs) (fun p q hpq hq => by
    rw [hsz] at hq
    have e1 := finA_at m zs h p (by omega)
    have e2 := finA_at m zs h q hq
    have := List.pairwise_iff_getElem.1 hr p q (by omega) hq hpq
    rw [List.getD_eq_getElem?_getD, List.getElem?_eq_getElem (by omega)] at e1 e2
    simp only [Option.getD_some] at e1 e2
    omega)
  rw [← hlt] at h1 h2 h3
  unfold sortZ
  generalize Sort.insertionSort (ltOf (cfW m ss)) (finA m zs) 0 (finA m zs).size = e at *
  refine ⟨?_, List.pairwise_iff_getElem.2 fun i j hi hj hij => ?_⟩
  · have := h2.map (fun x : Fin (m + 1) => (x.val : Int))
    rwa [finA_back m zs h] at this
  · rw [List.length_map, Array.length_toList] at hi hj
    have := h3 i j hij (by omega)
    rw [getElem!_pos e i hi, getElem!_pos e j hj] at this
    simp only [List.getElem_map, Array.getElem_toList]
    unfold LexW widZ
    rw [Int.toNat_natCast, Int.toNat_natCast]
    omega
/-- The stable sort of the spaces is the insertion of one after the other. -/
theorem sortZ_spR (m : Nat) (ss : List TS) (hm : ss.length = m + 1) : sortZ m ss (spIx ss ss.length) = spR ss ss.length := by
  obtain ⟨h1, h2⟩ := sortZ_spec m ss (spIx ss ss.length) (fun z hz => by have := spIx_bd ss _ z hz; omega) (spIx_rise ss _)
  exact lexW_uniq (h1.trans (spR_perm ss _).symm) h2 (spR_lex ss _)
theorem sortZ_len (m : Nat) (ss : List TS) (zs : List Int) : (sortZ m ss zs).length = zs.length := by
  unfold sortZ; rw [List.length_map, Array.length_toList, insertionSort_size, finA_size]
end Go.Proofs.YtaopcpfgmjpliaaDoor
