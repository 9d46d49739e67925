/-
  Walks: CheckBook of a book without plates and cancels, Signatures.
-/
import Derived.Test.YtniiahddpdiocaaFoldFlat
namespace Go.Proofs.Ytniiahddpdiocaa
open Go.RowKit

def bkV (G P : Nat) : Value := .agg #[.int .i64 (G : Int), .int .i64 (P : Int), .slice none 0 0, .slice none 0 0]
set_option maxRecDepth 100000 in
theorem checkBook_any (G Q : Nat) (w : World) (h1 : 1 ≤ G) (h2 : G ≤ 4000) (h3 : 2 ≤ Q) (h4 : Q ≤ 64) (h5 : Q % 2 = 0) :
    Calls Try.prog 33 #[.agg #[.int .i64 (G : Int), .int .i64 (Q : Int), .slice none 0 0, .slice none 0 0]] w (Ret (.tuple #[.int .i64 0, .int .i64 0]) w) := by
  have hr : (Q : Int).tmod 2 = 0 := by rw [Int.tmod_eq_emod_of_nonneg (by omega)]; omega
  go_enter Try.func33, Try.ntmps33
  go_wp2_with (first | (go_at_call 60; refine Calls.mono (iWithin_yes _ _ _ _ ?_) ?_; (omega); rintro e w1 ⟨rfl, rfl⟩) | (go_at_call 60; refine Calls.mono (iWithin_no _ _ _ _ ?_) ?_; (omega); rintro e w1 ⟨rfl, rfl⟩))
  have HX : Hid (Ext w (w.alloc (.cells #[.int .i64 (G : Int), .int .i64 (Q : Int), .slice none 0 0, .slice none 0 0] 39))) := Lib.hid (by repeat (first | exact Ext.refl _ | assumption | refine Ext.alloc ?_ _ | refine Ext.drew ?_ | refine Ext.drewN ?_ _ | (refine Ext.setCell ?_ (by simp <;> omega) _) | refine Ext.trans ?_ (by assumption)))
  have HB := Lib.hid (Blk.new w 39 #[.int .i64 (G : Int), .int .i64 (Q : Int), .slice none 0 0, .slice none 0 0])
  generalize (w.alloc (.cells #[.int .i64 (G : Int), .int .i64 (Q : Int), .slice none 0 0, .slice none 0 0] 39)) = W at *
  obtain ⟨k0, k1, k2, k3, kl⟩ := HB.out.c4
  go_loopw [32, 4, 5] (fun v32 _ _ wr => v32 = .int .i64 0 ∧ W = wr) (fun _ _ _ _ => 0)
  case atStart => exact ⟨rfl, rfl⟩
  case round =>
    obtain ⟨rfl, rfl⟩ := hrel
    go_wp2
    go_loopw [66, 6, 7] (fun v66 _ _ wr => v66 = .int .i64 0 ∧ W = wr) (fun _ _ _ _ => 0)
    case atStart => exact ⟨rfl, rfl⟩
    case round =>
      obtain ⟨rfl, rfl⟩ := hrel
      go_wp2
      refine bodyPost_ret (v := .tuple #[.int .i64 0, .int .i64 0]) (by simp [results, Try.results33, go_sem]) rfl ⟨rfl, HX.out⟩
/-- The cells of the first n signatures. -/
def sgCells (P G : Nat) : Nat → List Value
  | 0 => []
  | n + 1 => sgCells P G n ++ [.int .i64 ((1 + n * P : Nat) : Int), .int .i64 ((min ((n + 1) * P) G : Nat) : Int)]
theorem sgCells_len (P G : Nat) : ∀ n, (sgCells P G n).length = n * 2
  | 0 => rfl
  | n + 1 => by rw [sgCells, List.length_append, sgCells_len P G n]; simp; omega
theorem sgCells_at (P G : Nat) : ∀ (n k : Nat), k < n → (sgCells P G n)[k * 2]? = some (.int .i64 ((1 + k * P : Nat) : Int)) ∧ (sgCells P G n)[k * 2 + 1]? = some (.int .i64 ((min ((k + 1) * P) G : Nat) : Int))
  | n + 1, k, h => by
    have hl := sgCells_len P G n
    rw [sgCells]
    by_cases hk : k < n
    · obtain ⟨h0, h1⟩ := sgCells_at P G n k hk
      exact ⟨by rw [List.getElem?_append_left (by omega)]; exact h0, by rw [List.getElem?_append_left (by omega)]; exact h1⟩
    · obtain rfl : k = n := by omega
      rw [List.getElem?_append_right (by omega), List.getElem?_append_right (by omega), hl]
      simp
theorem rangeElt : Elt 34 45 2 16 (.agg #[.int .i64 0, .int .i64 0]) := ⟨Try.underlying34, by kernel_rfl, rfl, by decide, by decide⟩
/-- The answer of Signatures. -/
def RetSg (P G N : Nat) (w : World) (e : Ending) (w' : World) : Prop := ∃ v, e = .returned (.tuple #[v, .int .i64 ((N * P : Nat) - (G : Nat) : Int), .int .i64 0]) ∧ w'.ownsRow w.heap.size 45 2 v N (sgCells P G N) ∧ Ext w w'
set_option maxRecDepth 100000 in
set_option maxHeartbeats 4000000 in
theorem signatures_any (G Q N : Nat) (w : World) (h1 : 1 ≤ G) (h2 : G ≤ 4000) (h3 : 2 ≤ Q) (h4 : Q ≤ 64) (h5 : Q % 2 = 0) (hN : G ≤ N * Q) (hN2 : N * Q < G + Q) :
    Calls Try.prog 9 #[.agg #[.int .i64 (G : Int), .int .i64 (Q : Int), .slice none 0 0, .slice none 0 0]] w (RetSg Q G N w) := by
  have CB := Lib.hid fun W => checkBook_any G Q W h1 h2 h3 h4 h5
  have HX0 : Hid (Ext w (w.alloc (.cells #[.int .i64 (G : Int), .int .i64 (Q : Int), .slice none 0 0, .slice none 0 0] 39))) := Lib.hid (by repeat (first | exact Ext.refl _ | assumption | refine Ext.alloc ?_ _ | refine Ext.drew ?_ | refine Ext.drewN ?_ _ | (refine Ext.setCell ?_ (by simp <;> omega) _) | refine Ext.trans ?_ (by assumption)))
  have HB0 := Lib.hid (Blk.new w 39 #[.int .i64 (G : Int), .int .i64 (Q : Int), .slice none 0 0, .slice none 0 0])
  go_enter Try.func9, Try.ntmps9
  go_wp2_with (first | (go_at_call 33; refine Calls.mono (CB.out _) ?_; rintro e w1 ⟨rfl, hx⟩; have HX := Lib.hid hx; clear hx))
  generalize (w.alloc (.cells #[.int .i64 (G : Int), .int .i64 (Q : Int), .slice none 0 0, .slice none 0 0] 39)) = W0 at *
  obtain ⟨gb, hgb⟩ : ∃ gb, w.heap.size = gb := ⟨_, rfl⟩
  rw [hgb] at HB0 ⊢
  have HGB := Lib.hid hgb
  have HN := Lib.hid hN; have HN2 := Lib.hid hN2
  clear hgb hN hN2
  go_loopw [7, 8] (fun v7 v8 wr => ∃ i x : Nat, v8 = .int .i64 (x : Int) ∧ x ≤ G + Q ∧ Hid (x = 1 + i * Q ∧ i ≤ N) ∧ Hid (wr.ownsRow W0.heap.size 45 2 v7 i (sgCells Q G i)) ∧ Hid (Ext W0 wr)) (fun _ v8 _ => G + Q + 2 - (intOf v8).toNat)
  case atStart => exact ⟨0, 1, rfl, by omega, Lib.hid ⟨by omega, Nat.zero_le _⟩, Lib.hid (World.ownsRow_nil _ _ _ _), HX⟩
  case round =>
    obtain ⟨i, x, rfl, hx, HI, HO, HX⟩ := hrel
    obtain ⟨k0, k1, k2, k3, kl⟩ := (HB0.out.ext HX.out).c4
    by_cases hlt : x ≤ G
    case pos =>
      have ix : (x : Int) ≤ (G : Int) := by omega
      have hiN : i < N := by
        have h9 := HI.out.1
        have h8 := HN.out
        exact Nat.lt_of_mul_lt_mul_right (a := Q) (by omega)
      have HCS : Hid (sgCells Q G (i + 1) = sgCells Q G i ++ [.int .i64 (x : Int), .int .i64 ((min (x + Q - 1) G : Nat) : Int)]) := Lib.hid (by
        have h9 := HI.out.1
        rw [sgCells, Nat.add_mul, Nat.one_mul, h9]
        congr 4
        congr 1
        omega)
      have HSZ : Hid (W0.heap.size ≤ wr.heap.size) := Lib.hid HX.out.size
      have hi4 : i ≤ 4000 := by
        have h9 := HI.out.1
        have : i * 1 ≤ i * Q := Nat.mul_le_mul_left _ (by omega)
        omega
      go_upto_region 8 with fail
      have hmn : ((min (x + Q - 1) G : Nat) : Int) = min ((x : Int) + (Q : Int) - 1) (G : Int) := by omega
      rw [hmn] at HCS
      clear hmn
      go_wp2_with (first | (at_builtin; refine list_appendC rangeElt rfl (.tmp 25) (.tmp 36) rfl W0.heap.size i _ (sgCells Q G i) rfl (own_later HO.out (by repeat (first | exact Ext.refl _ | assumption | refine Ext.alloc ?_ _ | refine Ext.drew ?_ | refine Ext.drewN ?_ _ | (refine Ext.setCell ?_ (by simp <;> omega) _) | refine Ext.trans ?_ (by assumption)))) (some ⟨wr.heap.size, 0, none⟩) 1 1 [.int .i64 (x : Int), .int .i64 (min ((x : Int) + (Q : Int) - 1) (G : Int))] rfl (RC.blk (n := 1) (size := 2) (Blk.new _ _ _) rfl (by omega)) (fun y hy => by simp only [List.mem_cons, List.not_mem_nil, or_false] at hy; rcases hy with rfl | rfl <;> rfl) (by omega) (by have := HSZ.out; simp; omega) ?_; intro v' w' ho hg; have HO2 := Lib.hid ho; have HX2 := Lib.hid (own_grown (own_later HO.out (by repeat (first | exact Ext.refl _ | assumption | refine Ext.alloc ?_ _ | refine Ext.drew ?_ | refine Ext.drewN ?_ _ | (refine Ext.setCell ?_ (by simp <;> omega) _) | refine Ext.trans ?_ (by assumption)))) hg (HX.out.trans (by repeat (first | exact Ext.refl _ | assumption | refine Ext.alloc ?_ _ | refine Ext.drew ?_ | refine Ext.drewN ?_ _ | (refine Ext.setCell ?_ (by simp <;> omega) _) | refine Ext.trans ?_ (by assumption)))) (Nat.le_refl _)); obtain ⟨m0, m1, m2, m3, ml⟩ := (HB0.out.ext HX2.out).c4; clear ho hg))
      go_roundw
      case rel => exact ⟨i + 1, x + Q, by go_num, by omega, Lib.hid ⟨by rw [HI.out.1, Nat.add_mul, Nat.one_mul]; omega, hiN⟩, Lib.hid (by rw [HCS.out]; exact HO2.out), HX2⟩
      case measure => simp [intOf]; omega
    case neg =>
      have ix : ¬ (x : Int) ≤ (G : Int) := by omega
      have hiN : i = N := by
        have h9 := HI.out.1
        have h8 := HN2.out
        have h7 := HI.out.2
        rcases Nat.lt_or_ge i N with h | h
        · have h6 : (i + 1) * Q ≤ N * Q := Nat.mul_le_mul_right _ h
          rw [Nat.add_mul] at h6
          omega
        · omega
      have HBK : Hid (((N * Q : Nat) : Int) - (G : Int) = (x : Int) - 1 - (G : Int)) := Lib.hid (by
        have h9 := HI.out.1
        rw [hiN] at h9
        omega)
      subst hiN
      have hm2 : IntKind.i64.wrap ((x : Int) - 1) = (x : Int) - 1 := IntWalk.i64_in _ (by omega)
      have hm3 : IntKind.i64.wrap ((x : Int) - 1 - (G : Int)) = (x : Int) - 1 - (G : Int) := IntWalk.i64_in _ (by omega)
      go_wp2_with fail
      go_quiet (fail)
      go_wp2
      obtain ⟨A9, c9, rfl, _⟩ := own_form HO.out (by have h9 := HI.out.1; have : i * 1 ≤ i * Q := Nat.mul_le_mul_left _ (by omega); omega)
      refine bodyPost_ret (v := .tuple #[.slice A9 i c9, .int .i64 ((x : Int) - 1 - (G : Int)), .int .i64 0]) (by simp [results, Try.results9, go_sem]) rfl ⟨.slice A9 i c9, by rw [HBK.out], World.ownsRow.mono (own_later HO.out (by repeat (first | exact Ext.refl _ | assumption | refine Ext.alloc ?_ _ | refine Ext.drew ?_ | refine Ext.drewN ?_ _ | (refine Ext.setCell ?_ (by simp <;> omega) _) | refine Ext.trans ?_ (by assumption)))) HX0.out.size, (HX0.out.trans HX.out).trans (by repeat (first | exact Ext.refl _ | assumption | refine Ext.alloc ?_ _ | refine Ext.drew ?_ | refine Ext.drewN ?_ _ | (refine Ext.setCell ?_ (by simp <;> omega) _) | refine Ext.trans ?_ (by assumption)))⟩
end Go.Proofs.Ytniiahddpdiocaa
