/-
  Walk: the fount of chapter 2's examples.
-/
import Derived.Test.YtccdnieoaejgdaaGreatDoorT2AV
import Derived.Test.YtccdnieoaejgdaaGreatDoorT2AE
import Derived.Test.YtccdnieoaejgdaaGreatDoorT2AF
import Derived.Test.YtccdnieoaejgdaaGreatDoorT2AP
set_option linter.unusedVariables false
set_option linter.unusedSimpArgs false
set_option linter.unusedSectionVars false
namespace Go.Proofs.YtccdnieoaejgdaaGreatDoor
open Go.RowKit
attribute [local go_sem] stateAt vu known List.map_cons List.map_nil Option.getD_some

def faceT : List ByteArray := [⟨#[101]⟩, ⟨#[102]⟩, ⟨#[105]⟩, ⟨#[108]⟩, ⟨#[117]⟩, ⟨#[115]⟩, ⟨#[104]⟩, ⟨#[45]⟩, ⟨#[102, 102]⟩, ⟨#[102, 105]⟩, ⟨#[102, 102, 105]⟩, ⟨#[102, 108]⟩]
def faceD : List ByteArray := [⟨#[48]⟩, ⟨#[49]⟩, ⟨#[50]⟩, ⟨#[51]⟩, ⟨#[52]⟩, ⟨#[53]⟩, ⟨#[54]⟩, ⟨#[55]⟩, ⟨#[56]⟩, ⟨#[57]⟩, ⟨#[49, 48]⟩, ⟨#[49, 49]⟩]
def faceN : List ByteArray := [⟨#[115, 48]⟩, ⟨#[115, 49]⟩, ⟨#[115, 50]⟩, ⟨#[115, 51]⟩, ⟨#[115, 52]⟩, ⟨#[115, 53]⟩, ⟨#[115, 54]⟩, ⟨#[115, 55]⟩, ⟨#[115, 56]⟩, ⟨#[115, 57]⟩, ⟨#[115, 49, 48]⟩, ⟨#[115, 49, 49]⟩]
def faceX (k : Nat) : TS := ⟨faceN.getD k ByteArray.empty, faceT.getD k ByteArray.empty, if k < 8 then 1 else 2, 300 + 10 * (k : Int)⟩
def faceTo (k : Nat) : List TS := (List.range k).map faceX
def face : FT := ⟨⟨#[102, 97, 99, 101]⟩, 12, faceTo 12 ++ [⟨⟨#[109, 105, 100]⟩, ⟨#[]⟩, 3, 180⟩]⟩
theorem faceTo_next (k : Nat) : faceTo (k + 1) = faceTo k ++ [faceX k] := by
  unfold faceTo; rw [List.range_succ, List.map_append]; rfl
theorem faceTo_len (k : Nat) : (faceTo k).length = k := by unfold faceTo; simp
theorem face_dec : ∀ k : Nat, k < 12 → (⟨(Lib.itoa (k : Int)).toArray⟩ : ByteArray) = faceD.getD k ByteArray.empty := by
  intro k hk
  rcases (show k = 0 ∨ k = 1 ∨ k = 2 ∨ k = 3 ∨ k = 4 ∨ k = 5 ∨ k = 6 ∨ k = 7 ∨ k = 8 ∨ k = 9 ∨ k = 10 ∨ k = 11 by omega) with rfl | rfl | rfl | rfl | rfl | rfl | rfl | rfl | rfl | rfl | rfl | rfl <;> (rw [itoa_of_nat]; first | (rw [dc_lt (by decide)]; rfl) | (rw [dc_ge (by decide), dc_lt (by decide)]; rfl))
theorem face_name : ∀ k : Nat, k < 12 → (⟨#[115]⟩ : ByteArray) ++ faceD.getD k ByteArray.empty = faceN.getD k ByteArray.empty := by
  intro k hk
  rcases (show k = 0 ∨ k = 1 ∨ k = 2 ∨ k = 3 ∨ k = 4 ∨ k = 5 ∨ k = 6 ∨ k = 7 ∨ k = 8 ∨ k = 9 ∨ k = 10 ∨ k = 11 by omega) with rfl | rfl | rfl | rfl | rfl | rfl | rfl | rfl | rfl | rfl | rfl | rfl <;> (apply bytes_ext; rfl)
theorem sortElt : Elt 40 88 4 48 (.agg #[.string ⟨#[]⟩, .string ⟨#[]⟩, .int .i64 0, .int .i64 0]) := ⟨Tryz.underlying40, by kernel_rfl, rfl, by decide, by decide⟩
theorem sortCells_snoc : ∀ (ss : List TS) (x : TS), sortCells (ss ++ [x]) = sortCells ss ++ [.string x.name, .string x.text, .int .i64 x.kind, .int .i64 x.width]
  | [], x => rfl
  | s :: ss, x => by rw [List.cons_append, sortCells, sortCells_snoc ss x, sortCells]; rfl
theorem ownT_far {W : World} {base g i : Nat} {v u : Value} {ss : List TS} {cs : Array Value} (h : OwnT W base v ss) (hb : Blk W g 42 cs) : OwnT (W.setCell ⟨g, i, none⟩ u) base v ss :=
  World.ownsRow.kept h (set_grownB W ⟨g, i, none⟩ u) (by
    cases hv : v.ownBlock with
    | none => exact .inl rfl
    | some k =>
      refine .inr fun e => ?_
      obtain ⟨c9, h9⟩ := own_is h hv
      have e := Option.some.inj e
      simp only at e
      exact blk_neT h9 hb (by decide) e)
theorem ownT_form {W : World} {base : Nat} {v : Value} {ss : List TS} (h : OwnT W base v ss) : ∃ X n c, v = .slice X n c ∧ OwnT W base v ss := by
  rcases h.2 with ⟨k1, k2⟩ | ⟨g, cap, cur, hv, _⟩
  · exact ⟨none, 0, 0, k1, h⟩
  · exact ⟨_, _, _, hv, h⟩
def faceLit : Array Value := #[.string ⟨#[101]⟩, .string ⟨#[102]⟩, .string ⟨#[105]⟩, .string ⟨#[108]⟩, .string ⟨#[117]⟩, .string ⟨#[115]⟩, .string ⟨#[104]⟩, .string ⟨#[45]⟩, .string ⟨#[102, 102]⟩, .string ⟨#[102, 105]⟩, .string ⟨#[102, 102, 105]⟩, .string ⟨#[102, 108]⟩]
theorem faceLit_at : ∀ k : Nat, k < 12 → faceLit[k]? = some (.string (faceT.getD k ByteArray.empty)) := by
  intro k hk
  rcases (show k = 0 ∨ k = 1 ∨ k = 2 ∨ k = 3 ∨ k = 4 ∨ k = 5 ∨ k = 6 ∨ k = 7 ∨ k = 8 ∨ k = 9 ∨ k = 10 ∨ k = 11 by omega) with rfl | rfl | rfl | rfl | rfl | rfl | rfl | rfl | rfl | rfl | rfl | rfl <;> rfl
theorem face_size : ∀ k : Nat, k < 12 → (k < 8 → (faceT.getD k ByteArray.empty).size = 1) ∧ (¬ k < 8 → 2 ≤ (faceT.getD k ByteArray.empty).size ∧ (faceT.getD k ByteArray.empty).size ≤ 3) ∧ (faceD.getD k ByteArray.empty).size ≤ 2 := by decide +kernel
def OwnTS (w : World) (ys : List TS) (x : Value) (W : World) : Prop := ∃ X n c, x = .slice X n c ∧ OwnT W (w.heap.size + 2) x ys
theorem OwnTS.ext {w W W' : World} {ys : List TS} {x : Value} (h : OwnTS w ys x W) (hx : Ext W W') : OwnTS w ys x W' := let ⟨X, n, c, h1, h2⟩ := h; ⟨X, n, c, h1, own_later h2 hx⟩
theorem OwnTS.far {w W : World} {g i : Nat} {ys : List TS} {x u : Value} {cs : Array Value} (h : OwnTS w ys x W) (hb : Blk W g 42 cs) : OwnTS w ys x (W.setCell ⟨g, i, none⟩ u) := let ⟨X, n, c, h1, h2⟩ := h; ⟨X, n, c, h1, ownT_far h2 hb⟩
/-- The fount under way. -/
structure Fc9 (w : World) (v : Value) (ss : List TS) (x : TS) (b d : Bool) (W : World) : Prop where
  ext : Ext w W
  r0 : Blk W w.heap.size 42 #[.string ⟨#[]⟩, .int .i64 0, .slice none 0 0]
  lit : Blk W (w.heap.size + 2) 9 faceLit
  rd0 : d = false → Blk W (w.heap.size + 1) 42 #[.string ⟨#[102, 97, 99, 101]⟩, .int .i64 12, v]
  rd1 : d = true → ∃ v', Blk W (w.heap.size + 1) 42 #[.string ⟨#[102, 97, 99, 101]⟩, .int .i64 12, v'] ∧ OwnT W (w.heap.size + 2) v' (ss ++ [x])
  own : b = false → OwnT W (w.heap.size + 2) v ss
section
variable {w W W' : World} {v : Value} {ss : List TS} {x : TS} {b d : Bool}
theorem Fc9.next (h : Fc9 w v ss x b d W) (hx : Ext W W') : Fc9 w v ss x b d W' :=
  ⟨h.ext.trans hx, h.r0.ext hx, h.lit.ext hx, fun e => (h.rd0 e).ext hx, fun e => let ⟨v', h1, h2⟩ := h.rd1 e; ⟨v', h1.ext hx, own_later h2 hx⟩, fun e => own_later (h.own e) hx⟩
theorem Fc9.app (h : Fc9 w v ss x false false W) (hg : W.grownBy W' v.ownBlock) : Fc9 w v ss x true false W' := by
  have ho := h.own rfl
  have far : ∀ {g : Nat} {t : TypeId} {cs : Array Value}, Blk W g t cs → 88 ≠ t → v.ownBlock ≠ some g := fun hb ht e => by
    obtain ⟨c9, h9⟩ := own_is ho e
    exact blk_neT h9 hb ht rfl
  exact ⟨h.ext.grown hg (fun k e => by have := (World.ownsRow.lt ho k e).1; omega), h.r0.grownB hg (far h.r0 (by decide)), h.lit.grownB hg (far h.lit (by decide)), fun _ => (h.rd0 rfl).grownB hg (far (h.rd0 rfl) (by decide)), fun e => (by cases e), fun e => (by cases e)⟩
theorem Fc9.sto {u : Value} (h : Fc9 w v ss x true false W) (ho : OwnT W (w.heap.size + 2) u (ss ++ [x])) : Fc9 w v ss x true true (W.setCell ⟨w.heap.size + 1, 2, none⟩ u) := by
  have hr := h.rd0 rfl
  exact ⟨h.ext.setCell (p := ⟨w.heap.size + 1, 2, none⟩) (by simp only; omega) _, h.r0.far (p := ⟨w.heap.size + 1, 2, none⟩) (by simp only; omega) _, h.lit.far (p := ⟨w.heap.size + 1, 2, none⟩) (by simp only; omega) _, fun e => (by cases e), fun _ => ⟨u, hr.set_ 2 u, ownT_far ho hr⟩, fun e => (by cases e)⟩
end
theorem face_end {w : World} {base : Nat} {v : Value} (h : w.ownsRow base 88 4 v ((faceTo 12).length + 1) (sortCells (faceTo 12) ++ [.string ⟨#[109, 105, 100]⟩, .string ⟨#[]⟩, .int .i64 3, .int .i64 180])) : ∃ A c, v = .slice A 13 c ∧ 13 ≤ c ∧ c ≤ maxLen ∧ OwnT w base (.slice A 13 c) face.sorts := by
  have h2 : OwnT w base v face.sorts := by
    unfold OwnT face
    rw [sortCells_snoc]
    simpa using h
  obtain ⟨A, c, rfl, h3, h4, _⟩ := h2.form (by decide)
  exact ⟨A, c, rfl, h3, h4, h2⟩
theorem face_sz : ∀ k, k < 13 → (face.sorts.getD k TS.zero).name.size ≤ maxLen ∧ (face.sorts.getD k TS.zero).text.size ≤ maxLen ∧ I64 (face.sorts.getD k TS.zero).kind ∧ I64 (face.sorts.getD k TS.zero).width := by
  unfold I64; decide +kernel
set_option maxRecDepth 100000 in
set_option maxHeartbeats 8000000 in
theorem face_any (w : World) : Calls Tryz.prog 60 #[] w (RetF face w) := by
  have CD := Lib.hid fun (k : Nat) W (h : k ≤ 1000000000000) => decimal_any k W h
  go_enter Tryz.func60, Tryz.ntmps60
  go_upto_region 4 with fail
  have HF0 : Hid (Fc9 w (.slice none 0 0) (faceTo 0) TS.zero false false (((w.alloc (.cells #[.string ⟨#[]⟩, .int .i64 0, .slice none 0 0] 42)).alloc (.cells #[.string ⟨#[102, 97, 99, 101]⟩, .int .i64 12, .slice none 0 0] 42)).alloc (.cells #[.string ⟨#[101]⟩, .string ⟨#[102]⟩, .string ⟨#[105]⟩, .string ⟨#[108]⟩, .string ⟨#[117]⟩, .string ⟨#[115]⟩, .string ⟨#[104]⟩, .string ⟨#[45]⟩, .string ⟨#[102, 102]⟩, .string ⟨#[102, 105]⟩, .string ⟨#[102, 102, 105]⟩, .string ⟨#[102, 108]⟩] 9))) := Lib.hid
    ⟨(by repeat (first | exact Ext.refl _ | assumption | refine Ext.alloc ?_ _ | refine Ext.drew ?_ | refine Ext.drewN ?_ _ | (refine Ext.setCell ?_ (by simp <;> omega) _) | refine Ext.trans ?_ (by assumption))), ((Blk.new w _ _).alloc _).alloc _, Blk.new2 w _ _ _ _, fun _ => (Blk.new1 w _ _ _).alloc _, fun e => (by cases e), fun _ => World.ownsRow_nil _ _ _ _⟩
  go_loopw [9, 2, 3, 4] (fun v9 _ _ _ wr => ∃ (k : Nat) (v : Value), k ≤ 12 ∧ v9 = .int .i64 (k : Int) ∧ Hid (Fc9 w v (faceTo k) TS.zero false false wr)) (fun v9 _ _ _ _ => 12 - (intOf v9).toNat)
  case atStart => exact ⟨0, _, by omega, rfl, HF0⟩
  case round =>
    clear HF0
    obtain ⟨n0, v, hk, rfl, HF⟩ := hrel
    by_cases hlt : n0 < 12
    case pos =>
      have ik : (n0 : Int) < 12 := by omega
      have y0 := HF.out.lit.cell n0 _ (faceLit_at n0 hlt)
      have yl0 := HF.out.lit.lt
      obtain ⟨hs1, hs2, hs3⟩ := face_size n0 hlt
      have HNM0 := face_name n0 hlt
      have HDC0 := face_dec n0 hlt
      have CDC : Hid (∀ W, Calls Tryz.prog 105 #[.int .i64 (n0 : Int)] W (Ret (.string (faceD.getD n0 ByteArray.empty)) W)) := Lib.hid fun W => by
        have h := CD.out n0 W (by omega)
        rwa [HDC0] at h
      have HXD : Hid (faceX n0 = ⟨faceN.getD n0 ByteArray.empty, faceT.getD n0 ByteArray.empty, if n0 < 8 then 1 else 2, 300 + 10 * (n0 : Int)⟩) := Lib.hid rfl
      have HFL := Lib.hid (faceTo_len n0)
      have HFN := Lib.hid (faceTo_next n0)
      generalize faceN.getD n0 ByteArray.empty = nm at *
      generalize faceT.getD n0 ByteArray.empty = tx at *
      generalize faceD.getD n0 ByteArray.empty = dk at *
      have HNM := Lib.hid HNM0
      obtain ⟨vA, vn, vc, hv, _⟩ := ownT_form (HF.out.own rfl)
      subst hv
      have hl9 : faceLit.size = 12 := rfl
      have u1 : IntKind.i64.wrap (10 * (n0 : Int)) = 10 * (n0 : Int) := IntWalk.i64_in _ (by omega)
      have u2 : IntKind.i64.wrap (300 + 10 * (n0 : Int)) = 300 + 10 * (n0 : Int) := IntWalk.i64_in _ (by omega)
      have j1 : ¬ 9223372036854775807 < 1 + dk.size := by omega
      clear HNM0 HDC0 hl9
      by_cases h8 : n0 < 8
      case pos =>
        -- BEGIN A
        have e1 : ¬ (1 : Int) < (tx.size : Int) := by have := hs1 h8; omega
        rw [if_pos h8] at HXD
        clear h8 hs1 hs2
        go_upto_region 9 with fail
        obtain ⟨x, hx9⟩ : ∃ x, x = faceX n0 := ⟨_, rfl⟩
        have HX9 := Lib.hid hx9
        rw [← hx9] at HXD HFN
        have HXC : Hid ([Value.string x.name, .string x.text, .int .i64 x.kind, .int .i64 x.width] = [.string nm, .string tx, .int .i64 1, .int .i64 (300 + 10 * (n0 : Int))]) := Lib.hid (by rw [HXD.out])
        have HF9 : Hid (Fc9 w (.slice vA vn vc) (faceTo n0) x false false wr.drew) := Lib.hid (by
          have h := HF.out
          exact Fc9.next ⟨h.ext, h.r0, h.lit, h.rd0, fun e => (by cases e), h.own⟩ (Ext.refl wr).drew)
        clear hx9 y0 yl0
        refine wp_region_sp [12, 14] [some (.pointer (some ⟨w.heap.size + 1, 2, none⟩)), some (.slice vA vn vc), some (.int .i64 (n0 : Int)), some (.string dk), some (.string nm), some (.string tx), some (.int .i64 1), some (.int .i64 (n0 : Int)), some (.int .i64 (10 * (n0 : Int))), some (.int .i64 (300 + 10 * (n0 : Int))), some (.agg #[.string nm, .string tx, .int .i64 1, .int .i64 (300 + 10 * (n0 : Int))]), none, none, some (.pointer (some ⟨w.heap.size + 1, 2, none⟩)), some (undef)] (fun k v fl W => (k = 11 → (fun (v : Value) (fl : List Bool) (W : World) => fl.getD 0 false = false → ∃ g, v = .slice (some ⟨g, 0, none⟩) 1 1 ∧ Blk W g 88 #[.string nm, .string tx, .int .i64 1, .int .i64 (300 + 10 * (n0 : Int))]) v fl W) ∧ (k = 12 → (fun (v : Value) (fl : List Bool) (W : World) => OwnTS w (faceTo n0 ++ [x]) v W) v fl W)) (fun fl W => Fc9 w (.slice vA vn vc) (faceTo n0) x (fl.getD 0 false) (fl.getD 1 false) W) (by kernel_rfl) (by kernel_rfl) rfl (by decide) (fun fl W W' h hx => h.next hx) (fun k v fl W W' h hx => ⟨fun e => fun h0 => let ⟨g, h1, h2⟩ := (((h.1 e)) h0); ⟨g, h1, h2.ext hx⟩, fun e => OwnTS.ext ((h.2 e)) hx⟩) (HF9.out) ⟨?_, ?_, ?_, ?_, ?_, ?_, ?_, ?_, ?_, ?_, ?_, ?_, ?_, ?_, ?_, trivial⟩ ?_
        · intro U fl W hS hl hn hd hR
          obtain ⟨f0, f1, rfl⟩ := flen2 hl
          obtain rfl : f0 = false := hn 0 (by decide) (by kernel_rfl)
          obtain rfl : f1 = false := hn 1 (by decide) (by kernel_rfl)
          clear hR hl hn hd
          have hT : Fc9 w (.slice vA vn vc) (faceTo n0) x _ _ W := hS; clear hS
          refine StepZ.go rfl ?_
          go_simp
          exact ⟨Turn.ext rfl (by repeat (first | exact Ext.refl _ | assumption | refine Ext.alloc ?_ _ | refine Ext.drew ?_ | refine Ext.drewN ?_ _ | (refine Ext.setCell ?_ (by simp <;> omega) _) | refine Ext.trans ?_ (by assumption))), givesS_k (by kernel_rfl)⟩
        · intro U fl W hS hl hn hd hR
          obtain ⟨f0, f1, rfl⟩ := flen2 hl
          obtain rfl : f0 = false := hn 0 (by decide) (by kernel_rfl)
          obtain rfl : f1 = false := hn 1 (by decide) (by kernel_rfl)
          clear hR hl hn hd
          have hT : Fc9 w (.slice vA vn vc) (faceTo n0) x _ _ W := hS; clear hS
          have y1 := (hT.rd0 rfl).cell 2 (.slice vA vn vc) rfl; have l1 := (hT.rd0 rfl).lt
          refine StepZ.go rfl ?_
          go_simp
          exact ⟨Turn.ext rfl (by repeat (first | exact Ext.refl _ | assumption | refine Ext.alloc ?_ _ | refine Ext.drew ?_ | refine Ext.drewN ?_ _ | (refine Ext.setCell ?_ (by simp <;> omega) _) | refine Ext.trans ?_ (by assumption))), givesS_k (by kernel_rfl)⟩
        · intro U fl W hS hl hn hd hR
          obtain ⟨f0, f1, rfl⟩ := flen2 hl
          obtain rfl : f0 = false := hn 0 (by decide) (by kernel_rfl)
          obtain rfl : f1 = false := hn 1 (by decide) (by kernel_rfl)
          clear hR hl hn hd
          have hT : Fc9 w (.slice vA vn vc) (faceTo n0) x _ _ W := hS; clear hS
          refine StepZ.go rfl ?_
          go_simp
          exact ⟨Turn.ext rfl (by repeat (first | exact Ext.refl _ | assumption | refine Ext.alloc ?_ _ | refine Ext.drew ?_ | refine Ext.drewN ?_ _ | (refine Ext.setCell ?_ (by simp <;> omega) _) | refine Ext.trans ?_ (by assumption))), givesS_k (by kernel_rfl)⟩
        · intro U fl W hS hl hn hd hR
          obtain ⟨f0, f1, rfl⟩ := flen2 hl
          obtain rfl : f0 = false := hn 0 (by decide) (by kernel_rfl)
          obtain rfl : f1 = false := hn 1 (by decide) (by kernel_rfl)
          clear hR hl hn hd
          have hT : Fc9 w (.slice vA vn vc) (faceTo n0) x _ _ W := hS; clear hS
          refine StepZ.go rfl ?_
          go_simp
          refine Calls.mono (CDC.out _) ?_; rintro e1 w1 ⟨rfl, hb⟩; exact ⟨_, rfl, Turn.ext rfl (Ext.trans (by repeat (first | exact Ext.refl _ | assumption | refine Ext.alloc ?_ _ | refine Ext.drew ?_ | refine Ext.drewN ?_ _ | (refine Ext.setCell ?_ (by simp <;> omega) _) | refine Ext.trans ?_ (by assumption))) hb), givesS_k (by kernel_rfl)⟩
        · intro U fl W hS hl hn hd hR
          obtain ⟨f0, f1, rfl⟩ := flen2 hl
          obtain rfl : f0 = false := hn 0 (by decide) (by kernel_rfl)
          obtain rfl : f1 = false := hn 1 (by decide) (by kernel_rfl)
          clear hR hl hn hd
          have hT : Fc9 w (.slice vA vn vc) (faceTo n0) x _ _ W := hS; clear hS
          have hnm := HNM.out
          refine StepZ.go rfl ?_
          go_simp
          exact ⟨Turn.ext rfl (by repeat (first | exact Ext.refl _ | assumption | refine Ext.alloc ?_ _ | refine Ext.drew ?_ | refine Ext.drewN ?_ _ | (refine Ext.setCell ?_ (by simp <;> omega) _) | refine Ext.trans ?_ (by assumption))), givesS_k (by kernel_rfl)⟩
        · intro U fl W hS hl hn hd hR
          obtain ⟨f0, f1, rfl⟩ := flen2 hl
          obtain rfl : f0 = false := hn 0 (by decide) (by kernel_rfl)
          obtain rfl : f1 = false := hn 1 (by decide) (by kernel_rfl)
          clear hR hl hn hd
          have hT : Fc9 w (.slice vA vn vc) (faceTo n0) x _ _ W := hS; clear hS
          refine StepZ.go rfl ?_
          go_simp
          exact ⟨Turn.ext rfl (by repeat (first | exact Ext.refl _ | assumption | refine Ext.alloc ?_ _ | refine Ext.drew ?_ | refine Ext.drewN ?_ _ | (refine Ext.setCell ?_ (by simp <;> omega) _) | refine Ext.trans ?_ (by assumption))), givesS_k (by kernel_rfl)⟩
        · intro U fl W hS hl hn hd hR
          obtain ⟨f0, f1, rfl⟩ := flen2 hl
          obtain rfl : f0 = false := hn 0 (by decide) (by kernel_rfl)
          obtain rfl : f1 = false := hn 1 (by decide) (by kernel_rfl)
          clear hR hl hn hd
          have hT : Fc9 w (.slice vA vn vc) (faceTo n0) x _ _ W := hS; clear hS
          refine StepZ.go rfl ?_
          go_simp
          exact ⟨Turn.ext rfl (by repeat (first | exact Ext.refl _ | assumption | refine Ext.alloc ?_ _ | refine Ext.drew ?_ | refine Ext.drewN ?_ _ | (refine Ext.setCell ?_ (by simp <;> omega) _) | refine Ext.trans ?_ (by assumption))), givesS_k (by kernel_rfl)⟩
        · intro U fl W hS hl hn hd hR
          obtain ⟨f0, f1, rfl⟩ := flen2 hl
          obtain rfl : f0 = false := hn 0 (by decide) (by kernel_rfl)
          obtain rfl : f1 = false := hn 1 (by decide) (by kernel_rfl)
          clear hR hl hn hd
          have hT : Fc9 w (.slice vA vn vc) (faceTo n0) x _ _ W := hS; clear hS
          refine StepZ.go rfl ?_
          go_simp
          exact ⟨Turn.ext rfl (by repeat (first | exact Ext.refl _ | assumption | refine Ext.alloc ?_ _ | refine Ext.drew ?_ | refine Ext.drewN ?_ _ | (refine Ext.setCell ?_ (by simp <;> omega) _) | refine Ext.trans ?_ (by assumption))), givesS_k (by kernel_rfl)⟩
        · intro U fl W hS hl hn hd hR
          obtain ⟨f0, f1, rfl⟩ := flen2 hl
          obtain rfl : f0 = false := hn 0 (by decide) (by kernel_rfl)
          obtain rfl : f1 = false := hn 1 (by decide) (by kernel_rfl)
          clear hR hl hn hd
          have hT : Fc9 w (.slice vA vn vc) (faceTo n0) x _ _ W := hS; clear hS
          refine StepZ.go rfl ?_
          go_simp
          exact ⟨Turn.ext rfl (by repeat (first | exact Ext.refl _ | assumption | refine Ext.alloc ?_ _ | refine Ext.drew ?_ | refine Ext.drewN ?_ _ | (refine Ext.setCell ?_ (by simp <;> omega) _) | refine Ext.trans ?_ (by assumption))), givesS_k (by kernel_rfl)⟩
        · intro U fl W hS hl hn hd hR
          obtain ⟨f0, f1, rfl⟩ := flen2 hl
          obtain rfl : f0 = false := hn 0 (by decide) (by kernel_rfl)
          obtain rfl : f1 = false := hn 1 (by decide) (by kernel_rfl)
          clear hR hl hn hd
          have hT : Fc9 w (.slice vA vn vc) (faceTo n0) x _ _ W := hS; clear hS
          refine StepZ.go rfl ?_
          go_simp
          exact ⟨Turn.ext rfl (by repeat (first | exact Ext.refl _ | assumption | refine Ext.alloc ?_ _ | refine Ext.drew ?_ | refine Ext.drewN ?_ _ | (refine Ext.setCell ?_ (by simp <;> omega) _) | refine Ext.trans ?_ (by assumption))), givesS_k (by kernel_rfl)⟩
        · intro U fl W hS hl hn hd hR
          obtain ⟨f0, f1, rfl⟩ := flen2 hl
          obtain rfl : f0 = false := hn 0 (by decide) (by kernel_rfl)
          obtain rfl : f1 = false := hn 1 (by decide) (by kernel_rfl)
          clear hR hl hn hd
          have hT : Fc9 w (.slice vA vn vc) (faceTo n0) x _ _ W := hS; clear hS
          refine StepZ.go rfl ?_
          go_simp
          exact ⟨Turn.ext rfl (by repeat (first | exact Ext.refl _ | assumption | refine Ext.alloc ?_ _ | refine Ext.drew ?_ | refine Ext.drewN ?_ _ | (refine Ext.setCell ?_ (by simp <;> omega) _) | refine Ext.trans ?_ (by assumption))), givesS_k (by kernel_rfl)⟩
        · intro U fl W hS hl hn hd hR
          obtain ⟨f0, f1, rfl⟩ := flen2 hl
          obtain rfl : f0 = false := hn 0 (by decide) (by kernel_rfl)
          obtain rfl : f1 = false := hn 1 (by decide) (by kernel_rfl)
          clear hR hl hn hd
          have hT : Fc9 w (.slice vA vn vc) (faceTo n0) x _ _ W := hS; clear hS
          refine StepZ.go rfl ?_
          go_simp
          exact ⟨Turn.ext rfl (by repeat (first | exact Ext.refl _ | assumption | refine Ext.alloc ?_ _ | refine Ext.drew ?_ | refine Ext.drewN ?_ _ | (refine Ext.setCell ?_ (by simp <;> omega) _) | refine Ext.trans ?_ (by assumption))), givesS_e (by kernel_rfl) ⟨fun _ => fun _ => ⟨_, rfl, Blk.new W _ _⟩, fun e => absurd e (by decide)⟩⟩
        · intro U fl W hS hl hn hd hR
          obtain ⟨f0, f1, rfl⟩ := flen2 hl
          obtain rfl : f0 = false := hn 0 (by decide) (by kernel_rfl)
          obtain rfl : f1 = false := hn 1 (by decide) (by kernel_rfl)
          have r11 := (hR 11 (by decide) (by kernel_rfl)).1 rfl; obtain ⟨g6, e11_, hb6⟩ := r11 rfl
          clear hR hl hn hd
          have hT : Fc9 w (.slice vA vn vc) (faceTo n0) x _ _ W := hS; clear hS
          refine StepZ.appendE sortElt rfl (.tmp 18) (.tmp 28) rfl (w.heap.size + 2) (faceTo n0).length (.slice vA vn vc) (sortCells (faceTo n0)) ?_ (hT.own rfl) g6 [.string nm, .string tx, .int .i64 1, .int .i64 (300 + 10 * (n0 : Int))] ?_ rfl (fun j y hj => hb6.cell j y (by simpa using hj)) (fun y hy => by simp at hy; rcases hy with rfl | rfl | rfl | rfl <;> rfl) (by have := HFL.out; omega) (by have := (hT.rd0 rfl).lt; have := hT.lit.lt; omega) fun v' w' ho hg hk => ⟨Turn.sp rfl (hT.app hg) (fun k9 v9 hk9 h9 => ⟨fun e => by subst e; exact (fun h0 => absurd (show true = false from h0) (by decide)), fun e => by subst e; exact clo_no hk9 (by kernel_rfl)⟩), givesS_e (by kernel_rfl) ⟨fun e => absurd e (by decide), fun _ => ownT_form (by unfold OwnT; rw [sortCells_snoc, HXC.out]; simpa using ho)⟩⟩ <;> (go_simp <;> exact e11_)
        · intro U fl W hS hl hn hd hR
          obtain ⟨f0, f1, rfl⟩ := flen2 hl
          obtain rfl : f1 = false := hn 1 (by decide) (by kernel_rfl)
          clear hR hl hn hd
          have hT : Fc9 w (.slice vA vn vc) (faceTo n0) x _ _ W := hS; clear hS
          refine StepZ.go rfl ?_
          go_simp
          exact ⟨Turn.ext rfl (by repeat (first | exact Ext.refl _ | assumption | refine Ext.alloc ?_ _ | refine Ext.drew ?_ | refine Ext.drewN ?_ _ | (refine Ext.setCell ?_ (by simp <;> omega) _) | refine Ext.trans ?_ (by assumption))), givesS_k (by kernel_rfl)⟩
        · intro U fl W hS hl hn hd hR
          obtain ⟨f0, f1, rfl⟩ := flen2 hl
          obtain rfl : f0 = true := hd 0 (by decide) (by kernel_rfl)
          obtain rfl : f1 = false := hn 1 (by decide) (by kernel_rfl)
          have r12 := (hR 12 (by decide) (by kernel_rfl)).2 rfl; obtain ⟨X7, n7, c7, e12_, o7⟩ := r12
          clear hR hl hn hd
          have hT : Fc9 w (.slice vA vn vc) (faceTo n0) x _ _ W := hS; clear hS
          rw [e12_] at o7; (try rw [e12_]); have y1 := (hT.rd0 rfl).cell 2 (.slice vA vn vc) rfl; have l1 := (hT.rd0 rfl).lt; have yf := (hT.rd0 rfl).frozen 2
          refine StepZ.go rfl ?_
          go_simp
          exact ⟨rfl, Turn.sp rfl (hT.sto o7) (fun k9 v9 hk9 h9 => ⟨fun e => by subst e; exact (fun h0 => let ⟨g, h1, h2⟩ := (((h9.1 rfl)) h0); ⟨g, h1, h2.far (p := ⟨w.heap.size + 1, 2, none⟩) (blk_neT h2 (hT.rd0 rfl) (by decide)) _⟩), fun e => by subst e; exact (OwnTS.far ((h9.2 rfl)) (hT.rd0 rfl))⟩), givesS_k (by kernel_rfl)⟩
        · intro U W hS hR
          have r12 := (hR 12 (by decide) (by kernel_rfl)).2 rfl; obtain ⟨X7, n7, c7, e12_, o7⟩ := r12
          clear hR
          have hT : Fc9 w (.slice vA vn vc) (faceTo n0) x true true W := hS; clear hS
          simp only [putAll, vu, Act.put, List.setIfInBounds_toArray, List.set_cons_zero, List.set_cons_succ]
          (try simp only [e12_])
          obtain ⟨v', h1, h2⟩ := hT.rd1 rfl
          have HT9 := Lib.hid hT
          have HV1 := Lib.hid h1; have HV2 := Lib.hid h2
          clear hT h1 h2 o7
          go_wp2
          go_roundw
          case rel => exact ⟨n0 + 1, v', by omega, by go_num, Lib.hid (by rw [HFN.out]; exact ⟨HT9.out.ext, HT9.out.r0, HT9.out.lit, fun _ => HV1.out, fun e => (by cases e), fun _ => HV2.out⟩)⟩
          case measure => simp [intOf]; omega
        -- END A
      case neg =>
        -- BEGIN B
        have e1 : (1 : Int) < (tx.size : Int) := by have := hs2 h8; omega
        rw [if_neg h8] at HXD
        clear h8 hs1 hs2
        go_upto_region 9 with fail
        obtain ⟨x, hx9⟩ : ∃ x, x = faceX n0 := ⟨_, rfl⟩
        have HX9 := Lib.hid hx9
        rw [← hx9] at HXD HFN
        have HXC : Hid ([Value.string x.name, .string x.text, .int .i64 x.kind, .int .i64 x.width] = [.string nm, .string tx, .int .i64 2, .int .i64 (300 + 10 * (n0 : Int))]) := Lib.hid (by rw [HXD.out])
        have HF9 : Hid (Fc9 w (.slice vA vn vc) (faceTo n0) x false false wr.drew) := Lib.hid (by
          have h := HF.out
          exact Fc9.next ⟨h.ext, h.r0, h.lit, h.rd0, fun e => (by cases e), h.own⟩ (Ext.refl wr).drew)
        clear hx9 y0 yl0
        refine wp_region_sp [12, 14] [some (.pointer (some ⟨w.heap.size + 1, 2, none⟩)), some (.slice vA vn vc), some (.int .i64 (n0 : Int)), some (.string dk), some (.string nm), some (.string tx), some (.int .i64 2), some (.int .i64 (n0 : Int)), some (.int .i64 (10 * (n0 : Int))), some (.int .i64 (300 + 10 * (n0 : Int))), some (.agg #[.string nm, .string tx, .int .i64 2, .int .i64 (300 + 10 * (n0 : Int))]), none, none, some (.pointer (some ⟨w.heap.size + 1, 2, none⟩)), some (undef)] (fun k v fl W => (k = 11 → (fun (v : Value) (fl : List Bool) (W : World) => fl.getD 0 false = false → ∃ g, v = .slice (some ⟨g, 0, none⟩) 1 1 ∧ Blk W g 88 #[.string nm, .string tx, .int .i64 2, .int .i64 (300 + 10 * (n0 : Int))]) v fl W) ∧ (k = 12 → (fun (v : Value) (fl : List Bool) (W : World) => OwnTS w (faceTo n0 ++ [x]) v W) v fl W)) (fun fl W => Fc9 w (.slice vA vn vc) (faceTo n0) x (fl.getD 0 false) (fl.getD 1 false) W) (by kernel_rfl) (by kernel_rfl) rfl (by decide) (fun fl W W' h hx => h.next hx) (fun k v fl W W' h hx => ⟨fun e => fun h0 => let ⟨g, h1, h2⟩ := (((h.1 e)) h0); ⟨g, h1, h2.ext hx⟩, fun e => OwnTS.ext ((h.2 e)) hx⟩) (HF9.out) ⟨?_, ?_, ?_, ?_, ?_, ?_, ?_, ?_, ?_, ?_, ?_, ?_, ?_, ?_, ?_, trivial⟩ ?_
        · intro U fl W hS hl hn hd hR
          obtain ⟨f0, f1, rfl⟩ := flen2 hl
          obtain rfl : f0 = false := hn 0 (by decide) (by kernel_rfl)
          obtain rfl : f1 = false := hn 1 (by decide) (by kernel_rfl)
          clear hR hl hn hd
          have hT : Fc9 w (.slice vA vn vc) (faceTo n0) x _ _ W := hS; clear hS
          refine StepZ.go rfl ?_
          go_simp
          exact ⟨Turn.ext rfl (by repeat (first | exact Ext.refl _ | assumption | refine Ext.alloc ?_ _ | refine Ext.drew ?_ | refine Ext.drewN ?_ _ | (refine Ext.setCell ?_ (by simp <;> omega) _) | refine Ext.trans ?_ (by assumption))), givesS_k (by kernel_rfl)⟩
        · intro U fl W hS hl hn hd hR
          obtain ⟨f0, f1, rfl⟩ := flen2 hl
          obtain rfl : f0 = false := hn 0 (by decide) (by kernel_rfl)
          obtain rfl : f1 = false := hn 1 (by decide) (by kernel_rfl)
          clear hR hl hn hd
          have hT : Fc9 w (.slice vA vn vc) (faceTo n0) x _ _ W := hS; clear hS
          have y1 := (hT.rd0 rfl).cell 2 (.slice vA vn vc) rfl; have l1 := (hT.rd0 rfl).lt
          refine StepZ.go rfl ?_
          go_simp
          exact ⟨Turn.ext rfl (by repeat (first | exact Ext.refl _ | assumption | refine Ext.alloc ?_ _ | refine Ext.drew ?_ | refine Ext.drewN ?_ _ | (refine Ext.setCell ?_ (by simp <;> omega) _) | refine Ext.trans ?_ (by assumption))), givesS_k (by kernel_rfl)⟩
        · intro U fl W hS hl hn hd hR
          obtain ⟨f0, f1, rfl⟩ := flen2 hl
          obtain rfl : f0 = false := hn 0 (by decide) (by kernel_rfl)
          obtain rfl : f1 = false := hn 1 (by decide) (by kernel_rfl)
          clear hR hl hn hd
          have hT : Fc9 w (.slice vA vn vc) (faceTo n0) x _ _ W := hS; clear hS
          refine StepZ.go rfl ?_
          go_simp
          exact ⟨Turn.ext rfl (by repeat (first | exact Ext.refl _ | assumption | refine Ext.alloc ?_ _ | refine Ext.drew ?_ | refine Ext.drewN ?_ _ | (refine Ext.setCell ?_ (by simp <;> omega) _) | refine Ext.trans ?_ (by assumption))), givesS_k (by kernel_rfl)⟩
        · intro U fl W hS hl hn hd hR
          obtain ⟨f0, f1, rfl⟩ := flen2 hl
          obtain rfl : f0 = false := hn 0 (by decide) (by kernel_rfl)
          obtain rfl : f1 = false := hn 1 (by decide) (by kernel_rfl)
          clear hR hl hn hd
          have hT : Fc9 w (.slice vA vn vc) (faceTo n0) x _ _ W := hS; clear hS
          refine StepZ.go rfl ?_
          go_simp
          refine Calls.mono (CDC.out _) ?_; rintro e1 w1 ⟨rfl, hb⟩; exact ⟨_, rfl, Turn.ext rfl (Ext.trans (by repeat (first | exact Ext.refl _ | assumption | refine Ext.alloc ?_ _ | refine Ext.drew ?_ | refine Ext.drewN ?_ _ | (refine Ext.setCell ?_ (by simp <;> omega) _) | refine Ext.trans ?_ (by assumption))) hb), givesS_k (by kernel_rfl)⟩
        · intro U fl W hS hl hn hd hR
          obtain ⟨f0, f1, rfl⟩ := flen2 hl
          obtain rfl : f0 = false := hn 0 (by decide) (by kernel_rfl)
          obtain rfl : f1 = false := hn 1 (by decide) (by kernel_rfl)
          clear hR hl hn hd
          have hT : Fc9 w (.slice vA vn vc) (faceTo n0) x _ _ W := hS; clear hS
          have hnm := HNM.out
          refine StepZ.go rfl ?_
          go_simp
          exact ⟨Turn.ext rfl (by repeat (first | exact Ext.refl _ | assumption | refine Ext.alloc ?_ _ | refine Ext.drew ?_ | refine Ext.drewN ?_ _ | (refine Ext.setCell ?_ (by simp <;> omega) _) | refine Ext.trans ?_ (by assumption))), givesS_k (by kernel_rfl)⟩
        · intro U fl W hS hl hn hd hR
          obtain ⟨f0, f1, rfl⟩ := flen2 hl
          obtain rfl : f0 = false := hn 0 (by decide) (by kernel_rfl)
          obtain rfl : f1 = false := hn 1 (by decide) (by kernel_rfl)
          clear hR hl hn hd
          have hT : Fc9 w (.slice vA vn vc) (faceTo n0) x _ _ W := hS; clear hS
          refine StepZ.go rfl ?_
          go_simp
          exact ⟨Turn.ext rfl (by repeat (first | exact Ext.refl _ | assumption | refine Ext.alloc ?_ _ | refine Ext.drew ?_ | refine Ext.drewN ?_ _ | (refine Ext.setCell ?_ (by simp <;> omega) _) | refine Ext.trans ?_ (by assumption))), givesS_k (by kernel_rfl)⟩
        · intro U fl W hS hl hn hd hR
          obtain ⟨f0, f1, rfl⟩ := flen2 hl
          obtain rfl : f0 = false := hn 0 (by decide) (by kernel_rfl)
          obtain rfl : f1 = false := hn 1 (by decide) (by kernel_rfl)
          clear hR hl hn hd
          have hT : Fc9 w (.slice vA vn vc) (faceTo n0) x _ _ W := hS; clear hS
          refine StepZ.go rfl ?_
          go_simp
          exact ⟨Turn.ext rfl (by repeat (first | exact Ext.refl _ | assumption | refine Ext.alloc ?_ _ | refine Ext.drew ?_ | refine Ext.drewN ?_ _ | (refine Ext.setCell ?_ (by simp <;> omega) _) | refine Ext.trans ?_ (by assumption))), givesS_k (by kernel_rfl)⟩
        · intro U fl W hS hl hn hd hR
          obtain ⟨f0, f1, rfl⟩ := flen2 hl
          obtain rfl : f0 = false := hn 0 (by decide) (by kernel_rfl)
          obtain rfl : f1 = false := hn 1 (by decide) (by kernel_rfl)
          clear hR hl hn hd
          have hT : Fc9 w (.slice vA vn vc) (faceTo n0) x _ _ W := hS; clear hS
          refine StepZ.go rfl ?_
          go_simp
          exact ⟨Turn.ext rfl (by repeat (first | exact Ext.refl _ | assumption | refine Ext.alloc ?_ _ | refine Ext.drew ?_ | refine Ext.drewN ?_ _ | (refine Ext.setCell ?_ (by simp <;> omega) _) | refine Ext.trans ?_ (by assumption))), givesS_k (by kernel_rfl)⟩
        · intro U fl W hS hl hn hd hR
          obtain ⟨f0, f1, rfl⟩ := flen2 hl
          obtain rfl : f0 = false := hn 0 (by decide) (by kernel_rfl)
          obtain rfl : f1 = false := hn 1 (by decide) (by kernel_rfl)
          clear hR hl hn hd
          have hT : Fc9 w (.slice vA vn vc) (faceTo n0) x _ _ W := hS; clear hS
          refine StepZ.go rfl ?_
          go_simp
          exact ⟨Turn.ext rfl (by repeat (first | exact Ext.refl _ | assumption | refine Ext.alloc ?_ _ | refine Ext.drew ?_ | refine Ext.drewN ?_ _ | (refine Ext.setCell ?_ (by simp <;> omega) _) | refine Ext.trans ?_ (by assumption))), givesS_k (by kernel_rfl)⟩
        · intro U fl W hS hl hn hd hR
          obtain ⟨f0, f1, rfl⟩ := flen2 hl
          obtain rfl : f0 = false := hn 0 (by decide) (by kernel_rfl)
          obtain rfl : f1 = false := hn 1 (by decide) (by kernel_rfl)
          clear hR hl hn hd
          have hT : Fc9 w (.slice vA vn vc) (faceTo n0) x _ _ W := hS; clear hS
          refine StepZ.go rfl ?_
          go_simp
          exact ⟨Turn.ext rfl (by repeat (first | exact Ext.refl _ | assumption | refine Ext.alloc ?_ _ | refine Ext.drew ?_ | refine Ext.drewN ?_ _ | (refine Ext.setCell ?_ (by simp <;> omega) _) | refine Ext.trans ?_ (by assumption))), givesS_k (by kernel_rfl)⟩
        · intro U fl W hS hl hn hd hR
          obtain ⟨f0, f1, rfl⟩ := flen2 hl
          obtain rfl : f0 = false := hn 0 (by decide) (by kernel_rfl)
          obtain rfl : f1 = false := hn 1 (by decide) (by kernel_rfl)
          clear hR hl hn hd
          have hT : Fc9 w (.slice vA vn vc) (faceTo n0) x _ _ W := hS; clear hS
          refine StepZ.go rfl ?_
          go_simp
          exact ⟨Turn.ext rfl (by repeat (first | exact Ext.refl _ | assumption | refine Ext.alloc ?_ _ | refine Ext.drew ?_ | refine Ext.drewN ?_ _ | (refine Ext.setCell ?_ (by simp <;> omega) _) | refine Ext.trans ?_ (by assumption))), givesS_k (by kernel_rfl)⟩
        · intro U fl W hS hl hn hd hR
          obtain ⟨f0, f1, rfl⟩ := flen2 hl
          obtain rfl : f0 = false := hn 0 (by decide) (by kernel_rfl)
          obtain rfl : f1 = false := hn 1 (by decide) (by kernel_rfl)
          clear hR hl hn hd
          have hT : Fc9 w (.slice vA vn vc) (faceTo n0) x _ _ W := hS; clear hS
          refine StepZ.go rfl ?_
          go_simp
          exact ⟨Turn.ext rfl (by repeat (first | exact Ext.refl _ | assumption | refine Ext.alloc ?_ _ | refine Ext.drew ?_ | refine Ext.drewN ?_ _ | (refine Ext.setCell ?_ (by simp <;> omega) _) | refine Ext.trans ?_ (by assumption))), givesS_e (by kernel_rfl) ⟨fun _ => fun _ => ⟨_, rfl, Blk.new W _ _⟩, fun e => absurd e (by decide)⟩⟩
        · intro U fl W hS hl hn hd hR
          obtain ⟨f0, f1, rfl⟩ := flen2 hl
          obtain rfl : f0 = false := hn 0 (by decide) (by kernel_rfl)
          obtain rfl : f1 = false := hn 1 (by decide) (by kernel_rfl)
          have r11 := (hR 11 (by decide) (by kernel_rfl)).1 rfl; obtain ⟨g6, e11_, hb6⟩ := r11 rfl
          clear hR hl hn hd
          have hT : Fc9 w (.slice vA vn vc) (faceTo n0) x _ _ W := hS; clear hS
          refine StepZ.appendE sortElt rfl (.tmp 18) (.tmp 28) rfl (w.heap.size + 2) (faceTo n0).length (.slice vA vn vc) (sortCells (faceTo n0)) ?_ (hT.own rfl) g6 [.string nm, .string tx, .int .i64 2, .int .i64 (300 + 10 * (n0 : Int))] ?_ rfl (fun j y hj => hb6.cell j y (by simpa using hj)) (fun y hy => by simp at hy; rcases hy with rfl | rfl | rfl | rfl <;> rfl) (by have := HFL.out; omega) (by have := (hT.rd0 rfl).lt; have := hT.lit.lt; omega) fun v' w' ho hg hk => ⟨Turn.sp rfl (hT.app hg) (fun k9 v9 hk9 h9 => ⟨fun e => by subst e; exact (fun h0 => absurd (show true = false from h0) (by decide)), fun e => by subst e; exact clo_no hk9 (by kernel_rfl)⟩), givesS_e (by kernel_rfl) ⟨fun e => absurd e (by decide), fun _ => ownT_form (by unfold OwnT; rw [sortCells_snoc, HXC.out]; simpa using ho)⟩⟩ <;> (go_simp <;> exact e11_)
        · intro U fl W hS hl hn hd hR
          obtain ⟨f0, f1, rfl⟩ := flen2 hl
          obtain rfl : f1 = false := hn 1 (by decide) (by kernel_rfl)
          clear hR hl hn hd
          have hT : Fc9 w (.slice vA vn vc) (faceTo n0) x _ _ W := hS; clear hS
          refine StepZ.go rfl ?_
          go_simp
          exact ⟨Turn.ext rfl (by repeat (first | exact Ext.refl _ | assumption | refine Ext.alloc ?_ _ | refine Ext.drew ?_ | refine Ext.drewN ?_ _ | (refine Ext.setCell ?_ (by simp <;> omega) _) | refine Ext.trans ?_ (by assumption))), givesS_k (by kernel_rfl)⟩
        · intro U fl W hS hl hn hd hR
          obtain ⟨f0, f1, rfl⟩ := flen2 hl
          obtain rfl : f0 = true := hd 0 (by decide) (by kernel_rfl)
          obtain rfl : f1 = false := hn 1 (by decide) (by kernel_rfl)
          have r12 := (hR 12 (by decide) (by kernel_rfl)).2 rfl; obtain ⟨X7, n7, c7, e12_, o7⟩ := r12
          clear hR hl hn hd
          have hT : Fc9 w (.slice vA vn vc) (faceTo n0) x _ _ W := hS; clear hS
          rw [e12_] at o7; (try rw [e12_]); have y1 := (hT.rd0 rfl).cell 2 (.slice vA vn vc) rfl; have l1 := (hT.rd0 rfl).lt; have yf := (hT.rd0 rfl).frozen 2
          refine StepZ.go rfl ?_
          go_simp
          exact ⟨rfl, Turn.sp rfl (hT.sto o7) (fun k9 v9 hk9 h9 => ⟨fun e => by subst e; exact (fun h0 => let ⟨g, h1, h2⟩ := (((h9.1 rfl)) h0); ⟨g, h1, h2.far (p := ⟨w.heap.size + 1, 2, none⟩) (blk_neT h2 (hT.rd0 rfl) (by decide)) _⟩), fun e => by subst e; exact (OwnTS.far ((h9.2 rfl)) (hT.rd0 rfl))⟩), givesS_k (by kernel_rfl)⟩
        · intro U W hS hR
          have r12 := (hR 12 (by decide) (by kernel_rfl)).2 rfl; obtain ⟨X7, n7, c7, e12_, o7⟩ := r12
          clear hR
          have hT : Fc9 w (.slice vA vn vc) (faceTo n0) x true true W := hS; clear hS
          simp only [putAll, vu, Act.put, List.setIfInBounds_toArray, List.set_cons_zero, List.set_cons_succ]
          (try simp only [e12_])
          obtain ⟨v', h1, h2⟩ := hT.rd1 rfl
          have HT9 := Lib.hid hT
          have HV1 := Lib.hid h1; have HV2 := Lib.hid h2
          clear hT h1 h2 o7
          go_wp2
          go_roundw
          case rel => exact ⟨n0 + 1, v', by omega, by go_num, Lib.hid (by rw [HFN.out]; exact ⟨HT9.out.ext, HT9.out.r0, HT9.out.lit, fun _ => HV1.out, fun e => (by cases e), fun _ => HV2.out⟩)⟩
          case measure => simp [intOf]; omega
        -- END B
    case neg =>
      -- BEGIN C
      obtain rfl : n0 = 12 := by omega
      have ik : ¬ (12 : Int) < 12 := by omega
      obtain ⟨vA, vn, vc, hv, _⟩ := ownT_form (HF.out.own rfl)
      subst hv
      have y1 := (HF.out.rd0 rfl).cell 0 (.string ⟨#[102, 97, 99, 101]⟩) rfl; have y2 := (HF.out.rd0 rfl).cell 1 (.int .i64 12) rfl; have y3 := (HF.out.rd0 rfl).cell 2 (.slice vA vn vc) rfl; have yl := (HF.out.rd0 rfl).lt; have yf := (HF.out.rd0 rfl).frozen 2
      clear hlt
      go_upto_region 12 with (first | (at_builtin; refine list_appendC sortElt rfl (.tmp 33) (.tmp 35) rfl (w.heap.size + 2) (faceTo 12).length _ (sortCells (faceTo 12)) rfl (own_later (HF.out.own rfl) (by repeat (first | exact Ext.refl _ | assumption | refine Ext.alloc ?_ _ | refine Ext.drew ?_ | refine Ext.drewN ?_ _ | (refine Ext.setCell ?_ (by simp <;> omega) _) | refine Ext.trans ?_ (by assumption)))) (some ⟨wr.heap.size, 0, none⟩) 1 1 [.string ⟨#[109, 105, 100]⟩, .string ⟨#[]⟩, .int .i64 3, .int .i64 180] rfl (RC.blk (n := 1) (Blk.new wr 88 #[.string ⟨#[109, 105, 100]⟩, .string ⟨#[]⟩, .int .i64 3, .int .i64 180]) rfl (by decide)) (fun y hy => by simp at hy; rcases hy with rfl | rfl | rfl | rfl <;> rfl) (by decide) (by simp; omega) ?_; intro v' w' ho hg; have HX9 : Hid (Ext w w') := Lib.hid ((Ext.trans HF.out.ext (by repeat (first | exact Ext.refl _ | assumption | refine Ext.alloc ?_ _ | refine Ext.drew ?_ | refine Ext.drewN ?_ _ | (refine Ext.setCell ?_ (by simp <;> omega) _) | refine Ext.trans ?_ (by assumption)))).grown hg (fun k e => by have := (World.ownsRow.lt (HF.out.own rfl) k e).1; omega)); have HB1 := Lib.hid (((HF.out.rd0 rfl).alloc _).grownB hg (fun e => by obtain ⟨c9, h9⟩ := own_is (HF.out.own rfl) e; exact blk_neT h9 (HF.out.rd0 rfl) (by decide) rfl)); have HB0 := Lib.hid ((HF.out.r0.alloc _).grownB hg (fun e => by obtain ⟨c9, h9⟩ := own_is (HF.out.own rfl) e; exact blk_neT h9 HF.out.r0 (by decide) rfl)); obtain ⟨X9, c9, hv9, hcl, hcm, hrt⟩ := face_end ho; subst hv9; have HRT := Lib.hid hrt; clear ho hg y1 y2 y3 yl yf hrt; have y1 := HB1.out.cell 0 _ rfl; have y2 := HB1.out.cell 1 _ rfl; have y3 := HB1.out.cell 2 _ rfl; have yl := HB1.out.lt; have yf0 := HB1.out.frozen 0; have yf1 := HB1.out.frozen 1; have yf2 := HB1.out.frozen 2; have z1 := HB0.out.cell 0 _ rfl; have z2 := HB0.out.cell 1 _ rfl; have z3 := HB0.out.cell 2 _ rfl; have zl := HB0.out.lt; have zf0 := HB0.out.frozen 0; have zf1 := HB0.out.frozen 1; have zf2 := HB0.out.frozen 2))
      go_wp2
      have o1 := ownT_far (i := 2) (u := .slice X9 13 c9) HRT.out HB1.out
      have b1 := HB0.out.far (p := ⟨w.heap.size + 1, 2, none⟩) (by simp only; omega) (.slice X9 13 c9)
      have o2 := ownT_far (i := 0) (u := .string ⟨#[102, 97, 99, 101]⟩) o1 b1
      have b2 := b1.set_ 0 (.string ⟨#[102, 97, 99, 101]⟩)
      have o3 := ownT_far (i := 1) (u := .int .i64 12) o2 b2
      have b3 := b2.set_ 1 (.int .i64 12)
      have o4 := ownT_far (i := 2) (u := .slice X9 13 c9) o3 b3
      have b4 := b3.set_ 2 (.slice X9 13 c9)
      have g1 := b4.cell 0 _ rfl; have g2 := b4.cell 1 _ rfl; have g3 := b4.cell 2 _ rfl
      refine bodyPost_ret (v := .agg #[.string ⟨#[102, 97, 99, 101]⟩, .int .i64 12, .slice X9 13 c9]) (by simp [results, Tryz.results60, go_sem, g1, g2, g3]) rfl ?_
      obtain ⟨A2, c2, hv2, _, _, hrt⟩ := o4.form (by decide)
      have hlen : face.sorts.length = 13 := rfl
      rw [hlen] at hv2 hrt
      injection hv2 with e1 _ e2
      subst e1 e2
      exact ⟨X9, c9, rfl, ⟨hrt, by decide, face_sz, by unfold I64; decide, hcl, hcm⟩, (((HX9.out.setCell (p := ⟨w.heap.size + 1, 2, none⟩) (by simp only; omega) _).setCell (p := ⟨w.heap.size, 0, none⟩) (by simp only; omega) _).setCell (p := ⟨w.heap.size, 1, none⟩) (by simp only; omega) _).setCell (p := ⟨w.heap.size, 2, none⟩) (by simp only; omega) _⟩
      -- END C
end Go.Proofs.YtccdnieoaejgdaaGreatDoor
