import Derived.Test.YtkpobofljnokaaaGreatEngT1
import Derived.Test.YtkpobofljnokaaaGreatEng33
namespace Go.Eng
open Go.Proofs

noncomputable def body61 : Code := (Tryz.f61.body).getD .skip
def path61 : List Dir := [.r, .l, .r, .b]
noncomputable def loop61 : Code := loopOf (Code.at body61 path61)
def s61 : St := ⟨26, [(0, .ref 0 0), (2, .bool false), (5, .ref 0 0), (6, .sint .i64 L0), (7, .sint .i64 (.sym 1))], [], false, 1, blk1⟩
theorem at61 : Code.at body61 path61 = some (.loop loop61) := by kernel_rfl
theorem go61 : runCan (Kg [.lt (.sym 1) L0, .le (.lit 0) (.sym 1), .le (.lit 1) A1, .le A1 (.lit 1000), .rng .i64 (.op .add [.sym 1, .lit 1])] []) 60 loop61 s61 r1 s61 .normal 1 [(L0, L0), (.op .add [.sym 1, .lit 1], .sym 1)] = true := by kernel_rfl
theorem end61 : runCan (Kg [.le L0 (.sym 1)] []) 60 loop61 s61 r1 s61 (.exit 0) 2 [] = true := by kernel_rfl
theorem bad61a : runCan (Kg [.lt (.sym 1) L0, .le (.lit 0) (.sym 1), .lt A1 (.lit 1)] []) 60 loop61 s61 r1 s61 .ret 2 [] = true := by kernel_rfl
theorem bad61b : runCan (Kg [.lt (.sym 1) L0, .le (.lit 0) (.sym 1), .le (.lit 1) A1, .lt (.lit 1000) A1] []) 60 loop61 s61 r1 s61 .ret 2 [] = true := by kernel_rfl
theorem to61 : toB (Kg [] []) 60 body61 path61 ⟨26, paramsB [.ref 0 0] 0 .e, [], false⟩ (AH.of 1 blk1) r1 s61 1 [(.lit 0, .sym 1)] = true := by kernel_rfl
theorem from61 : fromB (Kg [.lt (.lit 0) L0, .lt L0 (.lit 9)] []) 60 body61 path61 (.exit 0) s61 Tryz.f61 r1 (.bool true) 1 blk1 1 [] = true := by kernel_rfl
theorem from61s : fromB (Kg [.le L0 (.lit 0)] []) 60 body61 path61 (.exit 0) s61 Tryz.f61 r1 (.bool false) 1 blk1 1 [] = true := by kernel_rfl
theorem from61l : fromB (Kg [.lt (.lit 0) L0, .le (.lit 9) L0] []) 60 body61 path61 (.exit 0) s61 Tryz.f61 r1 (.bool false) 1 blk1 1 [] = true := by kernel_rfl
theorem from61b : fromB (Kg [] []) 60 body61 path61 .ret s61 Tryz.f61 r1 (.bool false) 1 blk1 1 [] = true := by kernel_rfl
theorem fn61 (g : List Fact) (s : List (Nat × Known)) : (Kg g s).fn.get 61 = some Tryz.f61 := by kernel_rfl
theorem bd61 : Tryz.f61.body = some body61 := by kernel_rfl
theorem nm61 : nameOK Tryz.f61 = true := by kernel_rfl

theorem loop61_ok (ρ : Rho) (hb : (ρ.s 0).rows.length ≤ 9223372036854775807) : ∀ (m k : Nat), k + m = (ρ.s 0).rows.length →
    ∃ d, JobX Tryz.prog (ρ.set 1 (.n k)) s61.heap (ρ.set 1 d) s61.heap (.code (.loop loop61) s61.env) (.done (if ((ρ.s 0).rows.drop k).all goodR then .exit 0 else .ret) s61.env)
  | m, k, hkm => by
    have s0 : (ρ.set 1 (.n k)).s 0 = ρ.s 0 := Rho.set_ne ρ _ (by decide)
    have s1 : (ρ.set 1 (.n k)).s 1 = .n k := Rho.set_self ρ _ _
    have hL : L0.int (ρ.set 1 (.n k)) = ((ρ.s 0).rows.length : Int) := by rw [L0, int_len', ev_sym, s0]
    have h1 : (Tm.sym 1).int (ρ.set 1 (.n k)) = (k : Int) := by rw [int_sym, s1]; rfl
    cases m with
    | zero =>
      have hall : ((ρ.s 0).rows.drop k).all goodR = true := by rw [List.drop_eq_nil_of_le (by omega)]; rfl
      rw [hall]
      refine ⟨.n k, ?_⟩
      refine JobX.loopEnd (by simp) (JobX.ofRun (cokg _ _) (sok_of (allHold_cons ?_ allHold_nil)) (SumOK.none rfl) end61 Alike.refl agrees_nil)
      simp only [Fact.holds, hL, h1]; omega
    | succ m =>
      have hk : k < (ρ.s 0).rows.length := by omega
      have hdrop : (ρ.s 0).rows.drop k = (ρ.s 0).rows[k] :: (ρ.s 0).rows.drop (k + 1) := List.drop_eq_getElem_cons hk
      have hA : A1.int (ρ.set 1 (.n k)) = ((ρ.s 0).rows[k].getD 0 (.n 0)).int := by
        rw [A1, int_at, ev_sym, s0, h1]
        simp [Dat.at, List.getD_eq_getElem?_getD, List.getElem?_eq_getElem hk]
      by_cases g1 : 1 ≤ ((ρ.s 0).rows[k].getD 0 (.n 0)).int
      · by_cases g2 : ((ρ.s 0).rows[k].getD 0 (.n 0)).int ≤ 1000
        · obtain ⟨d, ih⟩ := loop61_ok ρ hb m (k + 1) (by omega)
          have hall : ((ρ.s 0).rows.drop k).all goodR = ((ρ.s 0).rows.drop (k + 1)).all goodR := by
            have hg : goodR (ρ.s 0).rows[k] = true := by simp [goodR, -List.getD_eq_getElem?_getD, g1, g2]
            rw [hdrop, List.all_cons, hg, Bool.true_and]
          rw [hall]
          refine ⟨d, JobX.loopNext (JobX.ofRun (cokg _ _) (sok_of ?_) (SumOK.none rfl) go61 (Rho.alike2 ρ _ _ (Nat.le_refl 1)) ?_) ih⟩
          · refine allHold_cons ?_ (allHold_cons ?_ (allHold_cons ?_ (allHold_cons ?_ (allHold_cons ?_ allHold_nil)))) <;> simp only [Fact.holds, hL, h1, hA, int_lit, int_add, i64_min, i64_max] <;> omega
          · refine agrees_cons ?_ (agrees_cons ?_ agrees_nil)
            · simp [L0, Tm.ev, Tm.evs, Rho.set]
            · simp [Tm.ev, Tm.evs, BOp.ev, num2, Rho.set, Dat.int]
        · have hall : ((ρ.s 0).rows.drop k).all goodR = false := by
            have hg : goodR (ρ.s 0).rows[k] = false := by unfold goodR; rw [decide_eq_false g2, Bool.and_false]
            rw [hdrop, List.all_cons, hg, Bool.false_and]
          rw [hall]
          refine ⟨.n k, JobX.loopEnd (by simp) (JobX.ofRun (cokg _ _) (sok_of ?_) (SumOK.none rfl) bad61b Alike.refl agrees_nil)⟩
          refine allHold_cons ?_ (allHold_cons ?_ (allHold_cons ?_ (allHold_cons ?_ allHold_nil))) <;> simp only [Fact.holds, hL, h1, hA, int_lit] <;> omega
      · have hall : ((ρ.s 0).rows.drop k).all goodR = false := by
          have hg : goodR (ρ.s 0).rows[k] = false := by unfold goodR; rw [decide_eq_false g1, Bool.false_and]
          rw [hdrop, List.all_cons, hg, Bool.false_and]
        rw [hall]
        refine ⟨.n k, JobX.loopEnd (by simp) (JobX.ofRun (cokg _ _) (sok_of ?_) (SumOK.none rfl) bad61a Alike.refl agrees_nil)⟩
        refine allHold_cons ?_ (allHold_cons ?_ (allHold_cons ?_ allHold_nil)) <;> simp only [Fact.holds, hL, h1, hA, int_lit] <;> omega

/-- The document's answer, of whatever weights. -/
theorem right61_ok (ρ : Rho) (hb : (ρ.s 0).rows.length ≤ 9223372036854775807) : JobX Tryz.prog ρ (AH.of 1 blk1) ρ (AH.of 1 blk1) (.call 61 [.ref 0 0]) (.val (.bool (rightD (ρ.s 0)))) := by
  have hL : ∀ ρ : Rho, L0.int ρ = ((ρ.s 0).rows.length : Int) := fun ρ => by rw [L0, int_len', ev_sym]
  obtain ⟨d, hl⟩ := loop61_ok ρ hb (ρ.s 0).rows.length 0 (by omega)
  simp only [List.drop_zero] at hl
  have hto : SOK (Kg [] []) ρ := sok_of allHold_nil
  have hag : Agrees ρ (ρ.set 1 (.n ((0 : Nat) : Int))) [(.lit 0, .sym 1)] := agrees_cons (by simp [Tm.ev, Rho.set]) agrees_nil
  have hs0 : (ρ.set 1 d).s 0 = ρ.s 0 := Rho.set_ne ρ _ (by decide)
  have hL2 : L0.int (ρ.set 1 d) = ((ρ.s 0).rows.length : Int) := by rw [hL, hs0]
  have hal : Alike 1 (ρ.set 1 d) ρ := ⟨fun i hi => by rw [Rho.set_ne ρ _ (by omega)], rfl, rfl⟩
  cases hall : (ρ.s 0).rows.all goodR with
  | false =>
    have hr : rightD (ρ.s 0) = false := by
      show (_ && (ρ.s 0).rows.all goodR) = false
      rw [hall, Bool.and_false]
    rw [hr]
    rw [hall] at hl
    exact JobX.callWithin (cokg _ _) hto (SumOK.none rfl) (cokg _ _) (sok_of allHold_nil) (SumOK.none rfl) rfl (fn61 _ _) bd61 nm61 at61 to61 (Nat.le_refl _) (Rho.alike ρ _ (Nat.le_refl _)) hag hl from61b (Nat.le_refl _) hal agrees_nil
  | true =>
    rw [hall] at hl
    by_cases l1 : 1 ≤ (ρ.s 0).rows.length
    · by_cases l8 : (ρ.s 0).rows.length ≤ 8
      · have hr : rightD (ρ.s 0) = true := by
          show (_ && _ && (ρ.s 0).rows.all goodR) = true
          rw [hall, decide_eq_true l1, decide_eq_true l8]; rfl
        rw [hr]
        have hfr : SOK (Kg [.lt (.lit 0) L0, .lt L0 (.lit 9)] []) (ρ.set 1 d) := sok_of (by
          refine allHold_cons ?_ (allHold_cons ?_ allHold_nil) <;> simp only [Fact.holds, hL2, int_lit] <;> omega)
        exact JobX.callWithin (cokg _ _) hto (SumOK.none rfl) (cokg _ _) hfr (SumOK.none rfl) rfl (fn61 _ _) bd61 nm61 at61 to61 (Nat.le_refl _) (Rho.alike ρ _ (Nat.le_refl _)) hag hl from61 (Nat.le_refl _) hal agrees_nil
      · have hr : rightD (ρ.s 0) = false := by unfold rightD; rw [decide_eq_false l8]; simp
        rw [hr]
        have hfr : SOK (Kg [.lt (.lit 0) L0, .le (.lit 9) L0] []) (ρ.set 1 d) := sok_of (by
          refine allHold_cons ?_ (allHold_cons ?_ allHold_nil) <;> simp only [Fact.holds, hL2, int_lit] <;> omega)
        exact JobX.callWithin (cokg _ _) hto (SumOK.none rfl) (cokg _ _) hfr (SumOK.none rfl) rfl (fn61 _ _) bd61 nm61 at61 to61 (Nat.le_refl _) (Rho.alike ρ _ (Nat.le_refl _)) hag hl from61l (Nat.le_refl _) hal agrees_nil
    · have hr : rightD (ρ.s 0) = false := by unfold rightD; rw [decide_eq_false l1]; simp
      rw [hr]
      have hfr : SOK (Kg [.le L0 (.lit 0)] []) (ρ.set 1 d) := sok_of (by
        refine allHold_cons ?_ allHold_nil; simp only [Fact.holds, hL2, int_lit]; omega)
      exact JobX.callWithin (cokg _ _) hto (SumOK.none rfl) (cokg _ _) hfr (SumOK.none rfl) rfl (fn61 _ _) bd61 nm61 at61 to61 (Nat.le_refl _) (Rho.alike ρ _ (Nat.le_refl _)) hag hl from61s (Nat.le_refl _) hal agrees_nil

/-- What the names stand for here: 1 tells of weights that they may be. -/
def W0 : World0 := ⟨fun f l => match f, l with
  | 1, [d] => .n (if rightD d then 1 else 0)
  | _, _ => .n 0, fun _ _ _ _ => False⟩

def cR (f : Nat) (b : Bool) : Ctr := ⟨f, [.ref 0 0], 1, blk1, [.le L0 (.lit 9223372036854775807), .eq (.fn 1 [.sym 0]) (.lit (if b then 1 else 0))], .bool b, 1, blk1⟩

theorem right_of {ρ : Rho} {f : Nat} {b : Bool} (hf : ρ.fits W0) (h : AllHold ρ (cR f b).pre) : rightD (ρ.s 0) = b ∧ (ρ.s 0).rows.length ≤ 9223372036854775807 := by
  have h1 := h _ (.head _)
  have h2 := h _ (.tail _ (.head _))
  simp only [Fact.holds, int_lit, L0, int_len', ev_sym] at h1
  simp only [Fact.holds, Tm.int, Tm.ev, Tm.evs, hf.1, W0] at h2
  refine ⟨?_, by omega⟩
  cases b <;> cases hr : rightD (ρ.s 0) <;> simp_all [Dat.int]

theorem cR110_ok (b : Bool) : (cR 110 b).Valid Tryz.prog W0 := fun ρ hf h => by
  have := right_ok ρ
  rw [(right_of hf h).1] at this
  exact this
theorem cR61_ok (b : Bool) : (cR 61 b).Valid Tryz.prog W0 := fun ρ hf h => by
  have := right61_ok ρ (right_of hf h).2
  rw [(right_of hf h).1] at this
  exact this
end Go.Eng
