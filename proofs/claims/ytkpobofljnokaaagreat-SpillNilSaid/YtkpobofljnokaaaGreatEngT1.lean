import Derived.Test.YtkpobofljnokaaaGreatEngK
namespace Go.Eng
open Go.Proofs

/-- May weights be? -/
def rightD (d : Dat) : Bool := decide (1 ≤ d.rows.length) && decide (d.rows.length ≤ 8) && d.rows.all fun r => decide (1 ≤ (r.getD 0 (.n 0)).int) && decide ((r.getD 0 (.n 0)).int ≤ 1000)

noncomputable def body110 : Code := (Tryz.f110.body).getD .skip
def path110 : List Dir := [.r, .r, .l, .r, .b]
def loopOf : Option Code → Code
  | some (.loop c) => c
  | _ => .skip
noncomputable def loop110 : Code := loopOf (Code.at body110 path110)

def blk1 : List (Nat × ABlk) := [(0, .pack [⟨[.num .i64], .sym 0, false⟩] false)]
def L0 : Tm := .op .len [.sym 0]
def A1 : Tm := .op (.at 0) [.sym 0, .sym 1]
def s110 (b : Bool) : St := ⟨26, [(2, .bool b), (13, .ref 0 0), (14, .sint .i64 L0), (15, .sint .i64 (.sym 1))], [], false, 1, blk1⟩
def r1 : Ren := ⟨1, [], []⟩

theorem at110 : Code.at body110 path110 = some (.loop loop110) := by kernel_rfl

theorem go110 : runCan (Kg [.lt (.sym 1) L0, .le (.lit 0) (.sym 1), .le (.lit 1) A1, .le A1 (.lit 1000), .rng .i64 (.op .add [.sym 1, .lit 1])] []) 60 loop110 (s110 false) r1 (s110 false) .normal 1 [(L0, L0), (.op .add [.sym 1, .lit 1], .sym 1)] = true := by kernel_rfl
theorem end110 : runCan (Kg [.le L0 (.sym 1)] []) 60 loop110 (s110 false) r1 (s110 false) (.exit 0) 2 [] = true := by kernel_rfl
theorem bad110a : runCan (Kg [.lt (.sym 1) L0, .le (.lit 0) (.sym 1), .lt A1 (.lit 1)] []) 60 loop110 (s110 false) r1 (s110 false) .ret 2 [] = true := by kernel_rfl
theorem bad110b : runCan (Kg [.lt (.sym 1) L0, .le (.lit 0) (.sym 1), .le (.lit 1) A1, .lt (.lit 1000) A1] []) 60 loop110 (s110 false) r1 (s110 false) .ret 2 [] = true := by kernel_rfl

theorem go_to : toB (Kg [.le (.lit 1) L0, .le L0 (.lit 8)] []) 60 body110 path110 ⟨26, paramsB [.ref 0 0] 0 .e, [], false⟩ (AH.of 1 blk1) r1 (s110 false) 1 [(.lit 0, .sym 1)] = true := by kernel_rfl
theorem from110 : fromB (Kg [] []) 60 body110 path110 (.exit 0) (s110 false) Tryz.f110 r1 (.bool true) 1 blk1 1 [] = true := by kernel_rfl
theorem fromBad : fromB (Kg [] []) 60 body110 path110 .ret (s110 false) Tryz.f110 r1 (.bool false) 1 blk1 1 [] = true := by kernel_rfl
theorem short110 : callCan (Kg [.lt L0 (.lit 1)] []) 60 110 [.ref 0 0] 1 blk1 r1 (.bool false) 1 blk1 1 [] = true := by kernel_rfl
theorem long110 : callCan (Kg [.le (.lit 1) L0, .lt (.lit 8) L0] []) 60 110 [.ref 0 0] 1 blk1 r1 (.bool false) 1 blk1 1 [] = true := by kernel_rfl

def goodR (r : List Dat) : Bool := decide (1 ≤ (r.getD 0 (.n 0)).int) && decide ((r.getD 0 (.n 0)).int ≤ 1000)

theorem ev_sym (ρ : Rho) (i : Nat) : (Tm.sym i).ev ρ = ρ.s i := by simp [Tm.ev]
theorem int_sym (ρ : Rho) (i : Nat) : (Tm.sym i).int ρ = (ρ.s i).int := by simp [Tm.int, Tm.ev]
theorem int_at (ρ : Rho) (t i : Tm) (c : Nat) : (Tm.op (.at c) [t, i]).int ρ = ((t.ev ρ).at (i.int ρ) c).int := by simp [Tm.int, Tm.ev, Tm.evs, BOp.ev]
theorem int_len' (ρ : Rho) (t : Tm) : (Tm.op .len [t]).int ρ = ((t.ev ρ).rows.length : Int) := int_len t
theorem i64_min : IntKind.i64.min = -9223372036854775808 := by decide
theorem i64_max : IntKind.i64.max = 9223372036854775807 := by decide

/-- The facts, laid open. -/
theorem sok_of {g : List Fact} {s : List (Nat × Known)} {ρ : Rho} (h : AllHold ρ g) : SOK (Kg g s) ρ := h
theorem allHold_nil {ρ : Rho} : AllHold ρ [] := fun _ h => by cases h
theorem allHold_cons {ρ : Rho} {f : Fact} {l : List Fact} (h : f.holds ρ) (hl : AllHold ρ l) : AllHold ρ (f :: l) := fun x hx => by
  cases hx with
  | head => exact h
  | tail _ hx => exact hl x hx
theorem agrees_nil {ρ1 ρ2 : Rho} : Agrees ρ1 ρ2 [] := fun _ h => by cases h
theorem agrees_cons {ρ1 ρ2 : Rho} {a b : Tm} {l : Pairs} (h : a.ev ρ1 = b.ev ρ2) (hl : Agrees ρ1 ρ2 l) : Agrees ρ1 ρ2 ((a, b) :: l) := fun x hx => by
  cases hx with
  | head => exact h
  | tail _ hx => exact hl x hx

theorem loop110_ok (ρ : Rho) (hb : (ρ.s 0).rows.length ≤ 8) : ∀ (m k : Nat), k + m = (ρ.s 0).rows.length →
    ∃ d, JobX Tryz.prog (ρ.set 1 (.n k)) (s110 false).heap (ρ.set 1 d) (s110 false).heap (.code (.loop loop110) (s110 false).env) (.done (if ((ρ.s 0).rows.drop k).all goodR then .exit 0 else .ret) (s110 false).env)
  | m, k, hkm => by
    have s0 : (ρ.set 1 (.n k)).s 0 = ρ.s 0 := Rho.set_ne ρ _ (by decide)
    have s1 : (ρ.set 1 (.n k)).s 1 = .n k := Rho.set_self ρ _ _
    have hL : L0.int (ρ.set 1 (.n k)) = ((ρ.s 0).rows.length : Int) := by rw [L0, int_len', ev_sym, s0]
    have h1 : (Tm.sym 1).int (ρ.set 1 (.n k)) = (k : Int) := by rw [int_sym, s1]; rfl
    cases m with
    | zero =>
      have hall : ((ρ.s 0).rows.drop k).all goodR = true := by rw [List.drop_eq_nil_of_le (by omega)]; rfl
      rw [hall]
      refine ⟨.n k, ?_⟩
      refine JobX.loopEnd (by simp) (JobX.ofRun (cokg _ _) (sok_of (allHold_cons ?_ allHold_nil)) (SumOK.none rfl) end110 Alike.refl agrees_nil)
      simp only [Fact.holds, hL, h1]; omega
    | succ m =>
      have hk : k < (ρ.s 0).rows.length := by omega
      have hdrop : (ρ.s 0).rows.drop k = (ρ.s 0).rows[k] :: (ρ.s 0).rows.drop (k + 1) := List.drop_eq_getElem_cons hk
      have hA : A1.int (ρ.set 1 (.n k)) = ((ρ.s 0).rows[k].getD 0 (.n 0)).int := by
        rw [A1, int_at, ev_sym, s0, h1]
        simp [Dat.at, List.getD_eq_getElem?_getD, List.getElem?_eq_getElem hk]
      by_cases g1 : 1 ≤ ((ρ.s 0).rows[k].getD 0 (.n 0)).int
      · by_cases g2 : ((ρ.s 0).rows[k].getD 0 (.n 0)).int ≤ 1000
        · obtain ⟨d, ih⟩ := loop110_ok ρ hb m (k + 1) (by omega)
          have hall : ((ρ.s 0).rows.drop k).all goodR = ((ρ.s 0).rows.drop (k + 1)).all goodR := by
            have hg : goodR (ρ.s 0).rows[k] = true := by simp [goodR, -List.getD_eq_getElem?_getD, g1, g2]
            rw [hdrop, List.all_cons, hg, Bool.true_and]
          rw [hall]
          refine ⟨d, JobX.loopNext (JobX.ofRun (cokg _ _) (sok_of ?_) (SumOK.none rfl) go110 (Rho.alike2 ρ _ _ (Nat.le_refl 1)) ?_) ih⟩
          · refine allHold_cons ?_ (allHold_cons ?_ (allHold_cons ?_ (allHold_cons ?_ (allHold_cons ?_ allHold_nil)))) <;> simp only [Fact.holds, hL, h1, hA, int_lit, int_add, i64_min, i64_max] <;> omega
          · refine agrees_cons ?_ (agrees_cons ?_ agrees_nil)
            · simp [L0, Tm.ev, Tm.evs, Rho.set]
            · simp [Tm.ev, Tm.evs, BOp.ev, num2, Rho.set, Dat.int]
        · have hall : ((ρ.s 0).rows.drop k).all goodR = false := by
            have hg : goodR (ρ.s 0).rows[k] = false := by unfold goodR; rw [decide_eq_false g2, Bool.and_false]
            rw [hdrop, List.all_cons, hg, Bool.false_and]
          rw [hall]
          refine ⟨.n k, JobX.loopEnd (by simp) (JobX.ofRun (cokg _ _) (sok_of ?_) (SumOK.none rfl) bad110b Alike.refl agrees_nil)⟩
          refine allHold_cons ?_ (allHold_cons ?_ (allHold_cons ?_ (allHold_cons ?_ allHold_nil))) <;> simp only [Fact.holds, hL, h1, hA, int_lit] <;> omega
      · have hall : ((ρ.s 0).rows.drop k).all goodR = false := by
          have hg : goodR (ρ.s 0).rows[k] = false := by unfold goodR; rw [decide_eq_false g1, Bool.false_and]
          rw [hdrop, List.all_cons, hg, Bool.false_and]
        rw [hall]
        refine ⟨.n k, JobX.loopEnd (by simp) (JobX.ofRun (cokg _ _) (sok_of ?_) (SumOK.none rfl) bad110a Alike.refl agrees_nil)⟩
        refine allHold_cons ?_ (allHold_cons ?_ (allHold_cons ?_ allHold_nil)) <;> simp only [Fact.holds, hL, h1, hA, int_lit] <;> omega

theorem fn110 (g : List Fact) (s : List (Nat × Known)) : (Kg g s).fn.get 110 = some Tryz.f110 := by kernel_rfl
theorem bd110 : Tryz.f110.body = some body110 := by kernel_rfl
theorem nm110 : nameOK Tryz.f110 = true := by kernel_rfl

/-- share.Right of whatever weights. -/
theorem right_ok (ρ : Rho) : JobX Tryz.prog ρ (AH.of 1 blk1) ρ (AH.of 1 blk1) (.call 110 [.ref 0 0]) (.val (.bool (rightD (ρ.s 0)))) := by
  have hL : ∀ ρ : Rho, L0.int ρ = ((ρ.s 0).rows.length : Int) := fun ρ => by rw [L0, int_len', ev_sym]
  by_cases l1 : 1 ≤ (ρ.s 0).rows.length
  · by_cases l8 : (ρ.s 0).rows.length ≤ 8
    · obtain ⟨d, hl⟩ := loop110_ok ρ l8 (ρ.s 0).rows.length 0 (by omega)
      have hr : rightD (ρ.s 0) = (ρ.s 0).rows.all goodR := by
        unfold rightD; rw [decide_eq_true l1, decide_eq_true l8]; rfl
      simp only [List.drop_zero] at hl
      rw [hr]
      have hto : SOK (Kg [.le (.lit 1) L0, .le L0 (.lit 8)] []) ρ := sok_of (by
        refine allHold_cons ?_ (allHold_cons ?_ allHold_nil) <;> simp only [Fact.holds, hL, int_lit] <;> omega)
      have hag : Agrees ρ (ρ.set 1 (.n ((0 : Nat) : Int))) [(.lit 0, .sym 1)] := agrees_cons (by simp [Tm.ev, Rho.set]) agrees_nil
      cases hall : (ρ.s 0).rows.all goodR with
      | true =>
        rw [hall] at hl
        exact JobX.callWithin (cokg _ _) hto (SumOK.none rfl) (cokg _ _) (sok_of allHold_nil) (SumOK.none rfl) rfl (fn110 _ _) bd110 nm110 at110 go_to (Nat.le_refl _) (Rho.alike ρ _ (Nat.le_refl _)) hag hl from110 (Nat.le_refl _)
          ⟨fun i hi => by rw [Rho.set_ne ρ _ (by omega)], rfl, rfl⟩ agrees_nil
      | false =>
        rw [hall] at hl
        exact JobX.callWithin (cokg _ _) hto (SumOK.none rfl) (cokg _ _) (sok_of allHold_nil) (SumOK.none rfl) rfl (fn110 _ _) bd110 nm110 at110 go_to (Nat.le_refl _) (Rho.alike ρ _ (Nat.le_refl _)) hag hl fromBad (Nat.le_refl _)
          ⟨fun i hi => by rw [Rho.set_ne ρ _ (by omega)], rfl, rfl⟩ agrees_nil
    · have hr : rightD (ρ.s 0) = false := by unfold rightD; rw [decide_eq_false l8]; simp
      rw [hr]
      refine JobX.ofCall (cokg _ _) (sok_of ?_) (SumOK.none rfl) long110 Alike.refl agrees_nil
      refine allHold_cons ?_ (allHold_cons ?_ allHold_nil) <;> simp only [Fact.holds, hL, int_lit] <;> omega
  · have hr : rightD (ρ.s 0) = false := by unfold rightD; rw [decide_eq_false l1]; simp
    rw [hr]
    refine JobX.ofCall (cokg _ _) (sok_of ?_) (SumOK.none rfl) short110 Alike.refl agrees_nil
    refine allHold_cons ?_ allHold_nil; simp only [Fact.holds, hL, int_lit]; omega
end Go.Eng
