/- The engine, sixth part: operations that change nothing. -/
import Derived.Test.YtkpobofljnokaaaGreatEng5
namespace Go.Eng
section
variable {K : Cfg} {ρ : Rho} {μ : Mu} {S : Ids} {H G : AH} {w : World} {P : Program}

/-! ### Two operands -/
def plainPair : Value → Value → Bool
  | .int _ _, .int _ _ => false
  | .float _ _, .float _ _ => false
  | .complex _ _ _, .complex _ _ _ => false
  | .string _, .string _ => false
  | _, _ => true

theorem binOp_eql {t : TypeId} {x y : Value} (h : plainPair x y = true) : binOp .eql t x y = (do pure (.bool (← Op.equal t x y))) := by
  cases x <;> cases y <;> first | rfl | (simp [plainPair] at h)
theorem binOp_neq {t : TypeId} {x y : Value} (h : plainPair x y = true) : binOp .neq t x y = (do pure (.bool (!(← Op.equal t x y)))) := by
  cases x <;> cases y <;> first | rfl | (simp [plainPair] at h)

def guardFree : Value → Value → Bool
  | .nilIface, .nilIface => false
  | .agg _, .agg _ => false
  | _, _ => true

theorem run_eqGuard {op : BinOp} {t : TypeId} {X Y : Operand} {x y : Value} (h : guardFree x y = true) : (eqGuard op t X Y x y).run P w = .ok () w := by
  unfold eqGuard
  cases hop : (op matches .eql | .neq) with
  | false => cases op <;> simp at hop <;> simp
  | true => cases op <;> simp at hop <;> simp <;> (split <;> simp_all [guardFree])

theorem run_eqGuard_no {op : BinOp} {t : TypeId} {X Y : Operand} {x y : Value} (h : op ≠ .eql) (h' : op ≠ .neq) : (eqGuard op t X Y x y).run P w = .ok () w := by
  unfold eqGuard
  cases op <;> simp_all

/-- The kind of a value, as far as two operands' equality asks for it. -/
def vkV : Value → Nat
  | .nilIface => 1
  | .agg _ => 2
  | .int _ _ => 3
  | .string _ => 4
  | .float _ _ => 5
  | .complex _ _ _ => 6
  | _ => 0
def vk : AVal → Nat
  | .nilIface => 1
  | .agg _ => 2
  | .int _ _ => 3
  | .sint _ _ => 3
  | .str _ => 4
  | _ => 0
theorem vk_conc (x : AVal) : vkV (conc μ ρ x) = vk x := by
  cases x
  case slice b o n c => cases c <;> simp [conc, vkV, vk]
  all_goals simp [conc, vkV, vk, hdr, elemPtr]
theorem guardFree_of {a b : Value} (h1 : ¬ (vkV a = 1 ∧ vkV b = 1)) (h2 : ¬ (vkV a = 2 ∧ vkV b = 2)) : guardFree a b = true := by
  cases a <;> cases b <;> first | rfl | exact absurd ⟨rfl, rfl⟩ h1 | exact absurd ⟨rfl, rfl⟩ h2
theorem plainPair_of {a b : Value} (h3 : ¬ (vkV a = 3 ∧ vkV b = 3)) (h4 : ¬ (vkV a = 4 ∧ vkV b = 4)) (h5 : vkV a ≠ 5) (h6 : vkV a ≠ 6) : plainPair a b = true := by
  cases a <;> cases b <;> first | rfl | exact absurd ⟨rfl, rfl⟩ h3 | exact absurd ⟨rfl, rfl⟩ h4 | exact absurd rfl h5 | exact absurd rfl h6
theorem vk_le (x : AVal) : vk x ≤ 4 := by cases x <;> simp [vk]

theorem binEq_run (hK : COK K) (hS : SOK K ρ) {op : BinOp} {t : TypeId} {x y : AVal} {v : AVal} (hp : plainPair (conc μ ρ x) (conc μ ρ y) = true) (h : binEq K op t x y = some v) :
    (binOp op t (conc μ ρ x) (conc μ ρ y)).run K.P w = .ok (conc μ ρ v) w ∧ VR ρ μ S v := by
  unfold binEq at h
  split at h
  · cases he : eqB K 6 t x y with
    | none => simp [he, eqV] at h
    | some b =>
      simp only [he, eqV, Option.some.injEq] at h
      subst h
      rw [binOp_eql hp]
      simp [Op.equal, eqB_run hK hS 6 t x y b he Op.maxDepth (by decide), conc, VR.bool]
  · cases he : eqB K 6 t x y with
    | none => simp [he, eqV] at h
    | some b =>
      simp only [he, eqV, Option.some.injEq] at h
      subst h
      rw [binOp_neq hp]
      simp [Op.equal, eqB_run hK hS 6 t x y b he Op.maxDepth (by decide), conc, VR.bool]
  · cases h

theorem intOp_VR {op : BinOp} {k : IntKind} {x y : Int} {v : AVal} (h : intOp op k x y = some v) : VR ρ μ S v := by
  cases op <;> simp only [intOp] at h
  case quo => unfold quoB at h; split at h <;> first | (cases h; exact VR.int) | (cases h)
  case rem => unfold remB at h; split at h <;> first | (cases h; exact VR.int) | (cases h)
  case and => obtain ⟨a, b, _, _, _, _, rfl⟩ := bitsB_some h; exact VR.int
  case or => obtain ⟨a, b, _, _, _, _, rfl⟩ := bitsB_some h; exact VR.int
  case xor => obtain ⟨a, b, _, _, _, _, rfl⟩ := bitsB_some h; exact VR.int
  case andNot => obtain ⟨a, b, _, _, _, _, rfl⟩ := bitsB_some h; exact VR.int
  all_goals first | (cases h; exact VR.int) | (cases h; exact VR.bool) | (cases h)

theorem shiftOp_VR {op : BinOp} {k : IntKind} {x y : Int} {v : AVal} (h : shiftOp op k x y = some v) : VR ρ μ S v := by
  unfold shiftOp at h
  split at h
  · split at h <;> first | (cases h; exact VR.int) | (cases h)
  · cases h

theorem strOp_VR {op : BinOp} {x y : List Nat} {v : AVal} (h : strOp op x y = some v) : VR ρ μ S v := by
  unfold strOp at h
  split at h
  · split at h
    · cases h; exact VR.str
    · cases h
  · split at h
    · unfold strCmp at h
      split at h <;> first | (cases h; exact VR.bool) | (cases h)
    · cases h

theorem binB_run (hK : COK K) (hS : SOK K ρ) {op : BinOp} {t : TypeId} {X Y : Operand} {x y v : AVal} (h : binB K op t x y = some v) :
    (do eqGuard op t X Y (conc μ ρ x) (conc μ ρ y); binOp op t (conc μ ρ x) (conc μ ρ y) : Sem Value).run K.P w = .ok (conc μ ρ v) w ∧ VR ρ μ S v := by
  unfold binB at h
  split at h
  case h_1 k a k' b =>
    rw [Sem.run_bind, conc, conc, run_eqGuard rfl, Result.andThen_ok]
    unfold binInt at h
    cases hs : isShift op with
    | true =>
      simp only [hs] at h
      refine ⟨?_, shiftOp_VR h⟩
      have : (binOp op t (.int k a) (.int k' b)) = Op.shift op k a k' b := by cases op <;> simp [isShift] at hs <;> rfl
      rw [this]
      exact run_shiftOp h
    | false =>
      simp only [hs] at h
      cases hk : keq k k' with
      | false => simp [hk] at h
      | true =>
        have := keq_iff.1 hk
        subst this
        simp only [hk] at h
        exact ⟨run_intOp hs h, intOp_VR h⟩
  case h_2 a b =>
    rw [Sem.run_bind, conc, conc, run_eqGuard rfl, Result.andThen_ok]
    exact ⟨run_strOp h, strOp_VR h⟩
  case h_3 k a k' n =>
    rw [Sem.run_bind, conc, conc, run_eqGuard rfl, Result.andThen_ok]
    have := binSym_sound (μ := μ) (S := S) hS h t K.P w
    rwa [int_lit] at this
  case h_4 k n k' b =>
    rw [Sem.run_bind, conc, conc, run_eqGuard rfl, Result.andThen_ok]
    have := binSym_sound (μ := μ) (S := S) hS h t K.P w
    rwa [int_lit] at this
  case h_5 a b =>
    unfold binAgg at h
    split at h
    · rename_i hg
      rw [Sem.run_bind]
      have : (eqGuard op t X Y (conc μ ρ (.agg a)) (conc μ ρ (.agg b))).run K.P w = .ok () w := by
        rw [conc, conc]; exact run_eqGuard_agg w op t X Y _ _ hg
      rw [this, Result.andThen_ok]
      exact binEq_run hK hS (by rw [conc, conc]; rfl) h
    · cases h
  case h_6 => cases h
  case h_7 k a k' b =>
    rw [Sem.run_bind, conc, conc, run_eqGuard rfl, Result.andThen_ok]
    exact binSym_sound hS h t K.P w
  case h_8 h1 h2 h3 h4 h5 h6 h7 =>
    have hop : op = .eql ∨ op = .neq := by
      unfold binEq at h
      split at h <;> simp_all
    have hg : guardFree (conc μ ρ x) (conc μ ρ y) = true := by
      refine guardFree_of (fun ⟨q1, q2⟩ => ?_) (fun ⟨q1, q2⟩ => ?_) <;> rw [vk_conc] at q1 q2
      · cases x <;> simp [vk] at q1
        cases y <;> simp [vk] at q2
        exact h6 rfl rfl
      · cases x <;> simp [vk] at q1
        cases y <;> simp [vk] at q2
        exact h5 _ _ rfl rfl
    have hp : plainPair (conc μ ρ x) (conc μ ρ y) = true := by
      refine plainPair_of (fun ⟨q1, q2⟩ => ?_) (fun ⟨q1, q2⟩ => ?_) (fun q => ?_) (fun q => ?_)
      · rw [vk_conc] at q1 q2
        cases x <;> simp [vk] at q1 <;> cases y <;> simp [vk] at q2
        · exact h1 _ _ _ _ rfl rfl
        · exact h4 _ _ _ _ rfl rfl
        · exact h3 _ _ _ _ rfl rfl
        · exact h7 _ _ _ _ rfl rfl
      · rw [vk_conc] at q1 q2
        cases x <;> simp [vk] at q1 <;> cases y <;> simp [vk] at q2
        exact h2 _ _ rfl rfl
      · rw [vk_conc] at q; have := vk_le x; omega
      · rw [vk_conc] at q; have := vk_le x; omega
    rw [Sem.run_bind, run_eqGuard hg, Result.andThen_ok]
    exact binEq_run hK hS hp h

theorem unB_run {g : List Fact} (hS : AllHold ρ g) {op : UnOp} {x v : AVal} (h : unB g op x = some v) : (Op.unary op (conc μ ρ x)).run P w = .ok (conc μ ρ v) w ∧ VR ρ μ S v := by
  unfold unB at h
  split at h
  · cases h
    exact ⟨by simp [Op.unary, Op.intArith, conc, fwrap_eq], VR.int⟩
  · rename_i k a
    cases h
    obtain ⟨h1, h2⟩ := arithT_sound (μ := μ) (S := S) hS (op := .sub) (o := .sub) (k := k) (a := .lit 0) (b := a) (fun a b => by rw [int_sub]; rfl)
    exact ⟨by rw [h1]; simp [Op.unary, Op.intArith, conc, binEv, int_lit], h2⟩
  · rename_i k n
    split at h
    · rename_i hs
      rename_i a
      split at h
      · rename_i hb
        cases h
        refine ⟨?_, VR.int⟩
        have hlt : a < full k := by simpa [Nat.blt_eq] using hb
        have hf : (full k : Int) = 2 ^ k.bits := full_eq k
        have hf' : full k = 2 ^ k.bits := by exact_mod_cast hf
        have hsg : k.signed = false := by rw [← sgn_eq]; assumption
        have hm : k.max = ((full k - 1 : Nat) : Int) := by
          unfold IntKind.max
          rw [hsg]
          simp only [Bool.false_eq_true, if_false]
          have := half_full k; have := half_pos k
          rw [← hf]; omega
        simp only [Op.unary, conc, hsg, Bool.false_eq_true, if_false, Op.intBits, Sem.run_pure, hm]
        have h1 : (BitVec.ofInt k.bits ((full k - 1 : Nat) : Int)).toNat = full k - 1 := bits_ofNat (by have := half_full k; have := half_pos k; omega)
        have h2 := bits_ofNat hlt
        congr 2
        rw [BitVec.toNat_xor, h1, h2]
        have h3 : (full k - 1) ^^^ a = full k - 1 - a := by
          apply Nat.eq_of_testBit_eq
          intro i
          rw [Nat.testBit_xor, hf', Nat.testBit_two_pow_sub_one, show 2 ^ k.bits - 1 - a = 2 ^ k.bits - (a + 1) by omega, Nat.testBit_two_pow_sub_succ (by omega)]
          by_cases hi : i < k.bits
          · simp [hi]
          · simp only [hi, decide_false, Bool.false_bne, Bool.false_and]
            exact Nat.testBit_lt_two_pow (Nat.lt_of_lt_of_le (by rw [← hf']; exact hlt) (Nat.pow_le_pow_right (by decide) (Nat.le_of_not_lt hi)))
        rw [h3, ← fwrap_eq]
        simp only [fwrap]
        have hs' : sgn k = false := by assumption
        rw [hs']
        simp only
        congr 1
        exact Nat.mod_eq_of_lt (by have := half_full k; have := half_pos k; omega)
      · cases h
    · cases h
  · cases h
    exact ⟨by simp [Op.unary, conc], VR.bool⟩
  · cases h
end
end Go.Eng
