/- The engine, fifth part: operations on values. -/
import Derived.Test.YtkpobofljnokaaaGreatEng4
namespace Go.Eng
section
variable {K : Cfg} {ρ : Rho} {μ : Mu} {S : Ids} {H G : AH} {w : World} {P : Program}

/-! ### Numbers -/
theorem run_shiftOp {op : BinOp} {k yk : IntKind} {x y : Int} {v : AVal} (h : shiftOp op k x y = some v) :
    (Op.shift op k x yk y).run P w = .ok (conc μ ρ v) w := by
  unfold shiftOp at h
  cases x with
  | negSucc a => simp at h
  | ofNat a =>
    cases y with
    | negSucc b => simp at h
    | ofNat b =>
      simp only at h
      have hn : minN b (nbits k) = min b k.bits := by
        rw [nbits_eq]
        unfold minN
        cases hb : Nat.ble b k.bits with
        | true => have := Nat.le_of_ble_eq_true hb; simp; omega
        | false =>
          have : ¬ b ≤ k.bits := fun q => by have := Nat.ble_eq_true_of_le q; rw [hb] at this; cases this
          simp; omega
      rw [hn] at h
      have hy : ¬ (Int.ofNat b < 0) := by simp
      cases op <;> simp at h
      · subst h
        simp only [Op.shift, if_neg hy, Sem.run_pure, conc, fwrap_eq]
        congr 3
        show (a : Int) * 2 ^ min b k.bits = ((a <<< (min b k.bits) : Nat) : Int)
        rw [Nat.shiftLeft_eq]; simp
      · subst h
        simp only [Op.shift, if_neg hy, Sem.run_pure, conc]
        congr 2
        show Int.fdiv (a : Int) (2 ^ min b k.bits) = ((a >>> (min b k.bits) : Nat) : Int)
        rw [Nat.shiftRight_eq_div_pow, Int.fdiv_eq_ediv_of_nonneg _ (by exact_mod_cast Nat.zero_le _)]
        simp

theorem bits_ofNat {k : IntKind} {a : Nat} (h : a < full k) : (BitVec.ofInt k.bits (Int.ofNat a)).toNat = a := by
  have hf : (full k : Int) = 2 ^ k.bits := full_eq k
  have hf' : full k = 2 ^ k.bits := by exact_mod_cast hf
  rw [BitVec.toNat_ofInt]
  rw [← hf']
  have : (Int.ofNat a) % ((full k : Nat) : Int) = (a : Int) := Int.emod_eq_of_lt (Int.natCast_nonneg a) (by show (a : Int) < _; omega)
  rw [this]; rfl

theorem bv_andNot {n : Nat} (x y : BitVec n) : x &&& ~~~y = x ^^^ (x &&& y) := by
  apply BitVec.eq_of_getLsbD_eq
  intro i hi
  simp only [BitVec.getLsbD_and, BitVec.getLsbD_not, BitVec.getLsbD_xor, hi, decide_true, Bool.true_and]
  cases x.getLsbD i <;> cases y.getLsbD i <;> rfl

theorem bitsB_some {f : Nat → Nat → Nat} {k : IntKind} {x y : Int} {v : AVal} (h : bitsB f k x y = some v) :
    ∃ a b : Nat, x = .ofNat a ∧ y = .ofNat b ∧ a < full k ∧ b < full k ∧ v = .int k (fwrap k (.ofNat (f a b))) := by
  unfold bitsB at h
  split at h
  · rename_i a b
    split at h
    · rename_i h1 h2
      simp only [Option.some.injEq] at h
      exact ⟨a, b, rfl, rfl, by simpa [Nat.blt_eq] using h1, by simpa [Nat.blt_eq] using h2, h.symm⟩
    · cases h
  · cases h

theorem run_intOp {op : BinOp} {t : TypeId} {k : IntKind} {x y : Int} {v : AVal} (hs : isShift op = false) (h : intOp op k x y = some v) :
    (binOp op t (.int k x) (.int k y)).run P w = .ok (conc μ ρ v) w := by
  cases op <;> simp [isShift] at hs <;> simp only [intOp] at h
  case add => cases h; simp [binOp, Op.intArith, conc, fwrap_eq]
  case sub => cases h; simp [binOp, Op.intArith, conc, fwrap_eq]
  case mul => cases h; simp [binOp, Op.intArith, conc, fwrap_eq]
  case quo =>
    unfold quoB at h
    split at h
    · rename_i a b
      cases h
      have : ¬ (Int.ofNat (b + 1) = 0) := by simp; omega
      simp only [binOp, Op.intDiv, ne_eq, not_true_eq_false, if_false, if_neg this, Sem.run_pure, conc, fwrap_eq]
      rfl
    · rename_i a b
      cases h
      have : ¬ (Int.ofNat (b + 1) = 0) := by simp; omega
      simp only [binOp, Op.intDiv, ne_eq, not_true_eq_false, if_false, if_neg this, Sem.run_pure, conc, fwrap_eq]
      rfl
    · cases h
  case rem =>
    unfold remB at h
    split at h
    · rename_i a b
      cases h
      have : ¬ (Int.ofNat (b + 1) = 0) := by simp; omega
      simp only [binOp, Op.intDiv, ne_eq, not_true_eq_false, if_false, if_neg this, Sem.run_pure, conc]
      rfl
    · cases h
  case and =>
    obtain ⟨a, b, rfl, rfl, ha, hb, rfl⟩ := bitsB_some h
    simp only [binOp, Op.intBits, ne_eq, not_true_eq_false, if_false, Sem.run_pure, conc, fwrap_eq, BitVec.toNat_and, bits_ofNat ha, bits_ofNat hb]
    rfl
  case or =>
    obtain ⟨a, b, rfl, rfl, ha, hb, rfl⟩ := bitsB_some h
    simp only [binOp, Op.intBits, ne_eq, not_true_eq_false, if_false, Sem.run_pure, conc, fwrap_eq, BitVec.toNat_or, bits_ofNat ha, bits_ofNat hb]
    rfl
  case xor =>
    obtain ⟨a, b, rfl, rfl, ha, hb, rfl⟩ := bitsB_some h
    simp only [binOp, Op.intBits, ne_eq, not_true_eq_false, if_false, Sem.run_pure, conc, fwrap_eq, BitVec.toNat_xor, bits_ofNat ha, bits_ofNat hb]
    rfl
  case andNot =>
    obtain ⟨a, b, rfl, rfl, ha, hb, rfl⟩ := bitsB_some h
    simp only [binOp, Op.intBits, ne_eq, not_true_eq_false, if_false, Sem.run_pure, conc, fwrap_eq, bv_andNot, BitVec.toNat_xor, BitVec.toNat_and, bits_ofNat ha, bits_ofNat hb]
    rfl
  case eql => cases h; simp [binOp, Op.intCmp, conc, ieq_eq]
  case neq => cases h; simp [binOp, Op.intCmp, conc, ieq_eq, bne]
  case lss => cases h; simp only [binOp, Op.intCmp, ne_eq, not_true_eq_false, if_false, Sem.run_pure, conc, nile_eq]
  case leq => cases h; simp only [binOp, Op.intCmp, ne_eq, not_true_eq_false, if_false, Sem.run_pure, conc, ile_eq]
  case gtr => cases h; simp only [binOp, Op.intCmp, ne_eq, not_true_eq_false, if_false, Sem.run_pure, conc, nile_eq]; try rfl
  case geq => cases h; simp only [binOp, Op.intCmp, ne_eq, not_true_eq_false, if_false, Sem.run_pure, conc, ile_eq]; try rfl

/-! ### Symbols -/
theorem run_cmp {op : BinOp} (h : op = .lss ∨ op = .leq ∨ op = .gtr ∨ op = .geq ∨ op = .eql ∨ op = .neq) (t : TypeId) (k : IntKind) (x y : Int) (P : Program) (w : World) :
    (binOp op t (.int k x) (.int k y)).run P w = (Op.intCmp op x y).run P w := by
  rcases h with h | h | h | h | h | h <;> subst h <;> simp [binOp]

theorem cmpT_op {g : List Fact} {op : BinOp} {a b : Tm} {r : Bool} (h : cmpT g op a b = some r) : op = .lss ∨ op = .leq ∨ op = .gtr ∨ op = .geq ∨ op = .eql ∨ op = .neq := by
  cases op <;> simp [cmpT] at h ⊢

theorem cmpT_sound {g : List Fact} (hS : AllHold ρ g) {op : BinOp} {a b : Tm} {r : Bool} (h : cmpT g op a b = some r) (P : Program) (w : World) :
    (Op.intCmp op (a.int ρ) (b.int ρ)).run P w = .ok (.bool r) w := by
  rcases cmpT_op h with q | q | q | q | q | q <;> subst q <;> simp only [cmpT] at h <;> rcases two_some h with ⟨h1, rfl⟩ | ⟨h1, rfl⟩ <;> have h2 := hS.of h1 <;>
    simp only [Fact.holds] at h2 <;> simp [Op.intCmp] <;> first | omega | exact h2

theorem cmpT_eql {g : List Fact} (hS : AllHold ρ g) {a b : Tm} {r : Bool} (h : cmpT g .eql a b = some r) : (a.int ρ == b.int ρ) = r := by
  simp only [cmpT] at h
  rcases two_some h with ⟨h1, rfl⟩ | ⟨h1, rfl⟩ <;> have h2 := hS.of h1 <;> simp only [Fact.holds] at h2 <;> simp [h2]

theorem cmpT_geq {g : List Fact} (hS : AllHold ρ g) {a b : Tm} {r : Bool} (h : cmpT g .geq a b = some r) : decide (b.int ρ ≤ a.int ρ) = r := by
  simp only [cmpT] at h
  rcases two_some h with ⟨h1, rfl⟩ | ⟨h1, rfl⟩ <;> have h2 := hS.of h1 <;> simp only [Fact.holds] at h2 <;> simp <;> omega
theorem cmpT_leq {g : List Fact} (hS : AllHold ρ g) {a b : Tm} {r : Bool} (h : cmpT g .leq a b = some r) : decide (a.int ρ ≤ b.int ρ) = r := by
  simp only [cmpT] at h
  rcases two_some h with ⟨h1, rfl⟩ | ⟨h1, rfl⟩ <;> have h2 := hS.of h1 <;> simp only [Fact.holds] at h2 <;> simp <;> omega

theorem int_lit (n : Int) : (Tm.lit n).int ρ = n := by simp [Tm.int, Tm.ev, Dat.int]
theorem int_op2 (f : Int → Int → Int) (o : BOp) (a b : Tm) (ho : ∀ l, o.ev l = num2 f l) : (Tm.op o [a, b]).int ρ = f (a.int ρ) (b.int ρ) := by
  simp [Tm.int, Tm.ev, Tm.evs, ho, num2, Dat.int]
theorem int_bin (op : BinOp) (k : IntKind) (a b : Tm) : (Tm.op (.bin op k) [a, b]).int ρ = binEv op k (a.int ρ) (b.int ρ) := int_op2 _ _ _ _ fun _ => rfl
theorem int_add (a b : Tm) : (Tm.op .add [a, b]).int ρ = a.int ρ + b.int ρ := int_op2 _ _ _ _ fun _ => rfl
theorem int_sub (a b : Tm) : (Tm.op .sub [a, b]).int ρ = a.int ρ - b.int ρ := int_op2 _ _ _ _ fun _ => rfl
theorem int_mul (a b : Tm) : (Tm.op .mul [a, b]).int ρ = a.int ρ * b.int ρ := int_op2 _ _ _ _ fun _ => rfl
theorem int_wrap (k : IntKind) (a : Tm) : (Tm.op (.wrap k) [a]).int ρ = k.wrap (a.int ρ) := by simp [Tm.int, Tm.ev, Tm.evs, BOp.ev, Dat.int]

theorem wrap_in {k : IntKind} {x : Int} (h1 : k.min ≤ x) (h2 : x ≤ k.max) : k.wrap x = x := by
  unfold IntKind.min IntKind.max at *
  unfold IntKind.wrap
  have hb : 0 < k.bits := by cases k <;> decide
  have hp : (2 : Int) ^ k.bits = 2 * 2 ^ (k.bits - 1) := by
    rw [show k.bits = (k.bits - 1) + 1 by omega, Int.pow_succ]; simp; exact Int.mul_comm _ _
  have hq : (0 : Int) < 2 ^ (k.bits - 1) := Int.pow_pos (by decide)
  cases hs : k.signed with
  | true =>
    simp only [hs, if_true] at h1 h2
    simp only [Bool.true_and]
    by_cases hx : 0 ≤ x
    · rw [Int.emod_eq_of_lt hx (by omega), if_neg (by simp; omega)]
    · have e : x % (2 : Int) ^ k.bits = x + 2 ^ k.bits := by
        have : x + (2 : Int) ^ k.bits = x + (2 : Int) ^ k.bits * 1 := by rw [Int.mul_one]
        rw [← Int.emod_eq_of_lt (a := x + 2 ^ k.bits) (b := 2 ^ k.bits) (by omega) (by omega), this, Int.add_mul_emod_self_left]
      rw [e, if_pos (by simp; omega)]; omega
  | false =>
    simp only [hs, Bool.false_eq_true, if_false] at h1 h2
    simp only [Bool.false_and, Bool.false_eq_true, if_false]
    exact Int.emod_eq_of_lt h1 (by omega)

theorem arithT_sound {g : List Fact} (hS : AllHold ρ g) {op : BinOp} {o : BOp} {k : IntKind} {a b : Tm} (ho : ∀ a b : Tm, binEv op k (a.int ρ) (b.int ρ) = k.wrap ((Tm.op o [a, b]).int ρ)) :
    conc μ ρ (arithT g op o k a b) = .int k (binEv op k (a.int ρ) (b.int ρ)) ∧ VR ρ μ S (arithT g op o k a b) := by
  unfold arithT
  split
  · rename_i h
    have h2 := hS.of h
    simp only [Fact.holds] at h2
    exact ⟨by rw [conc, ho, wrap_in h2.1 h2.2], VR.sint⟩
  · exact ⟨by rw [conc, int_bin], VR.sint⟩

theorem nonzT_sound {g : List Fact} (hS : AllHold ρ g) {b : Tm} (h : nonzT g b = true) : b.int ρ ≠ 0 := by
  unfold nonzT at h
  split at h
  · rename_i n; rw [int_lit]; simp; omega
  · have := hS.of h; simpa [Fact.holds, int_lit] using this

theorem nonnT_sound {g : List Fact} (hS : AllHold ρ g) {b : Tm} (h : nonnT g b = true) : 0 ≤ b.int ρ := by
  unfold nonnT at h
  split at h
  · rename_i n; rw [int_lit]; exact Int.natCast_nonneg n
  · have := hS.of h; simpa [Fact.holds, int_lit] using this

theorem boolB_some {o : Option Bool} {v : AVal} (h : boolB o = some v) : ∃ b, o = some b ∧ v = .bool b := by
  cases o with
  | none => cases h
  | some b => exact ⟨b, rfl, by simpa [boolB] using h.symm⟩

theorem binSym_sound {g : List Fact} (hS : AllHold ρ g) {op : BinOp} {k k' : IntKind} {a b : Tm} {v : AVal} (h : binSym g op k k' a b = some v) (t : TypeId) (P : Program) (w : World) :
    (binOp op t (.int k (a.int ρ)) (.int k' (b.int ρ))).run P w = .ok (conc μ ρ v) w ∧ VR ρ μ S v := by
  unfold binSym at h
  cases hs : isShift op with
  | true =>
    simp only [hs] at h
    unfold symShift at h
    split at h
    · rename_i hn
      cases h
      have h0 := nonnT_sound hS hn
      refine ⟨?_, VR.sint⟩
      rw [conc, int_bin]
      cases op <;> simp [isShift] at hs <;> simp only [binOp, Op.shift, if_neg (show ¬ b.int ρ < 0 by omega), Sem.run_pure, binEv]
    · cases h
  | false =>
    simp only [hs] at h
    cases hk : keq k k' with
    | false => simp [hk] at h
    | true =>
      have := keq_iff.1 hk
      subst this
      simp only [hk] at h
      unfold symOp at h
      split at h
      · cases h
        obtain ⟨h1, h2⟩ := arithT_sound (μ := μ) (S := S) hS (op := .add) (o := .add) (k := k) (a := a) (b := b) (fun a b => by rw [int_add]; rfl)
        exact ⟨by rw [h1]; simp [binOp, Op.intArith, binEv], h2⟩
      · cases h
        obtain ⟨h1, h2⟩ := arithT_sound (μ := μ) (S := S) hS (op := .sub) (o := .sub) (k := k) (a := a) (b := b) (fun a b => by rw [int_sub]; rfl)
        exact ⟨by rw [h1]; simp [binOp, Op.intArith, binEv], h2⟩
      · cases h
        obtain ⟨h1, h2⟩ := arithT_sound (μ := μ) (S := S) hS (op := .mul) (o := .mul) (k := k) (a := a) (b := b) (fun a b => by rw [int_mul]; rfl)
        exact ⟨by rw [h1]; simp [binOp, Op.intArith, binEv], h2⟩
      · unfold divT at h
        split at h
        · rename_i hn
          cases h
          exact ⟨by rw [conc, int_bin]; simp [binOp, Op.intDiv, nonzT_sound hS hn, binEv], VR.sint⟩
        · cases h
      · unfold divT at h
        split at h
        · rename_i hn
          cases h
          exact ⟨by rw [conc, int_bin]; simp [binOp, Op.intDiv, nonzT_sound hS hn, binEv], VR.sint⟩
        · cases h
      · cases h; exact ⟨by rw [conc, int_bin]; simp [binOp, Op.intBits, binEv], VR.sint⟩
      · cases h; exact ⟨by rw [conc, int_bin]; simp [binOp, Op.intBits, binEv], VR.sint⟩
      · cases h; exact ⟨by rw [conc, int_bin]; simp [binOp, Op.intBits, binEv], VR.sint⟩
      · cases h; exact ⟨by rw [conc, int_bin]; simp [binOp, Op.intBits, binEv], VR.sint⟩
      · obtain ⟨r, hr, rfl⟩ := boolB_some h
        exact ⟨by rw [run_cmp (cmpT_op hr), cmpT_sound hS hr, conc], VR.bool⟩

theorem eqSym_sound {g : List Fact} (hS : AllHold ρ g) {k : IntKind} {a : Tm} {y : AVal} {r : Bool} (h : eqSym g k a y = some r) : ∃ b : Int, conc μ ρ y = .int k b ∧ (a.int ρ == b) = r := by
  unfold eqSym at h
  split at h
  · rename_i k' n
    unfold eqSym2 at h
    split at h
    · rename_i hk
      have := keq_iff.1 hk
      subst this
      exact ⟨n, by simp [conc], by have := cmpT_eql hS h; rwa [int_lit] at this⟩
    · cases h
  · rename_i k' b
    unfold eqSym2 at h
    split at h
    · rename_i hk
      have := keq_iff.1 hk
      subst this
      exact ⟨b.int ρ, by simp [conc], cmpT_eql hS h⟩
    · cases h
  · cases h

/-! ### Strings -/
theorem allB_iff {α : Type} {f : α → Bool} : ∀ {l : List α}, allB f l = true ↔ ∀ a ∈ l, f a = true
  | [] => by simp [allB]
  | a :: l => by
    simp only [allB]
    cases h : f a with
    | true => simp [h, allB_iff (l := l)]
    | false => simp [h]

theorem strOK_lt {s : List Nat} (h : strOK s = true) : ∀ b ∈ s, b < 256 := fun b hb => by
  have := allB_iff.1 h b hb
  simpa [Nat.blt_eq] using this

theorem str8_toList (s : List Nat) : (str8 s).toList = s.map Nat.toUInt8 := by
  rw [ByteArray.toList_eq]; simp [str8]

theorem toUInt8_inj {a b : Nat} (ha : a < 256) (hb : b < 256) (h : a.toUInt8 = b.toUInt8) : a = b := by
  have := congrArg UInt8.toNat h
  simpa [Nat.toUInt8, Nat.mod_eq_of_lt ha, Nat.mod_eq_of_lt hb] using this

theorem map8_inj : ∀ {x y : List Nat}, (∀ b ∈ x, b < 256) → (∀ b ∈ y, b < 256) → x.map Nat.toUInt8 = y.map Nat.toUInt8 → x = y
  | [], [], _, _, _ => rfl
  | [], _ :: _, _, _, h => by simp at h
  | _ :: _, [], _, _, h => by simp at h
  | a :: x, b :: y, hx, hy, h => by
    simp only [List.map_cons, List.cons.injEq] at h
    rw [toUInt8_inj (hx a (.head _)) (hy b (.head _)) h.1, map8_inj (fun c hc => hx c (.tail _ hc)) (fun c hc => hy c (.tail _ hc)) h.2]

theorem str8_eq {x y : List Nat} (hx : strOK x = true) (hy : strOK y = true) : (str8 x).toList = (str8 y).toList ↔ x = y := by
  rw [str8_toList, str8_toList]
  exact ⟨map8_inj (strOK_lt hx) (strOK_lt hy), fun h => by rw [h]⟩

theorem str8_beq {x y : List Nat} (hx : strOK x = true) (hy : strOK y = true) : ((str8 x).toList == (str8 y).toList) = leq x y := by
  rw [Bool.eq_iff_iff]
  simp only [beq_iff_eq, str8_eq hx hy, leq_iff]

theorem lls_eq : ∀ {x y : List Nat}, (∀ b ∈ x, b < 256) → (∀ b ∈ y, b < 256) → Op.bytesLess (x.map Nat.toUInt8) (y.map Nat.toUInt8) = lls x y
  | x, [], _, _ => by cases x <;> simp [Op.bytesLess, lls]
  | [], _ :: _, _, _ => by simp [Op.bytesLess, lls]
  | a :: x, b :: y, hx, hy => by
    have ha := hx a (.head _)
    have hb := hy b (.head _)
    have ih := lls_eq (x := x) (y := y) (fun c hc => hx c (.tail _ hc)) (fun c hc => hy c (.tail _ hc))
    have h1 : (decide (a.toUInt8 < b.toUInt8)) = Nat.blt a b := by
      rw [Bool.eq_iff_iff]
      simp [UInt8.lt_iff_toNat_lt, Nat.toUInt8, Nat.mod_eq_of_lt ha, Nat.mod_eq_of_lt hb]
    have h2 : (a.toUInt8 == b.toUInt8) = Nat.beq a b := by
      rw [Bool.eq_iff_iff]
      simp only [beq_iff_eq, Nat.beq_eq]
      exact ⟨toUInt8_inj ha hb, fun h => by rw [h]⟩
    simp only [List.map_cons, Op.bytesLess, lls, ih, h1, h2]
    cases Nat.blt a b <;> cases Nat.beq a b <;> rfl

theorem str8_append (x y : List Nat) : str8 x ++ str8 y = str8 (x ++ y) := by
  apply ByteArray.ext
  simp [str8, ByteArray.data_append]

theorem str8_size (x : List Nat) : (str8 x).size = x.length := by simp [str8, ByteArray.size]

theorem run_strOp {op : BinOp} {t : TypeId} {x y : List Nat} {v : AVal} (h : strOp op x y = some v) :
    (binOp op t (.string (str8 x)) (.string (str8 y))).run P w = .ok (conc μ ρ v) w := by
  have hb : (binOp op t (.string (str8 x)) (.string (str8 y))).run P w = (Op.stringOp op (str8 x) (str8 y)).run P w := by
    cases op <;> rfl
  rw [hb]
  unfold strOp at h
  split at h
  · split at h
    · rename_i hl
      cases h
      have hl' : x.length + y.length < 1000000000 := by simpa [Nat.blt_eq] using hl
      have : ¬ (((x.length + y.length : Nat) : Int) > IntKind.i64.max) := by
        have : IntKind.i64.max = 9223372036854775807 := by decide
        rw [this]; omega
      simp only [Op.stringOp, str8_size, if_neg this, Sem.run_pure, str8_append, conc]
    · cases h
  · split at h
    · rename_i hx hy
      have e1 := str8_beq hx hy
      have e2 : Op.bytesLess (str8 x).toList (str8 y).toList = lls x y := by rw [str8_toList, str8_toList]; exact lls_eq (strOK_lt hx) (strOK_lt hy)
      unfold strCmp at h
      split at h <;> first | (cases h; done) | (cases h; simp only [Op.stringOp, Sem.run_pure, e1, e2, conc])
    · cases h

/-! ### Equality -/
theorem beq2_eq (a b : Bool) : beq2 a b = (a == b) := by cases a <;> cases b <;> rfl

theorem leqS_some {x y : List Nat} {b : Bool} (h : leqS x y = some b) : ((str8 x).toList == (str8 y).toList) = b := by
  unfold leqS at h
  split at h
  · rename_i hx hy; cases h; exact str8_beq hx hy
  · cases h

theorem concs_get (l : List AVal) (i : Nat) : (concs μ ρ l)[i]? = (l[i]?).map (conc μ ρ) := by rw [concs_eq]; simp

theorem run_partB (hK : COK K) {t : TypeId} {cs : List AVal} {off : Nat} {v : AVal} (h : partB K t cs off = some v) :
    (part t (concs μ ρ cs).toArray off).run K.P w = .ok (conc μ ρ v) w := by
  unfold partB at h
  cases ha : aggB K t with
  | none => simp [ha] at h
  | some ag =>
    cases ag with
    | true =>
      simp only [ha] at h
      cases hs : szB K t with
      | none => simp [hs] at h
      | some n =>
        simp only [hs, Option.some.injEq] at h
        subst h
        simp only [part, Sem.run_bind, run_aggB hK ha, run_szB hK hs, Result.andThen_ok, if_true, Sem.run_pure, conc]
        congr 2
        apply Array.ext'
        simp [concs_eq, List.map_take, List.map_drop]
    | false =>
      simp only [ha, nth_eq] at h
      simp [part, run_aggB hK ha, concs_get, h]

theorem partB_VR {t : TypeId} {cs : List AVal} {off : Nat} {v : AVal} (hr : VRs ρ μ S cs) (h : partB K t cs off = some v) : VR ρ μ S v := by
  unfold partB at h
  split at h
  · split at h
    · cases h; exact VR.agg ((hr.drop _).take _)
    · cases h
  · exact hr.nth h
  · cases h

theorem eqParts_run {eq : TypeId → AVal → AVal → Option Bool} {xs ys : List AVal} {D : Nat} (hK : COK K)
    (heq : ∀ t x y b, eq t x y = some b → (Op.equalIn D t (conc μ ρ x) (conc μ ρ y)).run K.P w = .ok b w) :
    ∀ (fs : List Field) (b : Bool), eqParts K eq xs ys (fldParts fs) = some b → (Op.eqFields D (concs μ ρ xs).toArray (concs μ ρ ys).toArray fs).run K.P w = .ok b w
  | [], b, h => by simp [fldParts, eqParts] at h; subst h; simp [Op.eqFields]
  | f :: fs, b, h => by
    unfold fldParts at h
    by_cases hn : f.name = "_"
    · have : (f.name == "_") = true := by simp [hn]
      rw [this] at h
      simp only at h
      simp only [Op.eqFields, hn, ne_eq, not_true_eq_false, if_false]
      exact eqParts_run hK heq fs b h
    · have : (f.name == "_") = false := by simp [hn]
      rw [this] at h
      simp only [eqParts] at h
      cases h1 : partB K f.type xs f.offset with
      | none => simp [h1] at h
      | some x =>
        cases h2 : partB K f.type ys f.offset with
        | none => simp [h1, h2] at h
        | some y =>
          simp only [h1, h2] at h
          cases h3 : eq f.type x y with
          | none => simp [h3] at h
          | some r =>
            simp only [Op.eqFields, ne_eq, hn, not_false_eq_true, if_true, Sem.run_bind, run_partB hK h1, run_partB hK h2, heq _ _ _ _ h3, Result.andThen_ok]
            cases r with
            | true => simp only [h3] at h; simp; exact eqParts_run hK heq fs b h
            | false => simp only [h3, Option.some.injEq] at h; subst h; simp

theorem eqItems_run {eq : TypeId → AVal → AVal → Option Bool} {xs ys : List AVal} {D e z : Nat} (hK : COK K)
    (heq : ∀ t x y b, eq t x y = some b → (Op.equalIn D t (conc μ ρ x) (conc μ ρ y)).run K.P w = .ok b w) :
    ∀ (n i : Nat) (b : Bool), eqParts K eq xs ys (arrParts e z n i) = some b → (Op.eqItems D e z (concs μ ρ xs).toArray (concs μ ρ ys).toArray (List.range' i n)).run K.P w = .ok b w
  | 0, i, b, h => by simp [arrParts, eqParts] at h; subst h; simp [Op.eqItems]
  | n + 1, i, b, h => by
    simp only [arrParts, eqParts] at h
    cases h1 : partB K e xs (i * z) with
    | none => simp [h1] at h
    | some x =>
      cases h2 : partB K e ys (i * z) with
      | none => simp [h1, h2] at h
      | some y =>
        simp only [h1, h2] at h
        cases h3 : eq e x y with
        | none => simp [h3] at h
        | some r =>
          rw [List.range'_succ]
          simp only [Op.eqItems, Sem.run_bind, run_partB hK h1, run_partB hK h2, heq _ _ _ _ h3, Result.andThen_ok]
          cases r with
          | true => simp only [h3] at h; simp; exact eqItems_run hK heq n (i + 1) b h
          | false => simp only [h3, Option.some.injEq] at h; subst h; simp

theorem cellsOf_szB (hK : COK K) {t : TypeId} {n : Nat} (h : szB K t = some n) : ∃ i, K.P.info? t = some i ∧ K.P.cellsOf t = n := by
  unfold szB Cfg.info at h
  cases hi : K.ty.get t with
  | none => simp [hi] at h
  | some i =>
    simp only [hi, Option.some.injEq] at h
    exact ⟨i, hK.ty t i hi, by simp [Program.cellsOf, hK.ty t i hi, h]⟩

set_option maxHeartbeats 2000000 in
theorem eqB_run (hK : COK K) (hS : SOK K ρ) : ∀ (d : Nat) (t : TypeId) (x y : AVal) (b : Bool), eqB K d t x y = some b → ∀ D, d ≤ D → (Op.equalIn D t (conc μ ρ x) (conc μ ρ y)).run K.P w = .ok b w := by
  intro d
  induction d with
  | zero => intro t x y b h; simp [eqB] at h
  | succ d ih =>
    intro t x y b h D hD
    obtain ⟨D, rfl⟩ : ∃ D', D = D' + 1 := ⟨D - 1, by omega⟩
    have hD' : d ≤ D := by omega
    unfold eqB at h
    split at h
    case h_1 a c hu => cases h; simp [Op.equalIn, run_und hK hu, conc, beq2_eq]
    case h_2 k a k' c hu =>
      split at h
      · rename_i hk
        have := keq_iff.1 hk
        subst this
        cases h
        simp [Op.equalIn, run_und hK hu, conc, ieq_eq]
      · cases h
    case h_3 k a y hu =>
      obtain ⟨b', h1, h2⟩ := eqSym_sound (μ := μ) hS h
      rw [h1, conc]
      simp [Op.equalIn, run_und hK hu, h2]
    case h_4 k a k' b' hu =>
      obtain ⟨b', h1, h2⟩ := eqSym_sound (μ := μ) hS h
      rw [int_lit] at h2
      rw [h1, conc]
      simp [Op.equalIn, run_und hK hu, h2]
    case h_5 a c hu =>
      rw [conc, conc, run_equalIn_string w D t _ _ (und_sound hK hu), leqS_some h]
    case h_20 n e xs ys hu =>
      cases hs : szB K e with
      | none => simp [hs] at h
      | some z =>
        simp only [hs] at h
        obtain ⟨i, hi, hc⟩ := cellsOf_szB hK hs
        rw [conc, conc, run_equalIn_array w D _ _ (und_sound hK hu) hi, hc, List.range_eq_range']
        exact eqItems_run hK (fun t x y b hb => ih t x y b hb D hD') n 0 b h
    case h_21 fs xs ys hu =>
      cases hst : K.P.stoodInHeld t with
      | true => simp [hst] at h
      | false =>
        simp only [hst] at h
        have hf : K.P.fieldsOf t = fs := by simp [Program.fieldsOf, und_sound hK hu]
        rw [conc, conc, run_equalIn_struct w D t _ _ (by rw [hf]; exact und_sound hK hu) hst, hf]
        exact eqParts_run hK (fun t x y b hb => ih t x y b hb D hD') fs.toList b h
    all_goals first
      | (cases h; done)
      | (rename_i hu; cases h; simp [Op.equalIn, run_und hK hu, conc]; done)
      | (rename_i cap hu; cases h; cases cap <;> simp [Op.equalIn, run_und hK hu, conc])
end
end Go.Eng
