/- The engine, fourth part: numbers, types, what a variable holds: what the abstract functions say is what the model's do. -/
import Derived.Test.YtkpobofljnokaaaGreatEng3
import Derived.ChangeKeysEq
namespace Go.Eng

/-! ### What is asked of a configuration -/
def extFn : Ext → (Array Value → Sem Value)
  | .mapsClone => Extern.MapsClone.clone
  | .add64 => fun args => do
    let (x, y, c) ← Extern.MathBitsCarry.three "Add64" args
    pure (Extern.MathBitsCarry.pair ((x + y + c) % Extern.MathBitsCarry.m64) ((x + y + c) / Extern.MathBitsCarry.m64))

structure COK (K : Cfg) : Prop where
  ty : ∀ t i, K.ty.get t = some i → K.P.info? t = some i
  fn : ∀ f fn, K.fn.get f = some fn → K.P.funcs[f]? = some fn
  mixed : K.P.follows .mixedOrders = true
  ext : ∀ f e, extOf K.ext f = some e → ∃ fn, K.P.funcs[f]? = some fn ∧ (fn.name == "runtime.NumGoroutine") = false ∧ fn.body.isNone = true ∧ Extern.findNext fn = none ∧ Extern.find fn = some (extFn e)

def SOK (K : Cfg) (ρ : Rho) : Prop := AllHold ρ K.gam

section
variable {K : Cfg} {ρ : Rho} {μ : Mu} {S : Ids} {H G : AH} {w : World}

/-! ### Numbers -/
theorem ile_iff {x y : Int} : ile x y = true ↔ x ≤ y := by
  cases x with
  | ofNat a =>
    cases y with
    | ofNat b => simp [ile]
    | negSucc b => simp [ile]; omega
  | negSucc a =>
    cases y with
    | ofNat b => simp [ile]; omega
    | negSucc b => simp [ile]; omega
theorem ile_not {x y : Int} : ile x y = false ↔ y < x := by
  have := @ile_iff x y
  cases h : ile x y <;> simp [h] at this ⊢ <;> omega
theorem ieq_iff {x y : Int} : ieq x y = true ↔ x = y := by
  cases x <;> cases y <;> simp [ieq] <;> omega
theorem ieq_eq (x y : Int) : ieq x y = (x == y) := by
  have := @ieq_iff x y
  rw [Bool.eq_iff_iff]; simp [this]
theorem keq_iff {k k' : IntKind} : keq k k' = true ↔ k = k' := by cases k <;> cases k' <;> simp [keq]
theorem ile_eq (x y : Int) : ile x y = decide (x ≤ y) := by
  have := @ile_iff x y
  rw [Bool.eq_iff_iff]; simp [this]
theorem nile_eq (x y : Int) : (!(ile x y)) = decide (y < x) := by
  have := @ile_iff x y
  rw [Bool.eq_iff_iff]; simp [ile_eq]

theorem full_eq (k : IntKind) : (full k : Int) = 2 ^ k.bits := by cases k <;> simp [full, IntKind.bits]
theorem half_eq (k : IntKind) : (half k : Int) = 2 ^ (k.bits - 1) := by cases k <;> simp [half, IntKind.bits]
theorem sgn_eq (k : IntKind) : sgn k = k.signed := by cases k <;> rfl
theorem nbits_eq (k : IntKind) : nbits k = k.bits := by cases k <;> rfl
theorem half_full (k : IntKind) : full k = 2 * half k := by cases k <;> simp [full, half]
theorem half_pos (k : IntKind) : 0 < half k := by cases k <;> simp [half]

theorem wrap_eq (k : IntKind) (n : Int) : k.wrap n = if (k.signed && decide (n % (full k : Int) ≥ (half k : Int))) = true then n % (full k : Int) - (full k : Int) else n % (full k : Int) := by
  unfold IntKind.wrap
  simp only [full_eq, half_eq]

theorem fwrap_eq (k : IntKind) (n : Int) : fwrap k n = k.wrap n := by
  have hf := half_full k
  have hp := half_pos k
  cases n with
  | ofNat m =>
    simp only [fwrap]
    cases hs : sgn k with
    | true =>
      simp only
      cases hb : Nat.blt m (half k) with
      | false => rfl
      | true =>
        have hlt : m < half k := by simpa [Nat.blt_eq] using hb
        rw [wrap_eq]
        have e : (Int.ofNat m) % (full k : Int) = (m : Int) := Int.emod_eq_of_lt (Int.natCast_nonneg m) (by show (m : Int) < _; omega)
        rw [e, if_neg (by simp; omega)]
        rfl
    | false =>
      rw [wrap_eq, if_neg (by rw [← sgn_eq, hs]; simp)]
      rfl
  | negSucc m =>
    simp only [fwrap]
    cases hs : sgn k with
    | true =>
      simp only
      cases hb : Nat.blt m (half k) with
      | false => rfl
      | true =>
        have hlt : m < half k := by simpa [Nat.blt_eq] using hb
        rw [wrap_eq]
        have e : (Int.negSucc m) % (full k : Int) = (full k : Int) - 1 - (m : Int) := by
          rw [Int.negSucc_eq]
          have h1 : (-((m : Int) + 1)) = ((full k : Int) - 1 - (m : Int)) + (full k : Int) * (-1) := by omega
          rw [h1, Int.add_mul_emod_self_left]
          exact Int.emod_eq_of_lt (by omega) (by omega)
        rw [e, if_pos (by rw [← sgn_eq, hs]; simp; omega)]
        show Int.negSucc m = _
        rw [Int.negSucc_eq]; omega
    | false =>
      simp only
      cases hb : Nat.blt m (full k) with
      | false => rfl
      | true =>
        have hlt : m < full k := by simpa [Nat.blt_eq] using hb
        rw [wrap_eq, if_neg (by rw [← sgn_eq, hs]; simp)]
        have e : (Int.negSucc m) % (full k : Int) = (full k : Int) - 1 - (m : Int) := by
          rw [Int.negSucc_eq]
          have h1 : (-((m : Int) + 1)) = ((full k : Int) - 1 - (m : Int)) + (full k : Int) * (-1) := by omega
          rw [h1, Int.add_mul_emod_self_left]
          exact Int.emod_eq_of_lt (by omega) (by omega)
        rw [e]
        show ((full k - 1 - m : Nat) : Int) = _
        omega

theorem leq_iff : ∀ {x y : List Nat}, leq x y = true ↔ x = y
  | [], [] => by simp [leq]
  | [], _ :: _ => by simp [leq]
  | _ :: _, [] => by simp [leq]
  | a :: x, b :: y => by
    simp only [leq]
    cases h : Nat.beq a b with
    | true => have := Nat.eq_of_beq_eq_true h; subst this; simp [leq_iff (x := x) (y := y)]
    | false => have := Nat.ne_of_beq_eq_false h; simp [this]

/-! ### Types -/
theorem und_sound (hK : COK K) {t : TypeId} {d : TypeDesc} (h : K.und t = some d) : K.P.underlying t = some d := by
  unfold Cfg.und undB at h
  unfold Program.underlying
  cases hi : K.ty.get t with
  | none => simp [hi] at h
  | some i =>
    rw [hK.ty t i hi]
    simp only [hi] at h
    split at h
    · rename_i nm u hd
      cases hj : K.ty.get u with
      | none => simp [hj] at h
      | some j =>
        simp only [hj, Option.some.injEq] at h
        obtain ⟨desc, str, size, bytes, hp, al, fa, z, cmp, ms⟩ := i
        simp only at hd
        subst hd
        simp [hK.ty u j hj, h]
    · rename_i d' hd
      obtain ⟨desc, str, size, bytes, hp, al, fa, z, cmp, ms⟩ := i
      simp only at h hd
      split
      · rename_i nm u _ _ _ _ _ _ _ _ _ he
        simp only [Option.some.injEq, TypeInfo.mk.injEq] at he
        exact absurd he.1 (by intro q; exact hd _ _ q)
      · rename_i he
        simp only [Option.some.injEq] at he
        subst he
        exact h
      · rename_i he; cases he

theorem run_und (hK : COK K) {t : TypeId} {d : TypeDesc} (h : K.und t = some d) (w : World) : (underlying t).run K.P w = .ok d w := run_underlying (und_sound hK h) w

theorem run_szB (hK : COK K) {t : TypeId} {n : Nat} (h : szB K t = some n) (w : World) : (sizeOf t).run K.P w = .ok n w := by
  unfold szB Cfg.info at h
  cases hi : K.ty.get t with
  | none => simp [hi] at h
  | some i =>
    simp only [hi, Option.some.injEq] at h
    simp [sizeOf, typeInfo, hK.ty t i hi, h]

theorem run_info (hK : COK K) {t : TypeId} {i : TypeInfo} (h : K.info t = some i) (w : World) : (typeInfo t).run K.P w = .ok i w := by
  simp [typeInfo, hK.ty t i h]

theorem run_aggB (hK : COK K) {t : TypeId} {b : Bool} (h : aggB K t = some b) (w : World) : (isAgg t).run K.P w = .ok b w := by
  unfold aggB at h
  cases hu : K.und t with
  | none => simp [hu] at h
  | some d =>
    rw [hu] at h
    cases d <;> simp at h <;> subst h <;> simp [isAgg, run_und hK hu]

theorem optAll_length {α β : Type} {f : α → Option β} : ∀ {l : List α} {r : List β}, optAll f l = some r → r.length = l.length
  | [], r, h => by simp [optAll] at h; subst h; rfl
  | a :: l, r, h => by
    simp only [optAll] at h
    cases ha : f a with
    | none => simp [ha] at h
    | some b =>
      cases hl : optAll f l with
      | none => simp [ha, hl] at h
      | some r' => simp only [ha, hl, Option.some.injEq] at h; subst h; simp [optAll_length hl]

theorem optAll_map {α β γ : Type} {f : α → Option β} {g : β → γ} {k : α → γ} (hf : ∀ a b, f a = some b → g b = k a) : ∀ {l : List α} {r : List β}, optAll f l = some r → r.map g = l.map k
  | [], r, h => by simp [optAll] at h; subst h; rfl
  | a :: l, r, h => by
    simp only [optAll] at h
    cases ha : f a with
    | none => simp [ha] at h
    | some b =>
      cases hl : optAll f l with
      | none => simp [ha, hl] at h
      | some r' => simp only [ha, hl, Option.some.injEq] at h; subst h; simp [hf a b ha, optAll_map hf hl]

theorem optAll_mem {α β : Type} {f : α → Option β} : ∀ {l : List α} {r : List β}, optAll f l = some r → ∀ b ∈ r, ∃ a ∈ l, f a = some b
  | [], r, h, b, hb => by simp [optAll] at h; subst h; cases hb
  | a :: l, r, h, b, hb => by
    simp only [optAll] at h
    cases ha : f a with
    | none => simp [ha] at h
    | some b' =>
      cases hl : optAll f l with
      | none => simp [ha, hl] at h
      | some r' =>
        simp only [ha, hl, Option.some.injEq] at h
        subst h
        cases hb with
        | head => exact ⟨a, .head _, ha⟩
        | tail _ hb => obtain ⟨x, h1, h2⟩ := optAll_mem hl b hb; exact ⟨x, .tail _ h1, h2⟩

theorem str8_of (s : ByteArray) : str8 (s.data.toList.map UInt8.toNat) = s := by
  obtain ⟨d⟩ := s
  simp only [str8, List.map_map]
  congr 1
  have : (Nat.toUInt8 ∘ UInt8.toNat) = id := by funext b; simp [Nat.toUInt8]
  rw [this]; simp

theorem ofValue_sound : ∀ (d : Nat) (v : Value) (x : AVal), ofValue d v = some x → (∀ μ : Mu, conc μ ρ x = v) := by
  intro d
  induction d with
  | zero => intro v x h; simp [ofValue] at h
  | succ d ih =>
    intro v x h μ
    have many : ∀ (cs : Array Value) (l : List AVal), optAll (ofValue d) cs.toList = some l → (concs μ ρ l).toArray = cs := by
      intro cs l hl
      rw [concs_eq, optAll_map (g := conc μ ρ) (k := id) (fun a b hab => ih a b hab μ) hl]
      simp
    cases v <;> simp only [ofValue] at h
    case bool b => cases h; rfl
    case int k n => cases h; rfl
    case string s => cases h; simp [conc, str8_of]
    case pointer a => cases a <;> simp at h; subst h; rfl
    case slice a l c =>
      split at h <;> simp_all
      subst h; rfl
    case map r => cases r <;> simp at h; subst h; rfl
    case func fn a b =>
      split at h <;> rename_i he <;> simp_all
      split at h <;> simp_all
      subst h
      rename_i h1 h2
      simp [conc, concs]
    case nilFunc => cases h; rfl
    case nilIface => cases h; rfl
    case agg cs =>
      split at h <;> simp_all
      subst h
      rename_i l hl
      simp [conc, many cs l hl]
    case tuple cs =>
      split at h <;> simp_all
      subst h
      rename_i l hl
      simp [conc, many cs l hl]
    all_goals simp at h

theorem ofValue_VR {d : Nat} {v : Value} {x : AVal} (h : ofValue d v = some x) : VR ρ μ S x := fun μ' _ => by
  rw [ofValue_sound d v x h μ', ofValue_sound d v x h μ]

theorem run_zeroB (hK : COK K) {t : TypeId} {z : AVal} (h : zeroB K t = some z) (w : World) : (zeroValue t).run K.P w = .ok (conc μ ρ z) w := by
  unfold zeroB Cfg.info at h
  cases hi : K.ty.get t with
  | none => simp [hi] at h
  | some i =>
    simp only [hi] at h
    cases hz : i.zero with
    | none => simp [hz] at h
    | some v =>
      simp only [hz] at h
      simp [zeroValue, typeInfo, hK.ty t i hi, hz, ofValue_sound 8 v z h μ]

theorem zeroB_VR {t : TypeId} {z : AVal} (h : zeroB K t = some z) : VR ρ μ S z := by
  unfold zeroB at h
  split at h
  · split at h
    · exact ofValue_VR h
    · cases h
  · cases h

/-! ### Operands -/
def ORel (ρ : Rho) (μ : Mu) (S : Ids) (r : Operand → Option AVal) (a : Act) : Prop := ∀ x v, r x = some v → a.eval x = conc μ ρ v ∧ VR ρ μ S v

structure EnvRel (ρ : Rho) (μ : Mu) (S : Ids) (n : Nat) (m : PM AVal) (tmps : Array Value) : Prop where
  size : n ≤ tmps.size
  get : ∀ t v, m.get t = some v → tmps[t]? = some (conc μ ρ v) ∧ VR ρ μ S v

theorem EnvRel.orel {n : Nat} {m : PM AVal} {a : Act} (h : EnvRel ρ μ S n m a.tmps) : ORel ρ μ S (opd m) a := by
  intro x v hv
  cases x with
  | tmp t =>
    obtain ⟨h1, h2⟩ := h.get t v hv
    exact ⟨by simp [Act.eval, Array.getD_eq_getD_getElem?, h1], h2⟩
  | const c => exact ⟨(ofValue_sound 8 c v hv μ).symm, ofValue_VR hv⟩
  | global g => cases hv
  | func f =>
    simp only [opd, Option.some.injEq] at hv
    subst hv
    exact ⟨by simp [Act.eval, conc, concs], VR.func VRs.nil VRs.nil⟩

theorem ORel.all {r : Operand → Option AVal} {a : Act} (h : ORel ρ μ S r a) {l : List Operand} {vs : List AVal} (hv : optAll r l = some vs) :
    l.map a.eval = concs μ ρ vs ∧ VRs ρ μ S vs := by
  refine ⟨?_, fun v hm => ?_⟩
  · rw [concs_eq]; exact (optAll_map (fun x v hx => (h x v hx).1.symm) hv).symm
  · obtain ⟨x, _, hx⟩ := optAll_mem hv v hm; exact (h x v hx).2

theorem EnvRel.put {n : Nat} {m : PM AVal} {a : Act} (h : EnvRel ρ μ S n m a.tmps) {t : Nat} (ht : t < n) {v : AVal} (hv : VR ρ μ S v) :
    EnvRel ρ μ S n (m.set t (some v)) (a.put (some t) (conc μ ρ v)).tmps := by
  refine ⟨by simpa [Act.put] using h.size, fun s x hx => ?_⟩
  have hlt : t < a.tmps.size := Nat.lt_of_lt_of_le ht h.size
  rcases PM.get_set hx with ⟨h1, h2⟩ | ⟨hne, h2⟩
  · subst h1; simp only [Option.some.injEq] at h2; subst h2
    exact ⟨by simp [Act.put, hlt], hv⟩
  · obtain ⟨h3, h4⟩ := h.get s x h2
    exact ⟨by simp only [Act.put]; rw [Array.getElem?_setIfInBounds_ne (Ne.symm hne)]; exact h3, h4⟩

theorem EnvRel.up {μ' : Mu} {T : Ids} {n : Nat} {m : PM AVal} {tmps : Array Value} (h : EnvRel ρ μ S n m tmps) (hu : μ.upto S μ') (hs : S.le T) : EnvRel ρ μ' T n m tmps :=
  ⟨h.size, fun t v hv => ⟨by rw [(h.get t v hv).2.eq hu]; exact (h.get t v hv).1, (h.get t v hv).2.up hu hs⟩⟩

/-! ### Memory -/
def Sub (G H : AH) : Prop := ∀ id b, G.m.get id = some b → H.m.get id = some b

theorem add_none (b o i : Nat) : (⟨b, o, none⟩ : Addr).add i = ⟨b, o + i, none⟩ := by
  unfold Addr.add
  split
  · rename_i h; subst h; rfl
  · rfl

theorem cellsAt_get {b : Nat} {x : List AVal × Bool × Nat} (h : cellsAt G b = some x) : G.m.get b = some (.cells x.1 x.2.1 x.2.2) := by
  unfold cellsAt at h
  split at h
  · rename_i l wr z hg; cases h; exact hg
  · cases h

theorem mapAt_get {b : Nat} {x : List AEnt × Nat} (h : mapAt G b = some x) : G.m.get b = some (.map x.1 x.2) := by
  unfold mapAt at h
  split at h
  · rename_i l c hg; cases h; exact hg
  · cases h

theorem Rel.cell (h : Rel ρ μ S H w) {b i : Nat} {l : List AVal} {wr : Bool} {z : Nat} {v : AVal} (hb : H.m.get b = some (.cells l wr z)) (hv : l[i]? = some v) :
    w.cell? ⟨(μ b).blk, (μ b).sh + i, none⟩ = some (conc μ ρ v) ∧ VR ρ μ S v := by
  obtain ⟨_, hr, h2⟩ := h.blk b _ hb
  refine ⟨?_, hr.get hv⟩
  rcases h2 with ⟨_, h2⟩ | ⟨cs, E, fz, g1, g2, _⟩
  · subst h2; simp at hv
  · simp [World.cell?, g1, g2 i v hv]

theorem run_loadCells (P : Program) {b o : Nat} {w : World} : ∀ (L : List Value) (i : Nat) (acc : Array Value),
    (∀ j (h : j < L.length), w.cell? ⟨b, o + (i + j), none⟩ = some L[j]) → (loadCellsFrom ⟨b, o, none⟩ i L.length acc).run P w = .ok (acc ++ L.toArray) w
  | [], i, acc, _ => by simp [loadCellsFrom]
  | v :: L, i, acc, h => by
    have h0 := h 0 (by simp)
    simp only [Nat.add_zero, List.getElem_cons_zero] at h0
    simp only [List.length_cons, loadCellsFrom, Sem.run_bind, run_load, add_none, h0, Result.andThen_ok]
    rw [run_loadCells P L (i + 1) (acc.push v) fun j hj => by
      have := h (j + 1) (by simpa using hj)
      rw [show o + (i + 1 + j) = o + (i + (j + 1)) by omega]
      simpa using this]
    simp

theorem take_drop_get {α : Type} {l : List α} {o n j : Nat} (h : j < n) : ((l.drop o).take n)[j]? = l[o + j]? := by
  rw [List.getElem?_take_of_lt h, List.getElem?_drop]

theorem run_loadB (hK : COK K) (h : Rel ρ μ S H w) (hG : Sub G H) {t : TypeId} {b o : Nat} {v : AVal} (hv : loadB K G t b o = some v) :
    (loadVar t ⟨(μ b).blk, (μ b).sh + o, none⟩).run K.P w = .ok (conc μ ρ v) w ∧ VR ρ μ S v := by
  unfold loadB at hv
  cases hc : cellsAt G b with
  | none => simp [hc] at hv
  | some x =>
    obtain ⟨l, wr, z⟩ := x
    have hg := hG _ _ (cellsAt_get hc)
    simp only [hc] at hv
    cases ha : aggB K t with
    | none => simp [ha] at hv
    | some ag =>
      cases hs : szB K t with
      | none => cases ag <;> simp [ha, hs] at hv
      | some n =>
        cases ag with
        | true =>
          simp only [ha, hs] at hv
          cases hle : Nat.ble (o + n) l.length with
          | false => simp [hle] at hv
          | true =>
            simp only [hle, Option.some.injEq] at hv
            subst hv
            have hle' : o + n ≤ l.length := Nat.le_of_ble_eq_true hle
            have hrs : VRs ρ μ S l := (h.blk b _ hg).2.1
            refine ⟨?_, VR.agg ((hrs.drop o).take n)⟩
            have hlen : (concs μ ρ ((l.drop o).take n)).length = n := by rw [concs_length]; simp; omega
            have := run_loadCells K.P (b := (μ b).blk) (o := (μ b).sh + o) (w := w) (concs μ ρ ((l.drop o).take n)) 0 #[] fun j hj => by
              rw [hlen] at hj
              have hj' : o + j < l.length := by omega
              have hc := (h.cell hg (List.getElem?_eq_getElem hj')).1
              rw [show (μ b).sh + o + (0 + j) = (μ b).sh + (o + j) by omega, hc]
              congr 1
              have : (concs μ ρ ((l.drop o).take n))[j]? = some (conc μ ρ l[o + j]) := by
                rw [concs_eq, List.getElem?_map, take_drop_get hj, List.getElem?_eq_getElem hj']; rfl
              rw [List.getElem?_eq_getElem (by rw [hlen]; exact hj)] at this
              exact (Option.some.inj this).symm
            rw [hlen] at this
            simp [loadVar, run_aggB hK ha, run_szB hK hs, loadCells, this, conc]
        | false =>
          simp only [ha, hs, nth_eq] at hv
          obtain ⟨h1, h2⟩ := h.cell hg hv
          exact ⟨by simp [loadVar, run_aggB hK ha, h1], h2⟩
end

end Go.Eng
