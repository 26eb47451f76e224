/- The engine, seventh part: operations that change nothing, and make nothing. -/
import Derived.Test.YtkpobofljnokaaaGreatEng6
namespace Go.Eng
open Go.MapKept
section
variable {K : Cfg} {ρ : Rho} {μ : Mu} {S : Ids} {H G : AH} {w : World} {P : Program} {r : Operand → Option AVal} {a : Act} {v : AVal}

/-- The value of an operation is known, and nothing has changed. -/
def Pure1 (ρ : Rho) (μ : Mu) (S : Ids) (P : Program) (w : World) (v : AVal) (s : Sem Value) : Prop := s.run P w = .ok (conc μ ρ v) w ∧ VR ρ μ S v

theorem run_asInt (P : Program) (w : World) (k : IntKind) (n : Int) : (asInt (.int k n)).run P w = .ok n w := by simp [asInt, asIntOf]
theorem run_asIntOf (P : Program) (w : World) (k : IntKind) (n : Int) : (asIntOf (.int k n)).run P w = .ok (k, n) w := by simp [asIntOf]

theorem pure_load (hK : COK K) (h : Rel ρ μ S H w) (hG : Sub G H) {t : TypeId} {x : AVal} (hv : vLoad K G t (some x) = some v) :
    Pure1 ρ μ S K.P w v (Instr.loadAt t (conc μ ρ x)) := by
  cases x <;> simp only [vLoad] at hv <;> try (cases hv; done)
  rename_i b o
  obtain ⟨h1, h2⟩ := run_loadB hK h hG hv
  exact ⟨by simp [Instr.loadAt, Instr.sureAddr, conc, h1], h2⟩

theorem fieldB_sound (_ : COK K) {s : TypeId} {f : Nat} {fd : Field} (h : fieldB K s f = some fd) : ∃ fs, K.und s = some (.struct fs) ∧ fs[f]? = some fd := by
  unfold fieldB at h
  split at h
  · rename_i fs hu
    exact ⟨fs, hu, by rw [nth_eq] at h; simpa using h⟩
  · cases h

theorem pure_fieldAddr (hK : COK K) {s : TypeId} {f : Nat} {x : AVal} (hx : VR ρ μ S x) (hv : vFieldAddr K s f (some x) = some v) (hb : ∀ b o, x = .ptr b o → S b) :
    Pure1 ρ μ S K.P w v (Instr.fieldAt s (conc μ ρ x) f) := by
  cases hf : fieldB K s f with
  | none => cases x <;> simp [vFieldAddr, hf] at hv
  | some fd =>
    obtain ⟨fs, hu, hg⟩ := fieldB_sound hK hf
    cases hs : szB K fd.type with
    | none => cases x <;> simp [vFieldAddr, hf, hs] at hv
    | some n =>
      cases n with
      | zero => cases x <;> simp [vFieldAddr, hf, hs] at hv
      | succ n =>
        cases x <;> simp only [vFieldAddr, hf, hs, Option.some.injEq] at hv <;> try (cases hv; done)
        · rename_i b o
          subst hv
          refine ⟨?_, VR.ptr (hb b o rfl)⟩
          simp [Instr.fieldAt, run_und hK hu, hg, Instr.sureAddr, conc, fieldPlace, run_szB hK hs, add_none, Nat.add_assoc]
        · subst hv
          refine ⟨?_, VR.eptr hx.of_eptr⟩
          simp [Instr.fieldAt, run_und hK hu, hg, Instr.sureAddr, conc, elemPtr, fieldPlace, run_szB hK hs, add_none, Nat.add_assoc]

theorem pure_field (hK : COK K) {s : TypeId} {f : Nat} {x : AVal} (hx : VR ρ μ S x) (hv : vField K s f (some x) = some v) :
    Pure1 ρ μ S K.P w v (Instr.field s (conc μ ρ x) f) := by
  cases x <;> simp only [vField] at hv <;> try (cases hv; done)
  rename_i cs
  cases hf : fieldB K s f with
  | none => simp [hf] at hv
  | some fd =>
    obtain ⟨fs, hu, hg⟩ := fieldB_sound hK hf
    simp only [hf] at hv
    refine ⟨?_, partB_VR hx.of_agg hv⟩
    simp [Instr.field, run_und hK hu, hg, asAgg, conc, run_partB hK hv]

theorem pure_indexAddr (hK : COK K) {t : TypeId} {x ix : AVal} (hb : ∀ b o, x = .ptr b o → S b) (hb' : ∀ b o n c, x = .slice b o n c → S b) (hv : vIndexAddr K t (some x) (some ix) = some v) :
    Pure1 ρ μ S K.P w v (Instr.indexAt t (conc μ ρ x) (conc μ ρ ix)) := by
  unfold vIndexAddr at hv
  split at hv
  · rename_i k i hix
    cases hix
    unfold idxAddr at hv
    split at hv
    · rename_i n e b o hu hx
      cases hx
      split at hv
      · rename_i z hlt hz
        cases hv
        have hlt' : i < n := by simpa [Nat.blt_eq] using hlt
        refine ⟨?_, VR.ptr (hb b o rfl)⟩
        have h1 : (0 : Int) ≤ Int.ofNat i ∧ Int.ofNat i < (n : Int) := ⟨Int.natCast_nonneg i, by show (i : Int) < _; omega⟩
        simp only [Instr.indexAt, conc, Sem.run_bind, run_asIntOf, Result.andThen_ok, run_und hK hu, Instr.sureAddr, Sem.run_pure, Sem.run_ite, if_pos h1, run_szB hK hz, add_none, Nat.add_assoc]
        rfl
      · cases hv
    · rename_i e b o n c hu hx
      cases hx
      split at hv
      · rename_i z hlt hz
        cases hv
        have hlt' : i < n := by simpa [Nat.blt_eq] using hlt
        refine ⟨?_, VR.ptr (hb' b o n c rfl)⟩
        have h1 : (0 : Int) ≤ Int.ofNat i ∧ Int.ofNat i < (n : Int) := ⟨Int.natCast_nonneg i, by show (i : Int) < _; omega⟩
        cases c <;> simp only [Instr.indexAt, conc, Sem.run_bind, run_asIntOf, Result.andThen_ok, run_und hK hu, Sem.run_pure, Sem.run_ite, if_pos h1, run_szB hK hz, add_none, Nat.add_assoc] <;> rfl
      · cases hv
    · cases hv
  · cases hv

theorem pure_index (hK : COK K) {t : TypeId} {x ix : AVal} (hx : VR ρ μ S x) (hv : vIndex K t (some x) (some ix) = some v) :
    Pure1 ρ μ S K.P w v (Instr.index t (conc μ ρ x) (conc μ ρ ix)) := by
  unfold vIndex at hv
  split at hv
  · rename_i k i hix
    cases hix
    unfold idxVal at hv
    split at hv
    · rename_i n e cs hu hx'
      cases hx'
      split at hv
      · rename_i z hlt hz
        have hlt' : i < n := by simpa [Nat.blt_eq] using hlt
        refine ⟨?_, partB_VR hx.of_agg hv⟩
        have h1 : (0 : Int) ≤ Int.ofNat i ∧ Int.ofNat i < (n : Int) := ⟨Int.natCast_nonneg i, by show (i : Int) < _; omega⟩
        simp only [Instr.index, conc, Sem.run_bind, run_asIntOf, Result.andThen_ok, run_und hK hu, Sem.run_ite, if_pos h1, run_szB hK hz]
        exact run_partB hK hv
      · cases hv
    · rename_i s hu hx'
      cases hx'
      rw [nth_eq] at hv
      cases hs : s[i]? with
      | none => simp [hs, byteB] at hv
      | some b =>
        simp only [hs, byteB] at hv
        split at hv
        · rename_i hb
          cases hv
          have hb' : b < 256 := by simpa [Nat.blt_eq] using hb
          refine ⟨?_, VR.int⟩
          have hi : i < s.length := (List.getElem?_eq_some_iff.1 hs).1
          have h2 : (str8 s)[(Int.ofNat i).toNat]? = some b.toUInt8 := by
            have hsz : i < (str8 s).size := by rw [str8_size]; exact hi
            have e : (Int.ofNat i).toNat = i := rfl
            rw [e, getElem?_pos (str8 s) i hsz]
            have : (str8 s)[i] = (s.map Nat.toUInt8)[i]'(by simpa using hi) := rfl
            rw [this, List.getElem_map]
            rw [List.getElem?_eq_getElem hi] at hs
            rw [Option.some.inj hs]
          simp only [Instr.index, conc, Sem.run_bind, run_asIntOf, Result.andThen_ok, run_und hK hu]
          have h3 : (if 0 ≤ Int.ofNat i then (str8 s)[(Int.ofNat i).toNat]? else none) = some b.toUInt8 := by rw [if_pos (show (0 : Int) ≤ Int.ofNat i from Int.natCast_nonneg i)]; exact h2
          rw [h3]
          simp [Nat.toUInt8, Nat.mod_eq_of_lt hb']
        · cases hv
    · cases hv
  · cases hv

theorem pure_extract {i : Nat} {x : AVal} (hx : VR ρ μ S x) (hv : vExtract i (some x) = some v) : Pure1 ρ μ S P w v (Instr.extract (conc μ ρ x) i) := by
  cases x <;> simp only [vExtract] at hv <;> try (cases hv; done)
  rename_i l
  rw [nth_eq] at hv
  exact ⟨by simp [Instr.extract, conc, concs_get, hv], hx.of_tuple.get hv⟩

theorem pure_iface (hK : COK K) {t : TypeId} {x : AVal} (hx : VR ρ μ S x) (hv : vIface K t (some x) = some v) : Pure1 ρ μ S K.P w v (Instr.makeInterface t (conc μ ρ x)) := by
  unfold vIface at hv
  split at hv
  · cases hv
  · cases hv
  · rename_i d hd hu
    cases hv
    refine ⟨?_, VR.iface hx⟩
    cases d <;> first | (exact (hd _ rfl).elim) | simp [Instr.makeInterface, run_und hK hu, conc]

theorem pure_assert (hK : COK K) {t xt : TypeId} {ok : Bool} {x : AVal} (hx : VR ρ μ S x) (hv : vAssert K t ok (some x) = some v) : Pure1 ρ μ S K.P w v (Instr.typeAssert (conc μ ρ x) xt t ok) := by
  cases x <;> simp only [vAssert] at hv <;> try (cases hv; done)
  rename_i u y
  split at hv
  · cases hv
  · cases hv
  · rename_i d hd hu
    split at hv
    · rename_i he
      have := Nat.eq_of_beq_eq_true he
      subst this
      cases hv
      constructor
      · cases d <;> first | (exact (hd _ rfl).elim) | (cases ok <;> simp [Instr.typeAssert, run_und hK hu, conc, concs, okB])
      · cases ok
        · exact hx.of_iface
        · exact VR.tuple (VRs.cons hx.of_iface (VRs.cons VR.bool VRs.nil))
    · cases hv

theorem pure_nil {x : AVal} (hx : VR ρ μ S x) (hv : vNil (some x) = some v) {X : Operand} (ha : a.eval X = conc μ ρ x) {o : Oper} (hop : o.op = .nilCheck X) :
    (execOp a.eval o).run P w = .ok (.value (conc μ ρ v)) w ∧ VR ρ μ S v := by
  cases x <;> simp only [vNil] at hv <;> (try (cases hv; done)) <;> cases hv <;> refine ⟨?_, hx⟩ <;> simp only [execOp, hop, ha] <;> first
    | (simp [conc]; done)
    | (simp [conc, hdr, elemPtr]; done)
    | (rename_i c; cases c <;> simp [conc])

/-! ### Maps -/
theorem keyEq_sound {d : TypeDesc} {k k' : AVal} {b : Bool} (hk : ∃ kd, d = .int kd ∧ (∃ n, k = .int kd n) ∨ d = .string ∧ (∃ s, k = .str s) ∨ d = .bool ∧ ∃ c, k = .bool c) (h : keyEq k k' = some b) :
    Instr.sameNow d (conc μ ρ k) (conc μ ρ k') = some b ∧ (b = true → conc μ ρ k = conc μ ρ k') := by
  obtain ⟨kd, ⟨rfl, n, rfl⟩ | ⟨rfl, s, rfl⟩ | ⟨rfl, c, rfl⟩⟩ := hk
  · cases k' <;> simp only [keyEq] at h <;> try (cases h; done)
    rename_i k2 n2
    split at h
    · rename_i hk
      have := keq_iff.1 hk
      subst this
      cases h
      exact ⟨by simp [Instr.sameNow, conc, ieq_eq], fun hb => by rw [ieq_iff.1 hb]⟩
    · cases h
  · cases k' <;> simp only [keyEq] at h <;> try (cases h; done)
    rename_i s2
    refine ⟨by simp only [Instr.sameNow, conc, beq_toListBytes, leqS_some h], fun hb => ?_⟩
    unfold leqS at h
    split at h
    · cases h; rw [leq_iff.1 hb]
    · cases h
  · cases k' <;> simp only [keyEq] at h <;> try (cases h; done)
    rename_i c2
    cases h
    exact ⟨by simp [Instr.sameNow, conc, beq2_eq], fun hb => by rw [beq2_eq] at hb; simp at hb; rw [hb]⟩

theorem keyFits_sound {kt : TypeId} {k : AVal} (h : keyFits K kt k = true) :
    ∃ d, K.und kt = some d ∧ IsKey d (conc μ ρ k) ∧ ∃ kd, d = .int kd ∧ (∃ n, k = .int kd n) ∨ d = .string ∧ (∃ s, k = .str s) ∨ d = .bool ∧ ∃ c, k = .bool c := by
  unfold keyFits keyFits1 at h
  split at h
  · rename_i kd k' n hu
    have := keq_iff.1 h
    subst this
    exact ⟨_, hu, by simp [IsKey, conc], k', .inl ⟨rfl, n, rfl⟩⟩
  · rename_i s hu
    exact ⟨_, hu, by simp [IsKey, conc], .i8, .inr (.inl ⟨rfl, s, rfl⟩)⟩
  · rename_i b hu
    exact ⟨_, hu, by simp [IsKey, conc], .i8, .inr (.inr ⟨rfl, b, rfl⟩)⟩
  · cases h

def entC (μ : Mu) (ρ : Rho) (e : AEnt) : MapEntry := ⟨conc μ ρ e.key, conc μ ρ e.val, e.born⟩

theorem findB_sound {d : TypeDesc} {k : AVal} (hk : ∃ kd, d = .int kd ∧ (∃ n, k = .int kd n) ∨ d = .string ∧ (∃ s, k = .str s) ∨ d = .bool ∧ ∃ c, k = .bool c) :
    ∀ (es : List AEnt) (i : Nat) (x : Option (Nat × AEnt)), findB k es i = some x →
      Instr.findNow d (conc μ ρ k) (es.map (entC μ ρ)) i = some (x.map fun q => (q.1, conc μ ρ q.2.val)) ∧
      ∀ j e, x = some (j, e) → i ≤ j ∧ es[j - i]? = some e ∧ conc μ ρ e.key = conc μ ρ k
  | [], i, x, h => by simp [findB] at h; subst h; simp [Instr.findNow]
  | e :: es, i, x, h => by
    unfold findB at h
    cases he : keyEq k e.key with
    | none => simp [he] at h
    | some b =>
      obtain ⟨h1, h2⟩ := keyEq_sound (μ := μ) (ρ := ρ) hk he
      cases b with
      | true =>
        simp only [he, Option.some.injEq] at h
        subst h
        refine ⟨by simp [Instr.findNow, entC, h1], fun j e' hx => ?_⟩
        simp only [Option.some.injEq, Prod.mk.injEq] at hx
        obtain ⟨rfl, rfl⟩ := hx
        exact ⟨Nat.le_refl _, by simp, (h2 rfl).symm⟩
      | false =>
        simp only [he] at h
        obtain ⟨h3, h4⟩ := findB_sound hk es (i + 1) x h
        refine ⟨by simp only [List.map_cons, Instr.findNow]; rw [show (entC μ ρ e).key = conc μ ρ e.key from rfl, h1]; exact h3, fun j e' hx => ?_⟩
        obtain ⟨h5, h6, h7⟩ := h4 j e' hx
        exact ⟨by omega, by rw [show j - i = (j - (i + 1)) + 1 by omega]; simpa using h6, h7⟩

theorem Rel.map (h : Rel ρ μ S H w) {r : Nat} {es : List AEnt} {c : Nat} (hb : H.m.get r = some (.map es c)) :
    ∃ es', w.heap[(μ r).blk]? = some (.map es' c) ∧ es'.toList = es.map (entC μ ρ) ∧ (∀ e ∈ es, VR ρ μ S e.key ∧ VR ρ μ S e.val) ∧ S r := by
  obtain ⟨hs, h1, es', h2, h3⟩ := h.blk r _ hb
  exact ⟨es', h2, h3, h1, hs⟩

theorem pure_lookup (hK : COK K) (h : Rel ρ μ S H w) (hG : Sub G H) {t : TypeId} {ok : Bool} {x k : AVal} (hv : lookupB K G t x k ok = some v) :
    Pure1 ρ μ S K.P w v (Instr.lookup t (conc μ ρ x) (conc μ ρ k) ok) := by
  unfold lookupB at hv
  split at hv
  · rename_i kt et hu
    split at hv
    · rename_i hf
      obtain ⟨d, hd, hik, hkd⟩ := keyFits_sound (μ := μ) (ρ := ρ) hf
      have hpd := und_sound hK hd
      cases hm : mapEnts G x with
      | none => simp [hm, lookE] at hv
      | some es =>
        simp only [hm, lookE] at hv
        have key : ∃ es' : Array MapEntry, es'.toList = es.map (entC μ ρ) ∧ (∀ e ∈ es, VR ρ μ S e.key ∧ VR ρ μ S e.val) ∧
            ((conc μ ρ x = .map none ∧ es' = #[]) ∨ ∃ r c, conc μ ρ x = .map (some r) ∧ w.heap[r]? = some (.map es' c)) := by
          unfold mapEnts at hm
          split at hm
          · cases hm; exact ⟨#[], rfl, by simp, .inl ⟨rfl, rfl⟩⟩
          · rename_i r
            cases hr : mapAt G r with
            | none => simp [hr] at hm
            | some q =>
              obtain ⟨es0, c⟩ := q
              simp only [hr, Option.some.injEq] at hm
              subst hm
              obtain ⟨es', g1, g2, g3, _⟩ := h.map (hG _ _ (mapAt_get hr))
              exact ⟨es', g2, g3, .inr ⟨_, _, rfl, g1⟩⟩
          · cases hm
        obtain ⟨es', he, hvr, hx⟩ := key
        cases hfb : findB k es 0 with
        | none => simp [hfb, lookF] at hv
        | some q =>
          obtain ⟨f1, f2⟩ := findB_sound (μ := μ) (ρ := ρ) hkd es 0 q hfb
          rw [← he] at f1
          have g1 := fun (P : Program) (hp : P.underlying kt = some d) (w : World) => run_findKey (w := w) hp f1
          have g2 := run_checkKey (w := w) hpd hik
          simp only [hfb] at hv
          have fin : (do
              Instr.checkKey es'.isEmpty 10000 kt (conc μ ρ k)
              let (v, b) ← match ← Instr.findKey kt (conc μ ρ k) es'.toList with
                | some (_, v) => pure (v, true)
                | none => pure (← zeroValue et, false)
              pure (if ok then .tuple #[v, .bool b] else v) : Sem Value).run K.P w = .ok (conc μ ρ v) w ∧ VR ρ μ S v := by
            cases q with
            | none =>
              simp only [lookF] at hv
              cases hz : zeroB K et with
              | none => simp [hz] at hv
              | some z =>
                simp only [hz, Option.some.injEq] at hv
                subst hv
                refine ⟨?_, ?_⟩
                · simp only [Sem.run_bind, g2, Result.andThen_ok, g1 _ hpd, Option.map_none, run_zeroB (μ := μ) (ρ := ρ) hK hz, Sem.run_pure]
                  cases ok <;> simp [okB, conc, concs]
                · cases ok
                  · exact zeroB_VR hz
                  · exact VR.tuple (VRs.cons (zeroB_VR hz) (VRs.cons VR.bool VRs.nil))
            | some je =>
              obtain ⟨j, e⟩ := je
              simp only [lookF, Option.some.injEq] at hv
              subst hv
              obtain ⟨_, f3, _⟩ := f2 j e rfl
              have hem : e ∈ es := List.mem_of_getElem? f3
              refine ⟨?_, ?_⟩
              · simp only [Sem.run_bind, g2, Result.andThen_ok, g1 _ hpd, Option.map_some, Sem.run_pure]
                cases ok <;> simp [okB, conc, concs]
              · cases ok
                · exact (hvr e hem).2
                · exact VR.tuple (VRs.cons (hvr e hem).2 (VRs.cons VR.bool VRs.nil))
          refine ⟨?_, fin.2⟩
          have fin1 := fin.1
          rcases hx with ⟨hx, rfl⟩ | ⟨r, c, hx, hr⟩
          · rw [hx]
            simp only [Instr.lookup, Sem.run_bind, run_und hK hu, Result.andThen_ok, Sem.run_pure] at fin1 ⊢
            exact fin1
          · rw [hx]
            simp only [Instr.lookup, Sem.run_bind, run_und hK hu, Result.andThen_ok, Go.MapKept.run_getObj_map hr, Sem.run_pure] at fin1 ⊢
            exact fin1
    · cases hv
  · cases hv
end
end Go.Eng
