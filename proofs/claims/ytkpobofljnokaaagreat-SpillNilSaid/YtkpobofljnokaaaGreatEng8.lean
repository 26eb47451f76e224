/- The engine, eighth part: slices, conversions, what is built. -/
import Derived.Test.YtkpobofljnokaaaGreatEng7
namespace Go.Eng
section
variable {K : Cfg} {ρ : Rho} {μ : Mu} {S : Ids} {H G : AH} {w : World} {P : Program} {r : Operand → Option AVal} {a : Act} {v : AVal}

/-! ### Bounds -/
theorem natOf_some {x : AVal} {n : Nat} (h : natOf x = some n) : ∃ k, x = .int k (.ofNat n) := by
  unfold natOf at h
  split at h
  · cases h; exact ⟨_, rfl⟩
  · cases h

theorem boundB_run {y y' : Nat} {x : AVal} {m : Nat} {code : BoundsCode} (h : boundB y x = some m) (hy : y ≤ y') (P : Program) (w : World) :
    (Instr.sliceBound (conc μ ρ x) y' code).run P w = .ok m w ∧ m ≤ y := by
  unfold boundB at h
  cases hn : natOf x with
  | none => simp [hn] at h
  | some n =>
    obtain ⟨k, rfl⟩ := natOf_some hn
    simp only [hn] at h
    cases hb : Nat.ble n y with
    | false => simp [hb] at h
    | true =>
      have hle : n ≤ y := Nat.le_of_ble_eq_true hb
      simp only [hb, Option.some.injEq] at h
      subst h
      refine ⟨?_, hle⟩
      have : (0 : Int) ≤ Int.ofNat n ∧ Int.ofNat n ≤ (y' : Int) := ⟨Int.natCast_nonneg n, by show (n : Int) ≤ _; omega⟩
      simp only [Instr.sliceBound, conc, Sem.run_bind, run_asIntOf, Result.andThen_ok, Sem.run_ite, if_pos this, Sem.run_pure]
      rfl

theorem boundsB_run {isS : Bool} {len cap cap' l h m : Nat} {lo hi mx : Option AVal} (hb : boundsB len cap lo hi mx = some (l, h, m)) (hc : cap ≤ cap') (P : Program) (w : World) :
    (Instr.sliceBounds isS len cap' (lo.map (conc μ ρ)) (hi.map (conc μ ρ)) (mx.map (conc μ ρ))).run P w = .ok (l, h, if mx.isSome then m else cap') w ∧ l ≤ h ∧ (mx.isSome = true → h ≤ m ∧ m ≤ cap) ∧ (mx.isSome = false → m = cap) ∧ (hi.isSome = true → h ≤ cap) := by
  unfold boundsB at hb
  cases ht : topB cap mx with
  | none => simp [ht] at hb
  | some m0 =>
    simp only [ht] at hb
    unfold bounds2 at hb
    cases hh : highB len m0 hi mx with
    | none => simp [hh] at hb
    | some h0 =>
      simp only [hh] at hb
      cases hl : lowB h0 lo with
      | none => simp [hl] at hb
      | some l0 =>
        simp only [hl, Option.some.injEq, Prod.mk.injEq] at hb
        obtain ⟨rfl, rfl, rfl⟩ := hb
        have klow : l0 ≤ h0 := by
          cases lo with
          | none => simp only [lowB, Option.some.injEq] at hl; omega
          | some x => exact (boundB_run (μ := μ) (ρ := ρ) (code := .sliceB) hl (Nat.le_refl _) P w).2
        cases mx with
        | none =>
          simp only [topB, Option.some.injEq] at ht
          subst ht
          cases hi with
          | none =>
            simp only [highB, Option.some.injEq] at hh
            subst hh
            refine ⟨?_, klow, by simp, by simp, by simp⟩
            cases lo with
            | none =>
              simp only [lowB, Option.some.injEq] at hl; subst hl
              simp [Instr.sliceBounds]
            | some x =>
              have g := fun code => (boundB_run (μ := μ) (ρ := ρ) (code := code) hl (Nat.le_refl _) P w).1
              simp [Instr.sliceBounds, g]
          | some y =>
            simp only [highB] at hh
            obtain ⟨g1, g2⟩ := boundB_run (μ := μ) (ρ := ρ) (code := if isS then .sliceAcap else .sliceAlen) hh hc P w
            refine ⟨?_, klow, by simp, by simp, fun _ => g2⟩
            cases lo with
            | none =>
              simp only [lowB, Option.some.injEq] at hl; subst hl
              simp [Instr.sliceBounds, g1]
            | some x =>
              have g := fun code => (boundB_run (μ := μ) (ρ := ρ) (code := code) hl (Nat.le_refl _) P w).1
              simp [Instr.sliceBounds, g1, g]
        | some x =>
          simp only [topB] at ht
          obtain ⟨g1, g2⟩ := boundB_run (μ := μ) (ρ := ρ) (code := if isS then .slice3Acap else .slice3Alen) ht hc P w
          cases hi with
          | none => simp [highB] at hh
          | some y =>
            simp only [highB] at hh
            obtain ⟨g3, g4⟩ := boundB_run (μ := μ) (ρ := ρ) (code := .slice3B) hh (Nat.le_refl _) P w
            refine ⟨?_, klow, fun _ => ⟨g4, g2⟩, by simp, fun _ => Nat.le_trans g4 g2⟩
            cases lo with
            | none =>
              simp only [lowB, Option.some.injEq] at hl; subst hl
              simp [Instr.sliceBounds, g1, g3]
            | some x =>
              have g := fun code => (boundB_run (μ := μ) (ρ := ρ) (code := code) hl (Nat.le_refl _) P w).1
              simp [Instr.sliceBounds, g1, g3, g]

/-- What comes of an operation that changes nothing but perhaps makes a block: 'some b': it is new, or a name alone. -/
def NOut (ρ : Rho) (μ : Mu) (S : Ids) (H : AH) (w : World) (id : Nat) (v : AVal) (r : Result Value) : Option ABlk → Prop
  | none => ∃ w', r = .ok (conc μ ρ v) w' ∧ VR ρ μ S v ∧ Step ρ μ S H w μ S H w'
  | some b => ∃ w' p, r = .ok (conc (μ.at id p) ρ v) w' ∧ VR ρ (μ.at id p) (S.and id) v ∧ (∀ k, k < w.heap.size → w'.heap[k]? = w.heap[k]?) ∧ w.heap.size ≤ w'.heap.size ∧
      w'.os = w.os ∧ w'.tape = w.tape ∧ w'.output = w.output ∧ BRel ρ (μ.at id p) (S.and id) w' p b ∧ New μ H w p b

theorem NOut.pure (h : Rel ρ μ S H w) {id : Nat} {s : Sem Value} (hp : Pure1 ρ μ S P w v s) : NOut ρ μ S H w id v (s.run P w) none := ⟨w, hp.1, hp.2, Step.refl h⟩

theorem sliceEx_some {b o z : Nat} {q : Option (Nat × Nat × Nat)} (h : sliceEx b o z q = some v) : ∃ l hh m, q = some (l, hh, m) ∧
    ((m = l ∧ v = .slice b o (hh - l) (.ex (m - l))) ∨ (m ≠ l ∧ v = .slice b (o + l * z) (hh - l) (.ex (m - l)))) := by
  unfold sliceEx at h
  split at h
  · rename_i l hh m
    cases hb : Nat.beq m l with
    | true => simp only [hb, Option.some.injEq] at h; exact ⟨l, hh, m, rfl, .inl ⟨Nat.eq_of_beq_eq_true hb, h.symm⟩⟩
    | false => simp only [hb, Option.some.injEq] at h; exact ⟨l, hh, m, rfl, .inr ⟨Nat.ne_of_beq_eq_false hb, h.symm⟩⟩
  · cases h

theorem sliceZ_some {b o : Nat} {q : Option (Nat × Nat × Nat)} {zz : Option Nat} (h : sliceZ b o q zz = some v) : ∃ z, zz = some z ∧ sliceEx b o z q = some v := by
  cases zz with
  | none => cases h
  | some z => exact ⟨z, rfl, h⟩

theorem ifaddr (b o l z m : Nat) : (if m = l then some (⟨b, o, none⟩ : Addr) else (some (⟨b, o, none⟩ : Addr)).map (·.add (l * z))) = some (if m = l then ⟨b, o, none⟩ else ⟨b, o + l * z, none⟩) := by
  split <;> simp [add_none]

theorem bSlice_ne {id b o n : Nat} {c : ACap} (h : b ≠ id) : bSlice id (.slice b o n c) = some none := by
  unfold bSlice
  split
  · rename_i he
    cases he
    have : Nat.beq b id = false := by cases hb : Nat.beq b id with | false => rfl | true => exact absurd (Nat.eq_of_beq_eq_true hb) h
    simp [this]
  · rfl

theorem sliceB_run (hK : COK K) (h : Rel ρ μ S H w) (hG : Sub G H) {id : Nat} (hid : ¬ S id) {t : TypeId} {x : AVal} {lo hi mx : Option AVal} (hx : VR ρ μ S x)
    (hb1 : ∀ b o, x = .ptr b o → S b) (hb2 : ∀ b o n c, x = .slice b o n c → S b) {ob : Option ABlk} (hv : sliceB K G id t x lo hi mx = some v) (hb : bSlice id v = some ob) :
    NOut ρ μ S H w id v ((Instr.sliceAt t (conc μ ρ x) (lo.map (conc μ ρ)) (hi.map (conc μ ρ)) (mx.map (conc μ ρ))).run K.P w) ob := by
  unfold sliceB at hv
  split at hv
  · rename_i n e b o hu
    obtain ⟨z, hz, hv⟩ := sliceZ_some hv
    obtain ⟨l, hh, m, hq, hcase⟩ := sliceEx_some hv
    obtain ⟨g1, g2, _, g4, _⟩ := boundsB_run (isS := false) (μ := μ) (ρ := ρ) hq (Nat.le_refl _) K.P w
    have hS := hb1 b o rfl
    have hm : (if mx.isSome = true then m else n) = m := by
      cases hmx : mx.isSome with
      | true => simp
      | false => simp [g4 hmx]
    rw [hm] at g1
    have hne : b ≠ id := fun q => hid (q ▸ hS)
    have hrun : (Instr.sliceAt t (conc μ ρ (.ptr b o)) (lo.map (conc μ ρ)) (hi.map (conc μ ρ)) (mx.map (conc μ ρ))).run K.P w = .ok (conc μ ρ v) w := by
      simp only [Instr.sliceAt, conc, Sem.run_bind, run_und hK hu, Result.andThen_ok, Instr.sureAddr, Sem.run_pure, g1, run_szB hK hz, add_none]
      rcases hcase with ⟨rfl, rfl⟩ | ⟨hne', rfl⟩
      · simp [conc]
      · simp [conc, hne', Nat.add_assoc]
    have hvs : VR ρ μ S v := by rcases hcase with ⟨_, rfl⟩ | ⟨_, rfl⟩ <;> exact VR.slice hS
    have : ob = none := by rcases hcase with ⟨_, rfl⟩ | ⟨_, rfl⟩ <;> (rw [bSlice_ne hne] at hb; cases hb; rfl)
    subst this
    exact NOut.pure h ⟨hrun, hvs⟩
  · rename_i s hu
    split at hv
    · cases hv
    · unfold sliceStr at hv
      split at hv
      · rename_i l hh m hq
        cases hv
        obtain ⟨g1, g2, _, _, _⟩ := boundsB_run (isS := false) (μ := μ) (ρ := ρ) hq (Nat.le_refl _) K.P w
        simp only [bSlice, Option.some.injEq] at hb
        subst hb
        refine NOut.pure h ⟨?_, VR.str⟩
        simp only [Option.map_none, Option.isSome_none, Bool.false_eq_true, if_false] at g1
        simp only [Instr.sliceAt, Instr.slice, conc, Sem.run_bind, run_und hK hu, Result.andThen_ok, Option.map_none, Option.isSome_none, Bool.false_eq_true, if_false, Sem.run_pure, str8_size, g1]
        congr 2
        apply ByteArray.ext
        simp only [ByteArray.data_extract, str8]
        apply Array.ext'
        simp [List.map_take, List.map_drop]
      · cases hv
  · rename_i e hu
    unfold sliceNil at hv
    split at hv
    · rename_i q z hq hz
      cases hv
      obtain ⟨l, hh, m⟩ := q
      obtain ⟨g1, g2, g3, g4, _⟩ := boundsB_run (isS := true) (μ := μ) (ρ := ρ) hq (Nat.le_refl _) K.P w
      simp only [bSlice, Option.some.injEq] at hb
      subst hb
      have hm : (if mx.isSome = true then m else 0) = 0 := by
        cases hmx : mx.isSome with
        | true => simp; have := g3 hmx; omega
        | false => simp
      rw [hm] at g1
      refine NOut.pure h ⟨?_, VR.nilSlice⟩
      have hh0 : hh = 0 := by
        cases hmx : mx.isSome with
        | true => have := g3 hmx; omega
        | false =>
          have := g4 hmx
          cases hi with
          | none => cases mx <;> simp at hmx; simp [boundsB, topB, highB, bounds2] at hq; split at hq <;> simp at hq; omega
          | some y => have := (boundsB_run (isS := true) (μ := μ) (ρ := ρ) hq (Nat.le_refl _) K.P w).2.2.2.2 rfl; omega
      have hl0 : l = 0 := by omega
      subst hh0; subst hl0
      simp only [Instr.sliceAt, Instr.slice, conc, Sem.run_bind, run_und hK hu, Result.andThen_ok, g1, run_szB hK hz, Sem.run_pure]
      simp
    · cases hv
  · rename_i e b o len c hu
    obtain ⟨z, hz, hv⟩ := sliceZ_some hv
    obtain ⟨l, hh, m, hq, hcase⟩ := sliceEx_some hv
    obtain ⟨g1, g2, _, g4, _⟩ := boundsB_run (isS := true) (μ := μ) (ρ := ρ) hq (Nat.le_refl _) K.P w
    have hS := hb2 b o len _ rfl
    have hm : (if mx.isSome = true then m else c) = m := by
      cases hmx : mx.isSome with
      | true => simp
      | false => simp [g4 hmx]
    rw [hm] at g1
    have hne : b ≠ id := fun q => hid (q ▸ hS)
    have hrun : (Instr.sliceAt t (conc μ ρ (.slice b o len (.ex c))) (lo.map (conc μ ρ)) (hi.map (conc μ ρ)) (mx.map (conc μ ρ))).run K.P w = .ok (conc μ ρ v) w := by
      simp only [Instr.sliceAt, Instr.slice, conc, Sem.run_bind, run_und hK hu, Result.andThen_ok, Sem.run_pure, g1, run_szB hK hz, ifaddr]
      rcases hcase with ⟨rfl, rfl⟩ | ⟨hne', rfl⟩
      · simp [conc]
      · simp [conc, hne', Nat.add_assoc]
    have hvs : VR ρ μ S v := by rcases hcase with ⟨_, rfl⟩ | ⟨_, rfl⟩ <;> exact VR.slice hS
    have : ob = none := by rcases hcase with ⟨_, rfl⟩ | ⟨_, rfl⟩ <;> (rw [bSlice_ne hne] at hb; cases hb; rfl)
    subst this
    exact NOut.pure h ⟨hrun, hvs⟩
  · rename_i e b o len i hu
    unfold sliceElB at hv
    split at hv
    · rename_i z hz
      cases hc : cellsAt G b with
      | none => simp [hc] at hv
      | some q =>
        obtain ⟨cs, wr, z'⟩ := q
        simp only [hc] at hv
        cases hzb : Nat.beq (z + 1) z' with
        | false => simp [hzb] at hv
        | true =>
          have := Nat.eq_of_beq_eq_true hzb
          subst this
          simp only [hzb] at hv
          have hS := hb2 b o len _ rfl
          have hne : b ≠ id := fun q => hid (q ▸ hS)
          -- so many elements there are
          have hcap : cs.length / (z + 1) - i ≤ (μ b).cap - i := by
            have hgb : H.m.get b = some (.cells cs wr (z + 1)) := hG _ _ (cellsAt_get hc)
            obtain ⟨_, _, h2⟩ := h.blk b _ hgb
            rcases h2 with ⟨_, h2⟩ | ⟨vs, E, fz, g1, g2, _, g4⟩
            · subst h2; simp
            · have hsz := g4 (by omega)
              have hle : cs.length ≤ (μ b).cap * (z + 1) := by
                rcases Nat.lt_or_ge 0 cs.length with hpos | hz0
                · have := g2 (cs.length - 1) _ (List.getElem?_eq_getElem (by omega))
                  have := (Array.getElem?_eq_some_iff.1 this).1
                  omega
                · omega
              have : cs.length / (z + 1) ≤ (μ b).cap := Nat.div_le_of_le_mul (by rw [Nat.mul_comm]; exact hle)
              omega
          unfold sliceEl1 at hv
          cases mx with
          | some y =>
            simp only at hv
            obtain ⟨l, hh, m, hq, hcase⟩ := sliceEx_some hv
            obtain ⟨g1, g2, _, _, _⟩ := boundsB_run (isS := true) (μ := μ) (ρ := ρ) hq hcap K.P w
            simp only [Option.isSome_some, if_true] at g1
            have hrun : (Instr.sliceAt t (conc μ ρ (.slice b o len (.el i))) (lo.map (conc μ ρ)) (hi.map (conc μ ρ)) ((some y).map (conc μ ρ))).run K.P w = .ok (conc μ ρ v) w := by
              simp only [Instr.sliceAt, Instr.slice, conc, Sem.run_bind, run_und hK hu, Result.andThen_ok, Sem.run_pure, g1, run_szB hK hz, ifaddr]
              rcases hcase with ⟨rfl, rfl⟩ | ⟨hne', rfl⟩
              · simp [conc]
              · simp [conc, hne', Nat.add_assoc]
            have hvs : VR ρ μ S v := by rcases hcase with ⟨_, rfl⟩ | ⟨_, rfl⟩ <;> exact VR.slice hS
            have : ob = none := by rcases hcase with ⟨_, rfl⟩ | ⟨_, rfl⟩ <;> (rw [bSlice_ne hne] at hb; cases hb; rfl)
            subst this
            exact NOut.pure h ⟨hrun, hvs⟩
          | none =>
            simp only at hv
            unfold sliceEl2 at hv
            split at hv
            · rename_i l hh m hq
              cases hkn : Nat.ble hh (cs.length / (z + 1) - i) with
              | false => simp [hkn] at hv
              | true =>
                have hkn' := Nat.le_of_ble_eq_true hkn
                simp only [hkn, Option.some.injEq] at hv
                subst hv
                obtain ⟨g1, g2, _, _, _⟩ := boundsB_run (isS := true) (μ := μ) (ρ := ρ) hq hcap K.P w
                simp only [Option.isSome_none, Bool.false_eq_true, if_false, Option.map_none] at g1
                have hrun0 : (Instr.sliceAt t (conc μ ρ (.slice b o len (.el i))) (lo.map (conc μ ρ)) (hi.map (conc μ ρ)) ((none : Option AVal).map (conc μ ρ))).run K.P w =
                    .ok (.slice (some (if (μ b).cap - i = l then ⟨(μ b).blk, (μ b).sh + o, none⟩ else ⟨(μ b).blk, (μ b).sh + o + l * (z + 1), none⟩)) (hh - l) ((μ b).cap - i - l)) w := by
                  simp only [Instr.sliceAt, Instr.slice, conc, Sem.run_bind, run_und hK hu, Result.andThen_ok, Sem.run_pure, Option.map_none, g1, run_szB hK hz, ifaddr]
                rw [hrun0]
                unfold sliceEl at hb ⊢
                cases l with
                | zero =>
                  simp only at hb ⊢
                  rw [bSlice_ne hne] at hb; cases hb
                  refine ⟨w, ?_, VR.slice hS, Step.refl h⟩
                  simp [conc]
                | succ l =>
                  simp only at hb ⊢
                  cases he : Nat.beq hh (l + 1) with
                  | true =>
                    have := Nat.eq_of_beq_eq_true he
                    subst this
                    simp only [he] at hb ⊢
                    simp only [bSlice, Nat.beq_refl, Option.some.injEq] at hb
                    subst hb
                    refine ⟨w, .of (μ b).blk (if (μ b).cap - i = l + 1 then (μ b).sh + o else (μ b).sh + o + (l + 1) * (z + 1)) ((μ b).cap - i - (l + 1)), ?_, VR.slice (Ids.and_self _ _), fun _ _ => rfl, Nat.le_refl _, rfl, rfl, rfl, ⟨VRs.nil, .inl ⟨rfl, rfl⟩⟩, New.none⟩
                    simp only [conc, Mu.at_self, Nat.add_zero, Nat.sub_self, Nat.sub_zero]
                    split <;> rfl
                  | false =>
                    have hne' := Nat.ne_of_beq_eq_false he
                    simp only [he] at hb ⊢
                    rw [bSlice_ne hne] at hb; cases hb
                    refine ⟨w, ?_, VR.slice hS, Step.refl h⟩
                    rw [if_neg (by omega)]
                    simp only [conc, Nat.add_assoc]
                    congr 2
                    omega
            · cases hv
    · cases hv
  · cases hv
end
end Go.Eng
