/- The engine, fourteenth part: appends, whole. -/
import Derived.Test.YtkpobofljnokaaaGreatEngB
namespace Go.Eng
section
variable {K : Cfg} {ρ : Rho} {μ : Mu} {S : Ids} {H H' G : AH} {w : World} {P : Program} {r : Operand → Option AVal} {a : Act} {v : AVal}

/-- What an append of n elements does, to whatever slice. -/
structure App (K : Cfg) (ρ : Rho) (μ : Mu) (S : Ids) (H : AH) (w : World) (z e n : Nat) (cs : List AVal) (f : Option Addr → Nat → Nat → Sem Value) : Prop where
  room : ∀ base sLen sCap, AppRoom K ρ μ w z base sLen sCap n cs (f base sLen sCap)
  new : ∀ base sLen sCap, AppNew K ρ μ S H w z e base sLen sCap n cs (f base sLen sCap)
  len : cs.length = n * z
  vrs : VRs ρ μ S cs

variable {z e n : Nat} {cs : List AVal} {f : Option Addr → Nat → Nat → Sem Value}

theorem App.grown (h : Rel ρ μ S H w) (A : App K ρ μ S H w z e n cs f) {base : Option Addr} {l c : Nat} {old : List AVal} (hno : ¬ (l + n ≤ c)) (hsm : l + n < 2000000)
    (hold : Src ρ μ S H z old l (Builtin.firstCells z l (.slice base l c)) K.P) (h0 : Rel ρ μ S H' w) (hn : H.next = H'.next) (hsub : ∀ id b, H'.m.get id = some b → H.m.get id = some b) :
    EOut K ρ μ S H w (Eng.grown H' z (old ++ cs) (l + n)).1 (Eng.grown H' z (old ++ cs) (l + n)).2 (f base l c) := by
  obtain ⟨w', cap, rest, h1, h2, h3, h4, h5, h6, h7⟩ := A.new base l c hno hsm old hold
  obtain ⟨g1, g2⟩ := Step.grown h h0 hn hsub (by rw [List.length_append, hold.len, A.len, Nat.add_mul]) h1 h4 (hold.vrs.append A.vrs) h3 h5 h6 h7
  exact ⟨_, _, w', by rw [h2]; simp only [Eng.grown]; rw [g2], g1, VR.slice (Ids.and_self _ _)⟩

theorem Src.none0 : Src ρ μ S H z [] 0 (Builtin.firstCells z 0 (.slice none 0 0)) P :=
  ⟨fun w _ => by simp [Builtin.firstCells, concs], by simp, VRs.nil⟩
theorem Src.some0 {a : Option Addr} {c : Nat} : Src ρ μ S H z [] 0 (Builtin.firstCells z 0 (.slice a 0 c)) P :=
  ⟨fun w _ => by cases a <;> simp [Builtin.firstCells, loadCells, loadCellsFrom, concs], by simp, VRs.nil⟩

theorem Src.of_cells {b o l k : Nat} {c : Nat} {old : List AVal} {wr : Bool} {zz : Nat} (h : Rel ρ μ S H w) (hg : H.m.get b = some (.cells old wr zz)) (hle : o + l * z ≤ old.length) :
    Src ρ μ S H z ((old.drop o).take (l * z)) l (Builtin.firstCells z l (.slice (some ⟨(μ b).blk, (μ b).sh + o, none⟩) k c)) P := by
  have := run_firstCells_src (k := k) (c := .ex c) (P := P) hg (h.blk b _ hg).2.1 hle
  rwa [conc] at this

theorem add_plain (b o k : Nat) : Addr.add ⟨b, o, none⟩ k = ⟨b, o + k, none⟩ := by
  unfold Addr.add; split
  · rename_i h; rw [h]; rfl
  · rfl

theorem App.put (h : Rel ρ μ S H w) (A : App K ρ μ S H w z e n cs f) {b o l : Nat} {c : ACap} {C : Nat} (hc : ∀ l, conc μ ρ (.slice b o l c) = .slice (some ⟨(μ b).blk, (μ b).sh + o, none⟩) l C)
    (hroom : l + n ≤ C) (hS : S b) (hp : appPut H z b o l cs n c = some (v, H')) : EOut K ρ μ S H w v H' (f (some ⟨(μ b).blk, (μ b).sh + o, none⟩) l C) := by
  unfold appPut at hp
  cases hs : storeB H b (o + l * z) cs with
  | none => simp [hs] at hp
  | some H1 =>
    simp only [hs, Option.some.injEq, Prod.mk.injEq] at hp
    obtain ⟨rfl, rfl⟩ := hp
    obtain ⟨w', h1, h2⟩ := storeB_run K.P h A.vrs hs
    refine ⟨μ, S, w', ?_, h2, VR.slice hS⟩
    rw [hc]
    refine A.room _ _ _ hroom w' (fun a ha => ?_) (fun ha => by cases ha)
    cases ha
    rw [add_plain, Nat.add_assoc]; exact h1

theorem App.el_new (h : Rel ρ μ S H w) (A : App K ρ μ S H w z e n cs f) {b o l j : Nat} {old : List AVal} (hg : H.m.get b = some (.cells old true z)) (hle : o + l * z ≤ old.length) (hz : 0 < z) (hn : 0 < n)
    (hsm : l + n < 1000000) (ho : o = j * z) (hcell : ∀ x ∈ cs, x.isCell = true) :
    EOut K ρ μ S H w (Eng.grown (H.drop b) z ((old.drop o).take (l * z) ++ cs) (l + n)).1 (Eng.grown (H.drop b) z ((old.drop o).take (l * z) ++ cs) (l + n)).2
      (f (some ⟨(μ b).blk, (μ b).sh + o, none⟩) l ((μ b).cap - j)) := by
  have hsub : ∀ id c, (H.drop b).m.get id = some c → H.m.get id = some c := fun id c hc => (AH.get_drop hc).2
  have h0 : Rel ρ μ S (H.drop b) w := h.less (Nat.le_refl _) hsub
  by_cases hroom : l + n ≤ (μ b).cap - j
  · obtain ⟨hS, hvr, hcs⟩ := h.blk b _ hg
    rcases hcs with ⟨hf, _⟩ | ⟨cells, E, fz, g1, g2, g3, g4⟩
    · cases hf
    have hsize := g4 (by omega)
    have hjc : j + (l + n) ≤ (μ b).cap := by omega
    have hmul : j * z + l * z + n * z ≤ (μ b).cap * z := by
      have := Nat.mul_le_mul_right z hjc
      rw [Nat.add_mul, Nat.add_mul] at this; omega
    obtain ⟨w', cells', f1, f2, f3, f4, f5, f6, f7, f8, f9⟩ := run_storeCells K.P (E := E) (fz := fz) (blk := (μ b).blk) (off := (μ b).sh + o + l * z) (concs μ ρ cs) 0 w cells g1 (g3 rfl)
      (fun x hx => by rw [concs_eq] at hx; obtain ⟨y, hy, rfl⟩ := List.mem_map.1 hx; exact isCell_one (hcell y hy)) (by rw [concs_length, A.len, hsize]; omega)
    have hid : ¬ S H.next := fun q => Nat.lt_irrefl _ (h.bnd _ q)
    have hup := Mu.at_upto (S := S) μ (.of (μ b).blk ((μ b).sh + o) ((μ b).cap - j)) hid
    have hvrs : VRs ρ μ S ((old.drop o).take (l * z) ++ cs) := ((hvr.drop _).take _).append A.vrs
    have himg : ∀ k, Img μ (H.drop b) k → k ≠ (μ b).blk := by
      rintro k ⟨i, d, hd, hds⟩ rfl
      obtain ⟨h1, h2⟩ := AH.get_drop hd
      exact h.inj b i _ d hg h2 (fun e => h1 e.symm) _ ⟨rfl, rfl⟩ hds
    have hfirst : ((old.drop o).take (l * z)).length = l * z := by simp; omega
    have hb : BRel ρ (μ.at H.next (.of (μ b).blk ((μ b).sh + o) ((μ b).cap - j))) (S.and H.next) w' (.of (μ b).blk ((μ b).sh + o) ((μ b).cap - j)) (.cells ((old.drop o).take (l * z) ++ cs) true z) := by
      refine ⟨hvrs.up hup (Ids.le_and _ _), .inr ⟨cells', E, fz, f2, fun i x hx => ?_, fun _ => by rw [f3]; exact g3 rfl, fun _ => ?_⟩⟩
      · rw [(hvrs.get hx).eq hup]
        simp only
        rw [← Array.getElem?_toList, f4, Nat.add_zero]
        have hlt : ((cells.toList.take ((μ b).sh + o + l * z))).length = (μ b).sh + o + l * z := by simp; omega
        by_cases hi : i < l * z
        · rw [List.getElem?_append_left (by rw [hfirst]; exact hi)] at hx
          rw [List.getElem?_take_of_lt hi, List.getElem?_drop] at hx
          rw [List.append_assoc, List.getElem?_append_left (by rw [hlt]; omega), List.getElem?_take_of_lt (by omega), Array.getElem?_toList, Nat.add_assoc]
          exact g2 _ _ hx
        · rw [List.getElem?_append_right (by rw [hfirst]; omega), hfirst] at hx
          have hi2 : i - l * z < cs.length := (List.getElem?_eq_some_iff.1 hx).1
          rw [List.append_assoc, List.getElem?_append_right (by rw [hlt]; omega), hlt, List.getElem?_append_left (by rw [concs_length]; omega)]
          rw [show (μ b).sh + o + i - ((μ b).sh + o + l * z) = i - l * z by omega]
          rw [concs_eq, List.getElem?_map, hx]; rfl
      · rw [f3, hsize, Nat.sub_mul, ho]
        show (μ b).sh + (μ b).cap * z = (μ b).sh + j * z + ((μ b).cap * z - j * z)
        have : j * z ≤ (μ b).cap * z := by omega
        omega
    refine ⟨μ.at H.next (Place.of (μ b).blk ((μ b).sh + o) ((μ b).cap - j)), S.and H.next, w', ?_, ⟨?_, hup, Ids.le_and _ _, fun id hid => ?_, Nat.le_succ _, f7, f8, f9, Nat.le_of_eq f6.symm, fun k _ hk => f5 k fun he => hk ⟨b, _, hg, ⟨rfl, he.symm⟩⟩, fun k hk => ?_, fun k hk => ?_⟩, VR.slice (Ids.and_self _ _)⟩
    · have := A.room (some ⟨(μ b).blk, (μ b).sh + o, none⟩) l ((μ b).cap - j) hroom w' (fun a ha => by cases ha; rw [add_plain]; exact f1) (fun ha => by cases ha)
      rw [this]; simp [Eng.grown, AH.drop, conc, Mu.at_self]
    · exact h0.add (H' := (H.drop b).alloc (.cells ((old.drop o).take (l * z) ++ cs) true z)) hid (Nat.lt_succ_self _) (Nat.le_succ _) (fun id c => AH.get_alloc) (fun k hk => f5 k (himg k hk)) hb (fun k hk hi => himg _ hi hk.2.symm) (fun k hk => by cases hk.1)
    · rcases hid with hid | rfl
      · exact .inl hid
      · exact .inr (Nat.le_refl _)
    · obtain ⟨id, c, hc, hs⟩ := hk
      rcases AH.get_alloc hc with ⟨rfl, rfl⟩ | ⟨hne, hc⟩
      · left
        refine ⟨b, _, hg, .inl ⟨rfl, ?_⟩⟩
        rcases hs with hs | hs
        · have := hs.2; simp [AH.drop, Mu.at_self] at this; exact this
        · cases hs.1
      · left
        have hne' : id ≠ H.next := hne
        rw [Mu.at_ne μ _ hne'] at hs; exact ⟨id, c, hsub _ _ hc, hs⟩
    · obtain ⟨id, c, hc, hs⟩ := hk
      rcases AH.get_alloc hc with ⟨rfl, rfl⟩ | ⟨hne, hc⟩
      · left
        refine ⟨b, _, hg, ⟨rfl, ?_⟩⟩
        have := hs.2; simp [AH.drop, Mu.at_self] at this; exact this
      · left
        have hne' : id ≠ H.next := hne
        rw [Mu.at_ne μ _ hne'] at hs; exact ⟨id, c, hsub _ _ hc, hs⟩
  · exact A.grown h hroom (by omega) (Src.of_cells h hg hle) h0 rfl hsub

theorem appTo_run (h : Rel ρ μ S H w) {x : AVal} (hx : VR ρ μ S x) (hz : 0 < z) (hn : 0 < n) (hcell : ∀ x ∈ cs, x.isCell = true) (A : App K ρ μ S H w z e n cs f) (hp : appTo H z cs n x = some (v, H')) :
    ∃ base l c, conc μ ρ x = .slice base l c ∧ EOut K ρ μ S H w v H' (f base l c) := by
  unfold appTo at hp
  split at hp
  · refine ⟨none, 0, 0, by simp [conc], ?_⟩
    cases hb : Nat.blt n 1000000 with
    | false => simp [hb] at hp
    | true =>
      have hb' := Nat.le_of_ble_eq_true hb
      simp only [hb, Option.some.injEq] at hp
      have := A.grown h (by omega) (by omega) Src.none0 h rfl (fun _ _ q => q)
      rw [List.nil_append, Nat.zero_add, hp] at this
      exact this
  · rename_i b o l c
    refine ⟨some ⟨(μ b).blk, (μ b).sh + o, none⟩, l, c, by simp [conc], ?_⟩
    unfold appEx at hp
    cases hb : Nat.ble (l + n) c with
    | true =>
      simp only [hb] at hp
      exact A.put h (fun l => by simp [conc]) (Nat.le_of_ble_eq_true hb) hx.of_slice hp
    | false =>
      have hno : ¬ (l + n ≤ c) := fun q => by rw [Nat.ble_eq_true_of_le q] at hb; cases hb
      simp only [hb] at hp
      split at hp
      · cases hb1 : Nat.blt n 1000000 with
        | false => simp [hb1] at hp
        | true =>
          have hb' := Nat.le_of_ble_eq_true hb1
          simp only [hb1, Option.some.injEq] at hp
          have := A.grown (base := some ⟨(μ b).blk, (μ b).sh + o, none⟩) h hno (by omega) Src.some0 h rfl (fun _ _ q => q)
          rw [List.nil_append, Nat.zero_add, hp] at this
          exact this
      · rename_i l
        unfold appGrow at hp
        split at hp
        · rename_i old wr zz hb1 hc
          have hb' := Nat.le_of_ble_eq_true hb1
          cases hle : Nat.ble (o + (l + 1) * z) old.length with
          | false => simp [hle] at hp
          | true =>
            simp only [hle, Option.some.injEq] at hp
            have := A.grown h hno (by omega) (Src.of_cells h (cellsAt_get hc) (Nat.le_of_ble_eq_true hle)) h rfl (fun _ _ q => q)
            rw [hp] at this
            exact this
        · cases hp
  · rename_i b o l j
    refine ⟨some ⟨(μ b).blk, (μ b).sh + o, none⟩, l, (μ b).cap - j, by simp [conc], ?_⟩
    unfold appEl at hp
    split at hp
    · rename_i old z' hc
      have hg : H.m.get b = some (.cells old true z') := cellsAt_get hc
      split at hp
      · rename_i hz1 hle
        have hz2 := Nat.eq_of_beq_eq_true hz1
        subst hz2
        have hle' := Nat.le_of_ble_eq_true hle
        refine A.put h (fun l => by simp [conc]) ?_ hx.of_slice hp
        obtain ⟨hS, hvr, hcs⟩ := h.blk b _ hg
        rcases hcs with ⟨hf, _⟩ | ⟨cells, E, fz, g1, g2, g3, g4⟩
        · cases hf
        have hsize := g4 (by omega)
        have hpos : 0 < old.length := Nat.lt_of_lt_of_le (Nat.mul_pos (by omega) hz) hle'
        have := g2 (old.length - 1) _ (List.getElem?_eq_getElem (by omega))
        have := (Array.getElem?_eq_some_iff.1 this).1
        have hm : (j + l + n) * z' ≤ (μ b).cap * z' := by omega
        have := Nat.le_of_mul_le_mul_right hm hz
        omega
      · rename_i hz1 hle
        have hz2 := Nat.eq_of_beq_eq_true hz1
        subst hz2
        split at hp
        · rename_i h1 h2 h3
          have h2' := Nat.le_of_ble_eq_true h2
          simp only [Option.some.injEq] at hp
          have := A.el_new h hg (Nat.le_of_ble_eq_true h1) hz hn (by omega) (Nat.eq_of_beq_eq_true h3) hcell
          rw [hp] at this
          exact this
        · cases hp
      · cases hp
    · cases hp
  · cases hp

theorem appNone_run (h : Rel ρ μ S H w) {x : AVal} (hx : VR ρ μ S x) (hz : 0 < z) (A : App K ρ μ S H w z e 0 cs f) (hp : appNone H z x = some (v, H')) :
    ∃ base l c, conc μ ρ x = .slice base l c ∧ EOut K ρ μ S H w v H' (f base l c) := by
  have hcs : cs = [] := List.length_eq_zero_iff.1 (by rw [A.len]; simp)
  subst hcs
  have key : ∀ base l c, l ≤ c → (f base l c).run K.P w = .ok (.slice base l c) w := fun base l c hl =>
    A.room base l c hl w (fun a _ => by simp [concs, storeCells]) (fun _ => rfl)
  unfold appNone at hp
  split at hp
  · cases hp
    exact ⟨none, 0, 0, by simp [conc], EOut.refl h hx (by rw [key _ _ _ (Nat.le_refl _)]; simp [conc])⟩
  · rename_i b o l c
    cases hb : Nat.ble l c with
    | false => simp [hb] at hp
    | true =>
      simp only [hb, Option.some.injEq, Prod.mk.injEq] at hp
      obtain ⟨rfl, rfl⟩ := hp
      exact ⟨some ⟨(μ b).blk, (μ b).sh + o, none⟩, l, c, by simp [conc], EOut.refl h hx (by rw [key _ _ _ (Nat.le_of_ble_eq_true hb)]; simp [conc])⟩
  · rename_i b o j
    cases hp
    exact ⟨some ⟨(μ b).blk, (μ b).sh + o, none⟩, 0, (μ b).cap - j, by simp [conc], EOut.refl h hx (by rw [key _ _ _ (Nat.zero_le _)]; simp [conc])⟩
  · rename_i b o l j
    unfold appNoneEl at hp
    split at hp
    · rename_i old wr z' hc
      have hg : H.m.get b = some (.cells old wr z') := cellsAt_get hc
      split at hp
      · rename_i hz1 hle
        have hz2 := Nat.eq_of_beq_eq_true hz1
        subst hz2
        have hle' := Nat.le_of_ble_eq_true hle
        cases hp
        refine ⟨some ⟨(μ b).blk, (μ b).sh + o, none⟩, l + 1, (μ b).cap - j, by simp [conc], EOut.refl h hx ?_⟩
        rw [key _ _ _ ?_]
        · simp [conc]
        obtain ⟨hS, hvr, hcs⟩ := h.blk b _ hg
        have hpos : 0 < old.length := Nat.lt_of_lt_of_le (Nat.mul_pos (by omega) hz) hle'
        rcases hcs with ⟨_, hf⟩ | ⟨cells, E, fz, g1, g2, g3, g4⟩
        · subst hf; simp at hpos
        have hsize := g4 (by omega)
        have := g2 (old.length - 1) _ (List.getElem?_eq_getElem (by omega))
        have := (Array.getElem?_eq_some_iff.1 this).1
        have hm : (j + (l + 1)) * z' ≤ (μ b).cap * z' := by omega
        have := Nat.le_of_mul_le_mul_right hm hz
        omega
      · cases hp
    · cases hp
  · cases hp

theorem appendB_run (hK : COK K) (hS : SOK K ρ) (h : Rel ρ μ S H w) {t0 t1 ty : TypeId} {s x : AVal} (hs : VR ρ μ S s) (hx : VR ρ μ S x) (hp : appendB K H t0 t1 s x = some (v, H')) :
    EOut K ρ μ S H w v H' (Builtin.append_ #[t0, t1] ty #[conc μ ρ s, conc μ ρ x]) := by
  unfold appendB at hp
  split at hp
  · rename_i e d1 hu0 hu1
    unfold appAny at hp
    split at hp
    · exact appT_run hK hS h hu0 hu1 hp
    rename_i hany
    clear hany
    unfold app1 at hp
    split at hp
    · rename_i i zv hi hzv
      split at hp
      · rename_i z hsz hl hby
        have hl' := Nat.eq_of_beq_eq_true hl
        have hby' := Nat.le_of_ble_eq_true hby
        rw [hsz] at hl'
        have hA : ∀ cs n, appSrc H (z + 1) zv.cells d1 x = some (cs, n) → App K ρ μ S H w (z + 1) e n cs (fun base l c => Builtin.append_ #[t0, t1] ty #[.slice base l c, conc μ ρ x]) := by
          intro cs n hsrc
          unfold appSrc at hsrc
          cases hd : isIntD d1 with
          | false =>
            simp only [hd] at hsrc
            obtain ⟨hS, hlen⟩ := srcB_sound h hsrc K.P
            have key := fun base l c => append_slice (ty := ty) (base := base) (sLen := l) (sCap := c) hK h hd hu0 hu1 hi hzv hsz hl' hby' hS hlen
            exact ⟨fun base l c => (key base l c).1, fun base l c => (key base l c).2, hS.len, hS.vrs⟩
          | true =>
            simp only [hd] at hsrc
            cases d1 <;> (try (simp [isIntD] at hd; done))
            rename_i k1
            unfold zerosOf at hsrc
            split at hsrc
            · rename_i m
              unfold zerosSrc at hsrc
              cases hb : Nat.blt m 1000000 with
              | false => simp [hb] at hsrc
              | true =>
                have hb' := Nat.le_of_ble_eq_true hb
                simp only [hb, Option.some.injEq, Prod.mk.injEq] at hsrc
                obtain ⟨rfl, rfl⟩ := hsrc
                have key := fun base l c => append_zeros (n := m) (ty := ty) (base := base) (sLen := l) (sCap := c) hK hu0 hu1 hi hzv hsz (by omega) hl' hby' (by omega) h
                refine ⟨fun base l c => ?_, fun base l c => ?_, by rw [zrep_length, hl'], zrep_VR (zeroB_VR hzv).cells _⟩
                · simp only [conc]; exact (key base l c).1
                · simp only [conc]; exact (key base l c).2
            · cases hsrc
        cases hsrc : appSrc H (z + 1) zv.cells d1 x with
        | none => simp [hsrc, app2] at hp
        | some q =>
          obtain ⟨cs, n⟩ := q
          have A := hA cs n hsrc
          simp only [hsrc, app2] at hp
          split at hp
          · obtain ⟨base, l, c, h1, h2⟩ := appNone_run h hs (by omega) A hp
            rw [h1]; exact h2
          · rename_i n hall
            obtain ⟨base, l, c, h1, h2⟩ := appTo_run h hs (by omega) (by omega) (allB_iff.1 hall) A hp
            rw [h1]; exact h2
          · cases hp
      · cases hp
    · cases hp
  · cases hp
end
end Go.Eng
