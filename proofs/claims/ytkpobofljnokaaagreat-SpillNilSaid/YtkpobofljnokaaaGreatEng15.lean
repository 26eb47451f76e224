/- The engine, fifteenth part: stores, maps, iterators. -/
import Derived.Test.YtkpobofljnokaaaGreatEng14
namespace Go.Eng
section
variable {K : Cfg} {ρ : Rho} {μ : Mu} {S : Ids} {H H' G : AH} {w : World} {P : Program} {r : Operand → Option AVal} {a : Act} {v : AVal}

theorem Step.set (h : Rel ρ μ S H w) {b c : ABlk} {id : Nat} {o o' : Obj} (hid : H.m.get id = some b) (hs : b.mut = true) (hp : b.plain = true) (hc : c.plain = true) (hcm : c.mut = true) (ho : w.heap[(μ id).blk]? = some o)
    (hb : ∀ w' : World, w'.heap[(μ id).blk]? = some o' → BRel ρ μ S w' (μ id) c) :
    Step ρ μ S H w μ S (H.put id c) { w with heap := w.heap.setIfInBounds (μ id).blk o' } := by
  obtain ⟨h1, h2⟩ := Go.MapKept.heap_set (o' := o') ho
  exact Step.put h hid hs hp hc hcm (fun k hk => h2 k hk) (by simp) rfl rfl rfl (hb _ h1)

theorem Step.setMap (h : Rel ρ μ S H w) {id : Nat} {es es2 : List AEnt} {c c2 : Nat} {es' es2' : Array MapEntry} (hid : H.m.get id = some (.map es c)) (ho : w.heap[(μ id).blk]? = some (.map es' c))
    (hv : ∀ e ∈ es2, VR ρ μ S e.key ∧ VR ρ μ S e.val) (he : es2'.toList = es2.map (entC μ ρ)) :
    Step ρ μ S H w μ S (H.put id (.map es2 c2)) { w with heap := w.heap.setIfInBounds (μ id).blk (.map es2' c2) } :=
  Step.set h hid rfl rfl rfl rfl ho fun _ hw => ⟨hv, es2', hw, he⟩

theorem run_setObj {blk : Nat} {o : Obj} (o' : Obj) (hb : w.heap[blk]? = some o) (hn : ∀ c e f, o ≠ .cells c e f) : (setObj blk o').run P w = .ok () { w with heap := w.heap.setIfInBounds blk o' } := by
  cases o <;> first | exact absurd rfl (hn _ _ _) | simp only [setObj, Sem.run, hb]

theorem run_getObj {blk : Nat} {o : Obj} (hb : w.heap[blk]? = some o) (hn : ∀ c e f, o ≠ .cells c e f) : (getObj blk).run P w = .ok o w := by
  cases o <;> first | exact absurd rfl (hn _ _ _) | simp only [getObj, Sem.run, hb]

theorem set_same {h : Array Obj} {i : Nat} {o : Obj} (hb : h[i]? = some o) : h.setIfInBounds i o = h := by
  apply Array.ext_getElem?
  intro j
  rw [Array.getElem?_setIfInBounds]
  by_cases hij : i = j
  · subst hij
    have := (Array.getElem?_eq_some_iff.1 hb).1
    simp [this]
    exact (Array.getElem?_eq_some_iff.1 hb).2.symm
  · simp [hij]

theorem setNth_eq {α : Type} : ∀ (l : List α) (i : Nat) (x : α), setNth l i x = l.set i x
  | [], _, _ => rfl
  | a :: l, 0, x => rfl
  | a :: l, i + 1, x => by simp [setNth, setNth_eq l i x]
theorem eraseNth_eq {α : Type} : ∀ (l : List α) (i : Nat), eraseNth l i = l.eraseIdx i
  | [], _ => rfl
  | a :: l, 0 => rfl
  | a :: l, i + 1 => by simp [eraseNth, eraseNth_eq l i]

theorem map_eraseIdx {α β : Type} (f : α → β) : ∀ (l : List α) (i : Nat), (l.map f).eraseIdx i = (l.eraseIdx i).map f
  | [], _ => rfl
  | a :: l, 0 => rfl
  | a :: l, i + 1 => by simp [map_eraseIdx f l i]

/-! ### Stores -/
theorem ev_upd (t i x : Tm) (c : Nat) : ((Tm.op (.upd c) [t, i, x]).ev ρ).rows = (t.ev ρ).rows.modify (i.int ρ).toNat (fun r => r.set c (x.ev ρ)) := by
  simp [Tm.ev, Tm.evs, BOp.ev, Dat.upd, Dat.rows, Tm.int]

theorem updT_sound {F : Nat → Prop} {i : Tm} : ∀ (sh : List Shp) (vs : List AVal) (t t' : Tm) (o : Nat) (row : List Dat), updT t i o sh vs = some t' → (t.ev ρ).rows[(i.int ρ).toNat]? = some row → o + vs.length ≤ row.length →
    ∃ row', (t'.ev ρ).rows = (t.ev ρ).rows.set (i.int ρ).toNat row' ∧ row'.length = row.length ∧ sh.length = vs.length ∧ (∀ x, x < o ∨ o + vs.length ≤ x → row'[x]? = row[x]?) ∧
      ∀ (x : Nat) s d, sh[x]? = some s → row'[o + x]? = some d → ∃ u, (concs μ ρ vs)[x]? = some u ∧ CRel w F s d u ∧ u.oneCell' = true
  | [], [], t, t', o, row, h, hr, hl => by
    simp only [updT, Option.some.injEq] at h
    subst h
    refine ⟨row, ?_, rfl, rfl, fun _ _ => rfl, by simp⟩
    apply List.ext_getElem?
    intro n
    rw [List.getElem?_set]
    split
    · rename_i e; subst e
      have := (List.getElem?_eq_some_iff.1 hr).1
      rw [if_pos this, hr]
    · rfl
  | [], _ :: _, t, t', o, row, h, _, _ => by simp [updT] at h
  | _ :: _, [], t, t', o, row, h, _, _ => by simp [updT] at h
  | s :: ss, v :: vs, t, t', o, row, h, hr, hl => by
    simp only [List.length_cons] at hl
    have main : ∀ x : Tm, updT (.op (.upd o) [t, i, x]) i (o + 1) ss vs = some t' → CRel w F s (x.ev ρ) (conc μ ρ v) →
        ∃ row', (t'.ev ρ).rows = (t.ev ρ).rows.set (i.int ρ).toNat row' ∧ row'.length = row.length ∧ (s :: ss).length = (v :: vs).length ∧ (∀ x, x < o ∨ o + (v :: vs).length ≤ x → row'[x]? = row[x]?) ∧
          ∀ (x : Nat) s' d, (s :: ss)[x]? = some s' → row'[o + x]? = some d → ∃ u, (concs μ ρ (v :: vs))[x]? = some u ∧ CRel w F s' d u ∧ u.oneCell' = true := by
      intro x hrec hc
      have hr2 : ((Tm.op (.upd o) [t, i, x]).ev ρ).rows[(i.int ρ).toNat]? = some (row.set o (x.ev ρ)) := by rw [ev_upd, List.getElem?_modify, hr]; simp
      obtain ⟨row', e1, e2, e3, e4, e5⟩ := updT_sound ss vs _ t' (o + 1) _ hrec hr2 (by simp; omega)
      refine ⟨row', ?_, by rw [e2]; simp, by simp [e3], fun y hy => ?_, fun y s' d hs hd => ?_⟩
      · rw [e1, ev_upd]
        apply List.ext_getElem?
        intro n
        rw [List.getElem?_set, List.getElem?_set]
        split
        · simp
        · rename_i hne; rw [List.getElem?_modify]; simp [hne]
      · rw [e4 y (by simp only [List.length_cons] at hy; omega)]
        rw [List.getElem?_set, if_neg (by simp only [List.length_cons] at hy; omega)]
      · cases y with
        | zero =>
          simp at hs; subst hs
          rw [e4 (o + 0) (by omega), List.getElem?_set, if_pos (by omega), if_pos (by omega)] at hd
          cases hd
          exact ⟨conc μ ρ v, by simp [concs], hc, hc.one⟩
        | succ y =>
          obtain ⟨u, q1, q2, q3⟩ := e5 y s' d (by simpa using hs) (by rw [← hd]; congr 1; omega)
          exact ⟨u, by simpa [concs] using q1, q2, q3⟩
    unfold updT at h
    cases s with
    | num k =>
      simp only at h
      split at h
      · rename_i x hx
        cases hv : tmOf v with
        | none => simp [hv, numTm] at hx
        | some q =>
          obtain ⟨k', t2⟩ := q
          simp only [hv, numTm] at hx
          split at hx
          · rename_i hk
            cases hx
            refine main _ h ?_
            rw [tmOf_conc hv, keq_iff.1 hk]
            simp [CRel, Tm.int]
          · cases hx
      · cases h
    | bool =>
      simp only at h
      split at h
      · exact main _ h (by simp [CRel, conc, Tm.ev, Dat.int])
      · exact main _ h (by simp [CRel, conc, Tm.ev, Dat.int])
      · cases h
    | sl row => simp at h

theorem storeE_run (hS : SOK K ρ) (h : Rel ρ μ S H w) {rr j z o : Nat} {i : Tm} {vs : List AVal} (he : storeE K.gam H rr j z i o vs (ownOne (H.m.get rr)) = some H') (P : Program) :
    ∃ b off w', conc μ ρ (.eptr rr j z i o) = .pointer (some ⟨b, off, none⟩) ∧ (storeCells ⟨b, off, none⟩ (concs μ ρ vs)).run P w = .ok () w' ∧ Step ρ μ S H w μ S H' w' := by
  unfold storeE at he
  split at he
  · rename_i c hc
    have hg : H.m.get rr = some (.pack [c] true) := by
      unfold ownOne at hc
      split at hc
      · rename_i c' hg; cases hc; exact hg
      · cases hc
    split at he
    · rename_i hz hi hle
      split at he
      · rename_i t' ht
        cases he
        have hz := Nat.eq_of_beq_eq_true hz
        have hle := Nat.le_of_ble_eq_true hle
        subst hz
        have R : CompR ρ μ S H w rr 0 c true := compAt_rel h (fun _ _ q => q) (by simp [compAt, hg, nth])
        obtain ⟨i0, i1⟩ := idxT_sound hS hi
        obtain ⟨b, o', cap, cs, E, fz, row, q1, q2, q3, q4, q5, _, q7⟩ := R.row i0 i1
        obtain ⟨hb, hth, hcs⟩ := q5 rfl
        have hrl := q4.length
        obtain ⟨row', e1, e2, e3, e4, e5⟩ := updT_sound (w := w) (μ := μ) (F := (μ rr).foot) _ _ _ _ _ row ht q3 (by rw [hrl]; exact hle)
        have hil : (i.int ρ).toNat < (c.t.ev ρ).rows.length := by omega
        have hin : (i.int ρ).toNat * c.sh.length + c.sh.length ≤ cap * c.sh.length := by
          have : ((i.int ρ).toNat + 1) * c.sh.length ≤ cap * c.sh.length := Nat.mul_le_mul_right _ (by omega)
          rw [Nat.add_mul] at this; omega
        have hone : ∀ y ∈ concs μ ρ vs, y.oneCell' = true := by
          intro y hy
          obtain ⟨n, hn, rfl⟩ := List.mem_iff_getElem.1 hy
          rw [concs_length] at hn
          have hs : ((c.sh.drop o).take vs.length)[n]? = some ((c.sh.drop o).take vs.length)[n] := List.getElem?_eq_getElem (by rw [e3]; exact hn)
          have hd : row'[o + n]? = some row'[o + n] := List.getElem?_eq_getElem (by rw [e2, hrl]; omega)
          obtain ⟨u, g1, _, g3⟩ := e5 n _ _ hs hd
          rw [List.getElem?_eq_getElem (by rw [concs_length]; exact hn)] at g1
          cases g1; exact g3
        obtain ⟨w', cs', s1, s2, s3, s4, s5, s6, s7, s8, s9⟩ := run_storeCells P (E := E) (fz := fz) (blk := b) (off := o' + ((i.int ρ).toNat * c.sh.length + o)) (concs μ ρ vs) 0 w cs q2 hth hone (by rw [concs_length, hcs]; omega)
        have hbf : ¬ (μ rr).foot b := (R.ownd b hb).2.2
        have hfoot : ∀ k, (μ rr).foot k → w'.heap[k]? = w.heap[k]? := fun k hk => s5 k fun e => hbf (e ▸ hk)
        refine ⟨b, _, w', by rw [conc]; exact elemPtr_eq q1 _, s1, ?_⟩
        refine Step.turn h hg (fun k hk => hk) (fun k hk => hk) (fun k hk => s5 k fun e => hk ⟨rfl, e ▸ hb⟩) s6 s7 s8 s9 ⟨fun k hk => ?_, fun k hk => ?_, fun jj cp hjj => ?_⟩
        · obtain ⟨a1, a2, a3⟩ := R.ownd k hk
          exact ⟨rfl, by rw [s6]; exact a2, a3⟩
        · rw [s6]; exact R.foot k hk
        · cases jj with
          | succ jj => simp at hjj
          | zero =>
            simp at hjj
            subst hjj
            have hlen : (t'.ev ρ).rows.length = (c.t.ev ρ).rows.length := by rw [e1, List.length_set]
            have hR := R.rel
            rcases hR with ⟨h1, _⟩ | ⟨b2, o2, cap2, h1, h2, h3, h4⟩
            · rw [q1] at h1; simp at h1
            · rw [q1] at h1
              simp only [Prod.mk.injEq, Option.some.injEq, Addr.mk.injEq, true_and, and_true] at h1
              obtain ⟨⟨rfl, rfl⟩, rfl⟩ := h1
              refine .inr ⟨b, o', cap, by rw [q1]; simp [hlen], by simp only [hlen]; exact h2, fun hf => by simp only [hlen]; exact h3 hf, fun hc0 => ?_⟩
              obtain ⟨g1, g2, cs2, E2, fz2, g3, g4, g5⟩ := h4 hc0
              rw [q2] at g3
              cases g3
              refine ⟨g1, g2, cs', E, fz, s2, fun ho => ⟨by rw [s3]; exact hth, by rw [s3]; exact hcs⟩, fun n r hn => ?_⟩
              -- where the cells lie
              have hcell : ∀ x, x < o' + cap * c.sh.length → (x < o' + ((i.int ρ).toNat * c.sh.length + o) ∨ o' + ((i.int ρ).toNat * c.sh.length + o) + vs.length ≤ x) → cs'[x]? = cs[x]? := by
                intro x hx hcase
                rw [← Array.getElem?_toList, s4, Nat.add_zero, concs_length, ← Array.getElem?_toList]
                have hl1 : (cs.toList.take (o' + ((i.int ρ).toNat * c.sh.length + o))).length = o' + ((i.int ρ).toNat * c.sh.length + o) := by simp; omega
                rcases hcase with hcase | hcase
                · rw [List.append_assoc, List.getElem?_append_left (by rw [hl1]; exact hcase), List.getElem?_take_of_lt hcase]
                · rw [List.getElem?_append_right (by rw [List.length_append, hl1, concs_length]; exact hcase), List.length_append, hl1, concs_length, List.getElem?_drop]
                  congr 1; omega
              have hcell2 : ∀ x, x < vs.length → cs'[o' + ((i.int ρ).toNat * c.sh.length + o) + x]? = (concs μ ρ vs)[x]? := by
                intro x hx
                rw [← Array.getElem?_toList, s4, Nat.add_zero]
                have hl1 : (cs.toList.take (o' + ((i.int ρ).toNat * c.sh.length + o))).length = o' + ((i.int ρ).toNat * c.sh.length + o) := by simp; omega
                rw [List.append_assoc, List.getElem?_append_right (by rw [hl1]; omega), hl1, List.getElem?_append_left (by rw [concs_length]; omega)]
                congr 1; omega
              simp only at hn
              rw [e1, List.getElem?_set] at hn
              by_cases hni : n = (i.int ρ).toNat
              · subst hni
                rw [if_pos rfl, if_pos hil] at hn
                cases hn
                have hq4 := RRel.iff.1 q4
                refine RRel.iff.2 ⟨by rw [e2, hrl], fun x s d hs hd => ?_⟩
                have hxl : x < c.sh.length := (List.getElem?_eq_some_iff.1 hs).1
                by_cases hx : x < o ∨ o + vs.length ≤ x
                · rw [e4 x hx] at hd
                  obtain ⟨u, u1, u2⟩ := hq4.2 x s d hs hd
                  exact ⟨u, by rw [hcell (o' + (i.int ρ).toNat * c.sh.length + x) (by omega) (by omega)]; exact u1, CRel.keep hfoot (fun _ h => h) _ _ _ u2⟩
                · have hs2 : ((c.sh.drop o).take vs.length)[x - o]? = some s := by rw [take_drop_get (by omega), ← hs]; congr 1; omega
                  obtain ⟨u, u1, u2, _⟩ := e5 (x - o) s d hs2 (by rw [← hd]; congr 1; omega)
                  refine ⟨u, ?_, CRel.keep hfoot (fun _ h => h) _ _ _ u2⟩
                  rw [← u1, ← hcell2 (x - o) (by omega)]
                  show cs'[o' + (i.int ρ).toNat * c.sh.length + x]? = _
                  congr 1; omega
              · rw [if_neg (fun e => hni e.symm)] at hn
                have hnl : n < (c.t.ev ρ).rows.length := (List.getElem?_eq_some_iff.1 hn).1
                have hg5 := RRel.iff.1 (g5 n r hn)
                refine RRel.iff.2 ⟨hg5.1, fun x s d hs hd => ?_⟩
                obtain ⟨u, u1, u2⟩ := hg5.2 x s d hs hd
                have hxl : x < c.sh.length := (List.getElem?_eq_some_iff.1 hs).1
                refine ⟨u, ?_, CRel.keep hfoot (fun _ h => h) _ _ _ u2⟩
                have m1 : n * c.sh.length + c.sh.length ≤ cap * c.sh.length := by
                  have : (n + 1) * c.sh.length ≤ cap * c.sh.length := Nat.mul_le_mul_right _ (by omega)
                  rw [Nat.add_mul] at this; omega
                rw [hcell (o' + n * c.sh.length + x) (by omega) ?_]
                · exact u1
                · rcases Nat.lt_or_gt_of_ne hni with hlt | hgt
                  · have : (n + 1) * c.sh.length ≤ (i.int ρ).toNat * c.sh.length := Nat.mul_le_mul_right _ hlt
                    rw [Nat.add_mul] at this; left; omega
                  · have : ((i.int ρ).toNat + 1) * c.sh.length ≤ n * c.sh.length := Nat.mul_le_mul_right _ hgt
                    rw [Nat.add_mul] at this; right; omega
      · cases he
    · cases he
  · cases he

theorem store_run (hK : COK K) (hS : SOK K ρ) (h : Rel ρ μ S H w) {t : TypeId} {x y : AVal} (hy : VR ρ μ S y) {j : Job ⊕ (AVal × AH)} (he : eStore K.gam H (some x) (some y) (szB K t) = some j) :
    ∃ H' w', j = .inr (.undef, H') ∧ (Instr.storeAt t (conc μ ρ x) (conc μ ρ y)).run K.P w = .ok () w' ∧ Step ρ μ S H w μ S H' w' := by
  unfold eStore at he
  split at he
  · rename_i b q v z e1 e2 hz
    cases e1; cases e2
    cases hl : Nat.beq y.cells.length z with
    | false => simp [hl] at he
    | true =>
      have hl' := Nat.eq_of_beq_eq_true hl
      simp only [hl] at he
      cases hs : storeB H b q y.cells with
      | none => simp [hs, effU] at he
      | some H1 =>
        simp only [hs, effU, Option.some.injEq] at he
        subst he
        obtain ⟨w', h1, h2⟩ := storeB_run K.P h hy.cells hs
        refine ⟨H1, w', rfl, ?_, h2⟩
        have hc : (conc μ ρ y).cells.size = z := by rw [conc_cells]; simp [concs_length, hl']
        have hp : conc μ ρ (.ptr b q) = .pointer (some ⟨(μ b).blk, (μ b).sh + q, none⟩) := by simp [conc]
        simp only [hp, Instr.storeAt, Instr.sureAddr, Sem.run_bind, Sem.run_pure, Result.andThen_ok, storeVar, run_szB hK hz, hc, ne_eq, not_true_eq_false, Sem.run_ite, if_false]
        rw [conc_cells]; exact h1
  · rename_i rr jj z i o v n e1 e2 hz
    cases e1; cases e2
    cases hl : Nat.beq y.cells.length n with
    | false => simp [hl] at he
    | true =>
      have hl' := Nat.eq_of_beq_eq_true hl
      simp only [hl] at he
      cases hs : storeE K.gam H rr jj z i o y.cells (ownOne (H.m.get rr)) with
      | none => simp [hs, effU] at he
      | some H1 =>
        simp only [hs, effU, Option.some.injEq] at he
        subst he
        obtain ⟨b, off, w', hp, h1, h2⟩ := storeE_run hS h hs K.P
        refine ⟨H1, w', rfl, ?_, h2⟩
        have hc : (conc μ ρ y).cells.size = n := by rw [conc_cells]; simp [concs_length, hl']
        simp only [hp, Instr.storeAt, Instr.sureAddr, Sem.run_bind, Sem.run_pure, Result.andThen_ok, storeVar, run_szB hK hz, hc, ne_eq, not_true_eq_false, Sem.run_ite, if_false]
        rw [conc_cells]; exact h1
  · cases he

/-! ### Maps -/
theorem mapAt_at (h : Rel ρ μ S H w) {r : Nat} {es : List AEnt} {c : Nat} (hm : mapAt H r = some (es, c)) :
    H.m.get r = some (.map es c) ∧ ∃ es', w.heap[(μ r).blk]? = some (.map es' c) ∧ es'.toList = es.map (entC μ ρ) ∧ (∀ e ∈ es, VR ρ μ S e.key ∧ VR ρ μ S e.val) ∧ S r :=
  ⟨mapAt_get hm, h.map (mapAt_get hm)⟩

theorem upd_run (hK : COK K) (h : Rel ρ μ S H w) {t : TypeId} {x k y : AVal} (hk : VR ρ μ S k) (hy : VR ρ μ S y) (hu : updB K H t x k y = some H') :
    ∃ w', (Instr.mapUpdate t (conc μ ρ x) (conc μ ρ k) (conc μ ρ y)).run K.P w = .ok () w' ∧ Step ρ μ S H w μ S H' w' := by
  unfold updB at hu
  split at hu
  · rename_i kt et r hut
    split at hu
    · rename_i es c hf hm
      obtain ⟨d, hd, hik, hkd⟩ := keyFits_sound (μ := μ) (ρ := ρ) hf
      have hpd := und_sound hK hd
      obtain ⟨hg, es', g1, g2, g3, hS⟩ := mapAt_at h hm
      have hx : conc μ ρ (.map r) = .map (some (μ r).blk) := by simp [conc]
      split at hu
      · rename_i i e hfb
        cases hu
        obtain ⟨f1, f2⟩ := findB_sound (μ := μ) (ρ := ρ) hkd es 0 _ hfb
        obtain ⟨_, f3, f4⟩ := f2 i e rfl
        rw [Nat.sub_zero] at f3
        rw [← g2] at f1
        have hj : es'[i]? = some (entC μ ρ e) := by rw [← Array.getElem?_toList, g2, List.getElem?_map, f3]; rfl
        have hkey : (entC μ ρ e).key = conc μ ρ k := f4
        refine ⟨{ w with heap := w.heap.setIfInBounds (μ r).blk (.map (es'.modify i fun e => { e with key := conc μ ρ k, val := conc μ ρ y }) c) }, ?_, ?_⟩
        · simp [hx, Instr.mapUpdate, Sem.run_bind, run_und hK hut, Go.MapKept.run_getObj_map g1, Go.MapKept.run_checkKey hpd hik, Go.MapKept.run_findKey hpd f1, hj, hkey, Go.MapKept.run_keyThatStays hik, Go.MapKept.run_setObj_map _ g1, Result.andThen]
        · refine Step.setMap h hg g1 ?_ ?_
          · intro e' he'
            rw [setNth_eq] at he'
            rcases List.mem_or_eq_of_mem_set he' with he' | rfl
            · exact g3 _ he'
            · exact ⟨hk, hy⟩
          · rw [Array.toList_modify, g2, setNth_eq]
            apply List.ext_getElem?
            intro j
            rw [List.getElem?_modify, List.getElem?_map, List.getElem?_map, List.getElem?_set]
            by_cases hij : i = j
            · subst hij
              have hlt : i < es.length := (List.getElem?_eq_some_iff.1 f3).1
              have hb := (List.getElem?_eq_some_iff.1 f3).2
              simp [hlt, entC, hb]
            · simp [hij]
      · rename_i hfb
        cases hu
        obtain ⟨f1, _⟩ := findB_sound (μ := μ) (ρ := ρ) hkd es 0 _ hfb
        rw [← g2] at f1
        refine ⟨{ w with heap := w.heap.setIfInBounds (μ r).blk (.map (es'.push { key := conc μ ρ k, val := conc μ ρ y, born := c }) (c + 1)) }, ?_, ?_⟩
        · simp [hx, Instr.mapUpdate, Sem.run_bind, run_und hK hut, Go.MapKept.run_getObj_map g1, Go.MapKept.run_checkKey hpd hik, Go.MapKept.run_findKey hpd f1, Go.MapKept.run_setObj_map _ g1, Result.andThen]
        · refine Step.setMap h hg g1 ?_ ?_
          · intro e' he'
            rcases List.mem_append.1 he' with he' | he'
            · exact g3 _ he'
            · simp at he'; subst he'; exact ⟨hk, hy⟩
          · simp [g2, entC]
      · cases hu
    · cases hu
  · cases hu

theorem del_run (hK : COK K) (h : Rel ρ μ S H w) {t t1 : TypeId} {ts : List TypeId} {x k : AVal} (hu : delB K H t x k = some H') :
    ∃ w', (Builtin.delete_ (t :: ts).toArray t1 #[conc μ ρ x, conc μ ρ k]).run K.P w = .ok (.tuple #[]) w' ∧ Step ρ μ S H w μ S H' w' := by
  unfold delB at hu
  split at hu
  · rename_i kt et hut
    split at hu
    · rename_i hf
      obtain ⟨d, hd, hik, hkd⟩ := keyFits_sound (μ := μ) (ρ := ρ) hf
      have hpd := und_sound hK hd
      split at hu
      · cases hu
        exact ⟨w, by simp [conc, Builtin.delete_, run_und hK hut, Go.MapKept.run_checkKey hpd hik, Result.andThen], Step.refl h⟩
      · rename_i r
        have hx : conc μ ρ (.map r) = .map (some (μ r).blk) := by simp [conc]
        split at hu
        · rename_i es c hm
          obtain ⟨hg, es', g1, g2, g3, hS⟩ := mapAt_at h hm
          split at hu
          · rename_i i e hfb
            cases hu
            obtain ⟨f1, f2⟩ := findB_sound (μ := μ) (ρ := ρ) hkd es 0 _ hfb
            obtain ⟨_, f3, f4⟩ := f2 i e rfl
            rw [Nat.sub_zero] at f3
            rw [← g2] at f1
            refine ⟨{ w with heap := w.heap.setIfInBounds (μ r).blk (.map (es'.eraseIdxIfInBounds i) c) }, ?_, ?_⟩
            · simp [hx, Builtin.delete_, run_und hK hut, Go.MapKept.run_getObj_map g1, Go.MapKept.run_checkKey hpd hik, Go.MapKept.run_findKey hpd f1, Go.MapKept.run_setObj_map _ g1, Result.andThen]
            · refine Step.setMap h hg g1 (fun e' he' => g3 _ ?_) ?_
              · rw [eraseNth_eq] at he'; exact List.mem_of_mem_eraseIdx he'
              · have hlt : i < es'.size := by rw [← Array.length_toList, g2, List.length_map]; exact (List.getElem?_eq_some_iff.1 f3).1
                rw [eraseNth_eq]
                unfold Array.eraseIdxIfInBounds
                rw [dif_pos hlt, Array.toList_eraseIdx, g2, map_eraseIdx]
          · rename_i hfb
            cases hu
            obtain ⟨f1, _⟩ := findB_sound (μ := μ) (ρ := ρ) hkd es 0 _ hfb
            rw [← g2] at f1
            refine ⟨{ w with heap := w.heap.setIfInBounds (μ r).blk (.map es' c) }, ?_, ?_⟩
            · simp [hx, Builtin.delete_, run_und hK hut, Go.MapKept.run_getObj_map g1, Go.MapKept.run_checkKey hpd hik, Go.MapKept.run_findKey hpd f1, Go.MapKept.run_setObj_map _ g1, Result.andThen]
            · rw [set_same g1]; exact Step.refl h
          · cases hu
        · cases hu
      · cases hu
    · cases hu
  · cases hu

theorem clear_run (hK : COK K) (h : Rel ρ μ S H w) {t t1 : TypeId} {d : TypeDesc} {x : AVal} (hd : K.und t = some d) (hu : clearB K H t x = some H') :
    ∃ w', (Builtin.clear_ #[t] t1 #[conc μ ρ x]).run K.P w = .ok (.tuple #[]) w' ∧ Step ρ μ S H w μ S H' w' := by
  unfold clearB at hu
  split at hu
  · cases hu; exact ⟨w, by simp [conc, Builtin.clear_, run_und hK hd, Result.andThen], Step.refl h⟩
  · cases hu; exact ⟨w, by simp [conc, Builtin.clear_, run_und hK hd, Result.andThen], Step.refl h⟩
  · rename_i r
    unfold clearM at hu
    split at hu
    · rename_i es c hm
      cases hu
      obtain ⟨hg, es', g1, g2, g3, hS⟩ := mapAt_at h hm
      refine ⟨_, by simp [conc, Builtin.clear_, run_und hK hd, Go.MapKept.run_getObj_map g1, Go.MapKept.run_setObj_map _ g1, Result.andThen]; rfl, Step.setMap h hg g1 (by simp) (by simp)⟩
    · cases hu
  · rename_i b o n cc
    have hcon : ∃ c', ∀ n, conc μ ρ (.slice b o n cc) = .slice (some ⟨(μ b).blk, (μ b).sh + o, none⟩) n c' := by cases cc <;> exact ⟨_, fun _ => by simp [conc]; rfl⟩
    obtain ⟨c', hcon⟩ := hcon
    cases n with
    | zero => cases hu; exact ⟨w, by simp [hcon, Builtin.clear_, run_und hK hd, Result.andThen], Step.refl h⟩
    | succ n =>
      simp only at hu
      unfold clearS at hu
      split at hu
      · rename_i l hz
        unfold zerosB at hz
        split at hz
        · rename_i e hue
          cases hzz : zeroB K e with
          | none => simp [hzz] at hz
          | some z =>
            simp only [hzz, Option.some.injEq] at hz
            subst hz
            obtain ⟨w', h1, h2⟩ := storeB_run K.P h (zrep_VR (zeroB_VR hzz).cells _) hu
            refine ⟨w', ?_, h2⟩
            have h3 : (Builtin.zeroCells (conc μ ρ z).cells (n + 1)).toList = concs μ ρ (zrep z.cells (n + 1)) := by rw [conc_cells, zeroCells_eq _ _ _ rfl]
            simp [hcon, Builtin.clear_, run_und hK hue, run_zeroB (μ := μ) (ρ := ρ) hK hzz, h3, h1, Result.andThen]
        · cases hz
      · cases hu
  · cases hu
end
end Go.Eng
