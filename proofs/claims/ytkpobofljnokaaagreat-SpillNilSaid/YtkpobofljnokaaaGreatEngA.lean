/- The engine: slices that are known by their data: an element's place, what it holds, a part of one. -/
import Derived.Test.YtkpobofljnokaaaGreatEng10
namespace Go.Eng
section
variable {K : Cfg} {ρ : Rho} {μ : Mu} {S : Ids} {H G : AH} {w : World} {P : Program} {r : Operand → Option AVal} {a : Act} {v : AVal}

theorem idxT_sound {g : List Fact} (hS : AllHold ρ g) {i t : Tm} (h : idxT g i t = true) : 0 ≤ i.int ρ ∧ i.int ρ < ((t.ev ρ).rows.length : Int) := by
  unfold idxT at h
  split at h
  · rename_i h1
    have h2 := AllHold.of hS h
    simp only [Fact.holds, int_len] at h2
    exact ⟨nonnT_sound hS h1, h2⟩
  · cases h

/-- A place among a slice's elements: where it lies, its row. -/
theorem CompR.row {ri j : Nat} {c : PComp} {own : Bool} (R : CompR ρ μ S H w ri j c own) {i : Int} (h0 : 0 ≤ i) (h1 : i < ((c.t.ev ρ).rows.length : Int)) :
    ∃ b o cap cs E fz row, (μ ri).val j = (some ⟨b, o, none⟩, (c.t.ev ρ).rows.length, cap) ∧ w.heap[b]? = some (.cells cs E fz) ∧ (c.t.ev ρ).rows[i.toNat]? = some row ∧
      RRel w (μ ri).foot c.sh row (fun x => cs[o + i.toNat * c.sh.length + x]?) ∧ (own = true → (μ ri).own b ∧ Thawed cs.size fz ∧ cs.size = o + cap * c.sh.length) ∧ (own = false → (μ ri).foot b) ∧ (c.t.ev ρ).rows.length ≤ cap := by
  have hl : i.toNat < (c.t.ev ρ).rows.length := by omega
  rcases R.rel with ⟨_, h⟩ | ⟨b, o, cap, h2, h3, h4, h5⟩
  · rw [h] at hl; simp at hl
  · obtain ⟨g1, g2, cs, E, fz, g3, g4, g5⟩ := h5 (by omega)
    exact ⟨b, o, cap, cs, E, fz, _, h2, g3, List.getElem?_eq_getElem hl, g5 _ _ (List.getElem?_eq_getElem hl), fun ho => ⟨g1 ho, g4 ho⟩, g2, h3⟩

theorem Dat.at_row {d : Dat} {i : Int} {row : List Dat} (h : d.rows[i.toNat]? = some row) (c : Nat) : d.at i c = row.getD c (.n 0) := by
  simp [Dat.at, List.getD_eq_getElem?_getD, h]

theorem ev_at (t i : Tm) (c : Nat) : (atT t i c).ev ρ = (t.ev ρ).at (i.int ρ) c := by simp [atT, Tm.ev, Tm.evs, BOp.ev, Tm.int]

theorem RRel.length {F : Nat → Prop} : ∀ {l : List Shp} {xs : List Dat} {g : Nat → Option Value}, RRel w F l xs g → xs.length = l.length
  | [], xs, g, h => by simp only [RRel] at h; subst h; rfl
  | s :: l, xs, g, h => by
    simp only [RRel] at h
    obtain ⟨x, ys, u, rfl, _, _, h⟩ := h
    simp [RRel.length h]

/-- Some of a row's cells. -/
theorem RRel.drop {F : Nat → Prop} : ∀ (o : Nat) {l : List Shp} {xs : List Dat} {g : Nat → Option Value}, RRel w F l xs g → RRel w F (l.drop o) (xs.drop o) (fun x => g (o + x))
  | 0, l, xs, g, h => by simpa using h
  | o + 1, [], xs, g, h => by simp only [RRel] at h; subst h; simp [RRel]
  | o + 1, s :: l, xs, g, h => by
    simp only [RRel] at h
    obtain ⟨x, ys, u, rfl, _, _, h⟩ := h
    have := RRel.drop o h
    simp only [List.drop_succ_cons]
    have e : (fun x => g (o + 1 + x)) = fun x => g (o + x + 1) := by funext x; congr 1; omega
    rw [e]; exact this
theorem RRel.take {F : Nat → Prop} : ∀ (n : Nat) {l : List Shp} {xs : List Dat} {g : Nat → Option Value}, RRel w F l xs g → RRel w F (l.take n) (xs.take n) g
  | 0, l, xs, g, h => by simp [RRel]
  | n + 1, [], xs, g, h => by simp only [RRel] at h; subst h; simp [RRel]
  | n + 1, s :: l, xs, g, h => by
    simp only [RRel] at h
    obtain ⟨x, ys, u, rfl, h1, h2, h⟩ := h
    simp only [List.take_succ_cons, RRel]
    exact ⟨x, ys.take n, u, rfl, h1, h2, RRel.take n h⟩

def subPlace (F : Nat → Prop) (qs : List (Option Addr × Nat × Nat)) : Place := ⟨0, 0, 0, qs, fun _ => False, F⟩

theorem CRel.sub {F : Nat → Prop} {row : List Shp} {t : Tm} {u : Value} (qs : List (Option Addr × Nat × Nat)) (h : CRel w F (.sl row) (t.ev ρ) u) :
    ∃ q, u = hdr q ∧ TRel ρ w (subPlace F qs) false ⟨row, t, false⟩ q := by
  simp only [CRel] at h
  rcases h with ⟨rfl, h⟩ | ⟨b, o, cap, rfl, h2, h3⟩
  · exact ⟨_, rfl, .inl ⟨rfl, h⟩⟩
  · refine ⟨(some ⟨b, o, none⟩, _, cap), rfl, .inr ⟨b, o, cap, rfl, h2, (fun h => by cases h), fun hc => ?_⟩⟩
    obtain ⟨g1, cs, E, fz, g2, g3⟩ := h3 hc
    exact ⟨(fun h => by cases h), fun _ => g1, cs, E, fz, g2, (fun h => by cases h), g3⟩

theorem boolT_sound {g : List Fact} (hS : AllHold ρ g) {t : Tm} {b : Bool} (h : boolT g t = some b) : decide (t.int ρ = 1) = b := by
  unfold boolT at h
  split at h
  · rename_i h1
    cases h
    have := hS.of h1
    simp only [Fact.holds, int_lit] at this
    simp [this]
  · split at h
    · rename_i h1
      cases h
      have := hS.of h1
      simp only [Fact.holds, int_lit] at this
      simp [this]
    · cases h

/-- The cells of a row: what they are. -/
theorem cellsT_sound {g : List Fact} (hS : AllHold ρ g) {F : Nat → Prop} {id : Nat} {t i : Tm} {row : List Dat} (hrow : (t.ev ρ).rows[(i.int ρ).toNat]? = some row) :
    ∀ (l : List Shp) (c m : Nat) (gv : Nat → Option Value) (vs : List AVal) (ps : List PComp), cellsT g id t i l c m = some (vs, ps) → RRel w F l ((row.drop c).take l.length) gv →
    ∃ (U : List Value) (qs : List (Option Addr × Nat × Nat)), U.length = l.length ∧ vs.length = l.length ∧ (∀ (x : Nat) u, U[x]? = some u → gv x = some u) ∧ qs.length = ps.length ∧
      (∀ (x : Nat) cp q all, ps[x]? = some cp → qs[x]? = some q → TRel ρ w (subPlace F all) false cp q) ∧
      (∀ μ' : Mu, (∀ (x : Nat) q, qs[x]? = some q → (μ' id).val (m + x) = q) → concs μ' ρ vs = U) ∧ (ps = [] → VRs ρ μ S vs) ∧ (∀ μ' S', S' id → VRs ρ μ' S' vs)
  | [], c, m, gv, vs, ps, h, hr => by
    simp only [cellsT, Option.some.injEq, Prod.mk.injEq] at h
    obtain ⟨rfl, rfl⟩ := h
    exact ⟨[], [], rfl, rfl, by simp, rfl, by simp, fun _ _ => rfl, fun _ => VRs.nil, fun _ _ _ => VRs.nil⟩
  | s :: l, c, m, gv, vs, ps, h, hr => by
    simp only [List.length_cons] at hr
    simp only [RRel] at hr
    obtain ⟨x, xs, u, hx, h1, h2, h3⟩ := hr
    have hc : row[c]? = some x := by
      have := congrArg (fun l => l[0]?) hx
      simpa [List.getElem?_take, List.getElem?_drop] using this
    have hxs : xs = (row.drop (c + 1)).take l.length := by
      have := congrArg (fun l => l.drop 1) hx
      simp only [List.drop_succ_cons, List.drop_zero] at this
      rw [← this, List.drop_take]; simp [List.drop_drop]
    subst hxs
    have hat : (atT t i c).ev ρ = x := by rw [ev_at, Dat.at_row hrow, List.getD_eq_getElem?_getD, hc]; rfl
    have cons : ∀ (a : AVal) (vs' : List AVal) (ps' : List PComp), (∀ μ' : Mu, conc μ' ρ a = u) → (∀ μ' S', VR ρ μ' S' a) → cellsT g id t i l (c + 1) m = some (vs', ps') →
        ∃ (U : List Value) (qs : List (Option Addr × Nat × Nat)), U.length = (s :: l).length ∧ (a :: vs').length = (s :: l).length ∧ (∀ (x : Nat) u, U[x]? = some u → gv x = some u) ∧ qs.length = ps'.length ∧
          (∀ (x : Nat) cp q all, ps'[x]? = some cp → qs[x]? = some q → TRel ρ w (subPlace F all) false cp q) ∧
          (∀ μ' : Mu, (∀ (x : Nat) q, qs[x]? = some q → (μ' id).val (m + x) = q) → concs μ' ρ (a :: vs') = U) ∧ (ps' = [] → VRs ρ μ S (a :: vs')) ∧ (∀ μ' S', S' id → VRs ρ μ' S' (a :: vs')) := by
      intro a vs' ps' ha hva hrec
      obtain ⟨U, qs, g1, g2, g3, g4, g5, g6, g7, g8⟩ := cellsT_sound hS hrow l (c + 1) m _ vs' ps' hrec h3
      refine ⟨u :: U, qs, by simp [g1], by simp [g2], fun x u' hu => ?_, g4, g5, fun μ' hμ => by simp [concs, ha, g6 μ' hμ], fun hp => VRs.cons (hva _ _) (g7 hp), fun μ' S' hs => VRs.cons (hva _ _) (g8 μ' S' hs)⟩
      cases x with
      | zero => simp at hu; subst hu; exact h1
      | succ x => exact g3 x u' (by simpa using hu)
    unfold cellsT at h
    cases s with
    | num k =>
      simp only at h
      split at h
      · rename_i vs' ps' hrec
        cases h
        simp only [CRel] at h2
        exact cons _ _ _ (fun μ' => by rw [conc, h2, Tm.int, hat]) (fun _ _ => VR.sint) hrec
      · cases h
    | bool =>
      simp only at h
      split at h
      · rename_i bb vs' ps' hb hrec
        cases h
        simp only [CRel] at h2
        have := boolT_sound hS hb
        rw [Tm.int, hat] at this
        exact cons _ _ _ (fun μ' => by rw [conc, h2, this]) (fun _ _ => VR.bool) hrec
      · cases h
    | sl rw' =>
      simp only at h
      split at h
      · rename_i vs' ps' hrec
        cases h
        obtain ⟨U, qs, g1, g2, g3, g4, g5, g6, g7, g8⟩ := cellsT_sound hS hrow l (c + 1) (m + 1) _ vs' ps' hrec h3
        rw [← hat] at h2
        obtain ⟨q, hq, _⟩ := CRel.sub (ρ := ρ) [] h2
        refine ⟨u :: U, q :: qs, by simp [g1], by simp [g2], fun x u' hu => ?_, by simp [g4], fun x cp q' all hp hq' => ?_, fun μ' hμ => ?_, fun hp => (by cases hp), fun μ' S' hs => VRs.cons (VR.ref hs) (g8 μ' S' hs)⟩
        · cases x with
          | zero => simp at hu; subst hu; exact h1
          | succ x => exact g3 x u' (by simpa using hu)
        · cases x with
          | zero =>
            simp at hp hq'
            subst hp; subst hq'
            obtain ⟨q2, hq2, ht⟩ := CRel.sub (ρ := ρ) all h2
            rw [hq] at hq2
            have : q = q2 := by
              obtain ⟨x1, x2, x3⟩ := q
              obtain ⟨y1, y2, y3⟩ := q2
              simp only [hdr, Value.slice.injEq] at hq2
              obtain ⟨rfl, rfl, rfl⟩ := hq2
              rfl
            rw [this]; exact ht
          | succ x => exact g5 x cp q' all (by simpa using hp) (by simpa using hq')
        · simp only [concs, conc]
          rw [show (μ' id).val m = q from hμ 0 q (by simp), ← hq, g6 μ' fun x q' hx => by
            have := hμ (x + 1) q' (by simpa using hx)
            rwa [show m + 1 + x = m + (x + 1) by omega]]
      · cases h

theorem cell_at {b o : Nat} {cs : Array Value} {E : TypeId} {fz : Nat × Nat} (h : w.heap[b]? = some (.cells cs E fz)) {u : Value} (hu : cs[o]? = some u) : w.cell? ⟨b, o, none⟩ = some u := by
  simp [World.cell?, h, hu]

theorem elemPtr_eq {q : Option Addr × Nat × Nat} {b o : Nat} {x : Nat × Nat} (h : q = (some ⟨b, o, none⟩, x)) (n : Nat) : elemPtr n q = .pointer (some ⟨b, o + n, none⟩) := by
  subst h; simp [elemPtr]

/-- The load of an element, or of a part of one. -/
theorem load_elem (hK : COK K) (hS : SOK K ρ) (h : Rel ρ μ S H w) (hG : Sub G H) {id : Nat} (_ : ¬ S id) {t : TypeId} {ri j z o : Nat} {i : Tm} {ob : Option ABlk}
    (hv : vElem (loadE K G id t ri j z i o) = some v) (hb : bElem (loadE K G id t ri j z i o) = some ob) :
    NOut ρ μ S H w id v ((Instr.loadAt t (conc μ ρ (.eptr ri j z i o))).run K.P w) ob := by
  have main : ∀ (n : Nat) (l : List AVal) (ps : List PComp), elemAt K G id ri j z i o n = some (l, ps) → ob = packB false ps → ∃ (b off : Nat) (U : List Value), conc μ ρ (.eptr ri j z i o) = .pointer (some ⟨b, off, none⟩) ∧
      U.length = n ∧ (∀ (x : Nat) u, U[x]? = some u → w.cell? ⟨b, off + x, none⟩ = some u) ∧ ∀ (val : List AVal → AVal) (cv : List Value → Value), (∀ (μ' : Mu), conc μ' ρ (val l) = cv (concs μ' ρ l)) → (∀ μ' S', VRs ρ μ' S' l → VR ρ μ' S' (val l)) →
        ∀ rr : Result Value, rr = .ok (cv U) w → NOut ρ μ S H w id (val l) rr ob := by
    intro n l ps he hob
    unfold elemAt at he
    split at he
    · rename_i c own hc
      have R := compAt_rel h hG hc
      unfold elemT at he
      split at he
      · rename_i hz hi hle
        have hz := Nat.eq_of_beq_eq_true hz
        have hle := Nat.le_of_ble_eq_true hle
        subst hz
        obtain ⟨i0, i1⟩ := idxT_sound hS hi
        obtain ⟨b, o', cap, cs, E, fz, row, q1, q2, q3, q4, q5, q6, q7⟩ := R.row i0 i1
        have hrl := q4.length
        have hlen : ((c.sh.drop o).take n).length = n := by simp; omega
        have hr := (q4.drop o).take n
        have hr2 : RRel w (μ ri).foot ((c.sh.drop o).take n) ((row.drop o).take ((c.sh.drop o).take n).length) (fun x => cs[o' + (i.int ρ).toNat * c.sh.length + (o + x)]?) := by rw [hlen]; exact hr
        obtain ⟨U, qs, g1, g2, g3, g4, g5, g6, g7, g8⟩ := cellsT_sound (w := w) (μ := μ) (S := S) hS q3 _ o 0 _ l ps he hr2
        refine ⟨b, o' + ((i.int ρ).toNat * c.sh.length + o), U, by rw [conc]; exact elemPtr_eq q1 _, by rw [g1, hlen], fun x u hu => ?_, fun val cv hcv hva rr hrr => ?_⟩
        · have := g3 x u hu
          exact cell_at q2 (by rw [← this]; congr 1; omega)
        · subst hob
          cases ps with
          | nil =>
            have hq : qs = [] := List.length_eq_zero_iff.1 g4
            subst hq
            exact ⟨w, by rw [hrr, hcv, g6 μ (by simp)], hva _ _ (g7 rfl), Step.refl h⟩
          | cons p0 ps =>
            have hq6 : concs (μ.at id (subPlace (μ ri).foot qs)) ρ l = U := g6 _ fun x q hx => by
              rw [Mu.at_self, Nat.zero_add]; simp [Place.val, subPlace, List.getD_eq_getElem?_getD, hx]
            refine ⟨w, subPlace (μ ri).foot qs, by rw [hrr, hcv, hq6], hva _ _ (g8 _ _ (Ids.and_self _ _)), fun _ _ => rfl, Nat.le_refl _, rfl, rfl, rfl,
              ⟨fun k hk => hk.elim, R.foot, fun jj cp hjj => ?_⟩, ⟨fun k hk => hk.2.elim, fun k hk => .inr ⟨?_, ?_⟩⟩⟩
            · have hlt : jj < qs.length := by rw [g4]; exact (List.getElem?_eq_some_iff.1 hjj).1
              have hq : qs[jj]? = some qs[jj] := List.getElem?_eq_getElem hlt
              have := g5 jj cp _ qs hjj hq
              rwa [show (subPlace (μ ri).foot qs).val jj = qs[jj] by simp [Place.val, subPlace, List.getD_eq_getElem?_getD, hq]]
            · obtain ⟨ll, hg, _⟩ := R.get
              exact ⟨ri, _, hg, .inr hk⟩
            · rintro ⟨x, bx, hx, hwx⟩
              obtain ⟨ll, hg, _⟩ := R.get
              by_cases hxr : x = ri
              · subst hxr
                rw [hg] at hx
                cases hx
                exact (R.ownd k hwx.2).2.2 hk
              · exact h.inj x ri bx _ hx hg hxr k hwx (.inr hk)
      · cases he
    · cases he
  unfold loadE at hv hb
  cases ha : aggB K t with
  | none => simp [ha, vElem] at hv
  | some ag =>
    cases hs : szB K t with
    | none => cases ag <;> simp [ha, hs, vElem] at hv
    | some n =>
      cases ag with
      | true =>
        simp only [ha, hs] at hv hb
        cases he : elemAt K G id ri j z i o n with
        | none => simp [he, vElem] at hv
        | some q =>
          obtain ⟨l, ps⟩ := q
          simp only [he, vElem, Option.some.injEq] at hv
          simp only [he, bElem, Option.some.injEq] at hb
          subst hv
          obtain ⟨b, off, U, e1, e2, e3, e4⟩ := main n l ps he hb.symm
          refine e4 AVal.agg (fun U => .agg U.toArray) (fun μ' => by simp [conc]) (fun _ _ hh => VR.agg hh) _ ?_
          rw [e1]
          have := run_loadCells K.P (b := b) (o := off) (w := w) U 0 #[] fun x hx => by rw [Nat.zero_add]; exact e3 x _ (List.getElem?_eq_getElem hx)
          rw [e2] at this
          simp [Instr.loadAt, Instr.sureAddr, loadVar, run_aggB hK ha, run_szB hK hs, loadCells, this]
      | false =>
        simp only [ha, hs] at hv hb
        match n with
        | 1 =>
          simp only at hv hb
          cases he : elemAt K G id ri j z i o 1 with
          | none => simp [he, vElem] at hv
          | some q =>
            obtain ⟨l, ps⟩ := q
            simp only [he] at hv hb
            obtain ⟨b, off, U, e1, e2, e3, e4⟩ := main 1 l ps he (by simpa [bElem] using hb.symm)
            unfold vElem at hv
            split at hv
            · rename_i e; cases e
            · rename_i x q2 e
              cases e
              cases hv
              obtain ⟨u, rfl⟩ : ∃ u, U = [u] := by
                match U, e2 with
                | [u], _ => exact ⟨u, rfl⟩
              refine e4 (fun l => l.headD .undef) (fun U => U.headD Go.undef) (fun μ' => by simp [concs]) (fun _ _ hh => hh _ (.head _)) _ ?_
              rw [e1]
              have := e3 0 u (by simp)
              simp only [Nat.add_zero] at this
              simp [Instr.loadAt, Instr.sureAddr, loadVar, run_aggB hK ha, this]
            · cases hv
        | 0 => simp [vElem] at hv
        | n + 2 => simp [vElem] at hv

theorem tmOf_conc {y : AVal} {k : IntKind} {i : Tm} (h : tmOf y = some (k, i)) : conc μ ρ y = .int k (i.int ρ) := by
  unfold tmOf at h
  split at h
  · cases h; simp [conc, int_lit]
  · cases h; simp [conc]
  · cases h

theorem CompR.hdr_some {ri j : Nat} {c : PComp} {own : Bool} (R : CompR ρ μ S H w ri j c own) (h : 0 < (c.t.ev ρ).rows.length) :
    ∃ b o cap, (μ ri).val j = (some ⟨b, o, none⟩, (c.t.ev ρ).rows.length, cap) ∧ (c.t.ev ρ).rows.length ≤ cap := by
  rcases R.rel with ⟨_, h2⟩ | ⟨b, o, cap, h2, h3, _⟩
  · rw [h2] at h; simp at h
  · exact ⟨b, o, cap, h2, h3⟩

theorem idx_elem (hK : COK K) (hS : SOK K ρ) (h : Rel ρ μ S H w) (hG : Sub G H) {t : TypeId} {ri j : Nat} {y : AVal} (hv : idxE K t ri j (tmOf y) (compAt G ri j) = some v) :
    Pure1 ρ μ S K.P w v (Instr.indexAt t (conc μ ρ (.ref ri j)) (conc μ ρ y)) := by
  unfold idxE at hv
  split at hv
  · rename_i k i c own hy hc
    have R := compAt_rel h hG hc
    split at hv
    · rename_i e hu
      split at hv
      · rename_i z hz hi
        split at hv
        · rename_i hzl
          cases hv
          obtain ⟨i0, i1⟩ := idxT_sound hS hi
          obtain ⟨b, o, cap, q1, _⟩ := R.hdr_some (by omega)
          refine ⟨?_, VR.eptr R.mem⟩
          have h1 : (0 : Int) ≤ i.int ρ ∧ i.int ρ < (((c.t.ev ρ).rows.length : Nat) : Int) := ⟨i0, i1⟩
          have h2 : conc μ ρ (.ref ri j) = .slice (some ⟨b, o, none⟩) (c.t.ev ρ).rows.length cap := by rw [conc, q1]; rfl
          have h3 : conc μ ρ (.eptr ri j (z + 1) i 0) = .pointer (some ⟨b, o + (i.int ρ).toNat * (z + 1), none⟩) := by rw [conc, elemPtr_eq q1]; rfl
          rw [h2, h3, tmOf_conc hy]
          simp only [Instr.indexAt, Sem.run_bind, run_asIntOf, Result.andThen_ok, run_und hK hu, Sem.run_pure, Sem.run_ite, if_pos h1, run_szB hK hz, add_none]
        · cases hv
      · cases hv
    · cases hv
  · cases hv

theorem bndT_sound {d t : Tm} {x : Option AVal} (h : bndT d x = some t) : (x = none ∧ t = d) ∨ ∃ v k, x = some v ∧ conc μ ρ v = .int k (t.int ρ) := by
  cases x with
  | none => simp only [bndT, Option.some.injEq] at h; exact .inl ⟨rfl, h.symm⟩
  | some v =>
    simp only [bndT] at h
    cases hv : tmOf v with
    | none => simp [hv] at h
    | some q =>
      obtain ⟨k, t'⟩ := q
      simp only [hv, Option.some.injEq] at h
      subst h
      exact .inr ⟨v, k, rfl, tmOf_conc hv⟩

theorem leT_sound {g : List Fact} (hS : AllHold ρ g) {a b : Tm} (h : leT g a b = true) : a.int ρ ≤ b.int ρ := by
  unfold leT at h
  split at h
  · rename_i h1; rw [teq_eq _ _ h1]; exact Int.le_refl _
  · exact hS.of h

theorem run_bound {k : IntKind} {n : Int} {y : Nat} {code : BoundsCode} (h0 : 0 ≤ n) (h1 : n ≤ y) : (Instr.sliceBound (.int k n) y code).run P w = .ok n.toNat w := by
  simp only [Instr.sliceBound, Sem.run_bind, run_asIntOf, Result.andThen_ok, Sem.run_ite, if_pos (show (0 : Int) ≤ n ∧ n ≤ (y : Int) from ⟨h0, h1⟩), Sem.run_pure]

theorem ev_sl (t lo hi : Tm) : (Tm.op .sl [t, lo, hi]).ev ρ = (t.ev ρ).sub (lo.int ρ) (hi.int ρ) := by simp [Tm.ev, Tm.evs, BOp.ev, Tm.int]

/-- A part's rows. -/
theorem partT_rows {t lo hi : Tm} : ((partT t lo hi (match isL0 lo with | true => teq hi (lenT t) | false => false)).ev ρ).rows = ((t.ev ρ).rows.take (hi.int ρ).toNat).drop (lo.int ρ).toNat := by
  unfold partT
  split
  · rename_i h
    split at h
    · rename_i h0
      have h1 := teq_eq _ _ h
      have h2 : lo.int ρ = 0 := by
        unfold isL0 at h0
        split at h0
        · rw [int_lit]; rfl
        · cases h0
      rw [h2, h1, int_len]
      simp
    · cases h
  · rw [ev_sl]; rfl

/-- A part of a slice, in the same blocks. -/
theorem TRel.part {p : Place} {c : PComp} {b o cap m l hh : Nat} {F : Bool} {t' : Tm} (h : TRel ρ w p false c (some ⟨b, o, none⟩, (c.t.ev ρ).rows.length, cap))
    (hl : l ≤ hh) (hhl : hh ≤ (c.t.ev ρ).rows.length) (hm : hh ≤ m) (hmc : m ≤ cap) (hF : F = true → m = hh) (ht : (t'.ev ρ).rows = ((c.t.ev ρ).rows.take hh).drop l) (all : List (Option Addr × Nat × Nat)) :
    TRel ρ w (subPlace p.foot all) false ⟨c.sh, t', F⟩ (some (if m = l then ⟨b, o, none⟩ else ⟨b, o + l * c.sh.length, none⟩), hh - l, m - l) := by
  have hlen : (t'.ev ρ).rows.length = hh - l := by rw [ht]; simp; omega
  have hsplit : (if m = l then (⟨b, o, none⟩ : Addr) else ⟨b, o + l * c.sh.length, none⟩) = ⟨b, if m = l then o else o + l * c.sh.length, none⟩ := by split <;> rfl
  rw [hsplit]
  refine .inr ⟨b, _, m - l, by rw [hlen], by rw [hlen]; omega, fun hf => by rw [hlen]; have := hF hf; omega, fun hc => ?_⟩
  rw [if_neg (by omega)]
  rcases h with ⟨h1, _⟩ | ⟨b', o', cap', h1, h2, h3, h4⟩
  · cases h1
  · simp only [Prod.mk.injEq, Option.some.injEq, Addr.mk.injEq, true_and, and_true] at h1
    obtain ⟨⟨rfl, rfl⟩, rfl⟩ := h1
    obtain ⟨_, g2, cs, E, fz, g3, _, g5⟩ := h4 (by omega)
    refine ⟨(fun h => by cases h), fun _ => g2 rfl, cs, E, fz, g3, (fun h => by cases h), fun i r hr => ?_⟩
    rw [ht] at hr
    rw [List.getElem?_drop, List.getElem?_take] at hr
    split at hr
    · have := g5 (l + i) r hr
      have e : (fun x => cs[o + l * c.sh.length + i * c.sh.length + x]?) = fun x => cs[o + (l + i) * c.sh.length + x]? := by
        funext x; congr 1; rw [Nat.add_mul]; omega
      show RRel w p.foot c.sh r _
      simp only
      rw [e]; exact this
    · cases hr

theorem cut_run (hK : COK K) (hS : SOK K ρ) (h : Rel ρ μ S H w) (hG : Sub G H) {id : Nat} {t : TypeId} {ri j : Nat} {lo hi mx : Option AVal} {c' : PComp} (hc : cutB K t lo hi mx (compAt G ri j) = some c') :
    NOut ρ μ S H w id (.ref id 0) ((Instr.sliceAt t (conc μ ρ (.ref ri j)) (lo.map (conc μ ρ)) (hi.map (conc μ ρ)) (mx.map (conc μ ρ))).run K.P w) (some (.pack [c'] false)) := by
  unfold cutB at hc
  split at hc
  · rename_i c hcomp
    have R := compAt_rel h hG hcomp
    split at hc
    · rename_i e hu
      split at hc
      · rename_i z hz
        split at hc
        · rename_i hzl hmo
          have hzl := Nat.eq_of_beq_eq_true hzl
          unfold cut1 at hc
          split at hc
          · rename_i lo' hi' hlo hhi
            -- the bounds
            obtain ⟨cap, hval, hrc⟩ : ∃ cap, ((μ ri).val j).2 = ((c.t.ev ρ).rows.length, cap) ∧ (c.t.ev ρ).rows.length ≤ cap := by
              rcases R.rel with ⟨h1, h2⟩ | ⟨b, o, cap, h1, h2, _⟩
              · exact ⟨0, by rw [h1, h2]; rfl, by rw [h2]; simp⟩
              · exact ⟨cap, by rw [h1], h2⟩
            have hcon : conc μ ρ (.ref ri j) = .slice ((μ ri).val j).1 (c.t.ev ρ).rows.length cap := by rw [conc, hdr, hval]
            have hd : ∀ (m : Nat) (F : Bool) (t' : Tm), lo'.int ρ ≤ hi'.int ρ → 0 ≤ lo'.int ρ → hi'.int ρ ≤ ((c.t.ev ρ).rows.length : Int) → (hi'.int ρ).toNat ≤ m → m ≤ cap → (F = true → m = (hi'.int ρ).toNat) →
                (t'.ev ρ).rows = ((c.t.ev ρ).rows.take (hi'.int ρ).toNat).drop (lo'.int ρ).toNat →
                (Instr.sliceBounds true (c.t.ev ρ).rows.length cap (lo.map (conc μ ρ)) (hi.map (conc μ ρ)) (mx.map (conc μ ρ))).run K.P w = .ok ((lo'.int ρ).toNat, (hi'.int ρ).toNat, m) w →
                NOut ρ μ S H w id (.ref id 0) ((Instr.sliceAt t (conc μ ρ (.ref ri j)) (lo.map (conc μ ρ)) (hi.map (conc μ ρ)) (mx.map (conc μ ρ))).run K.P w) (some (.pack [⟨c.sh, t', F⟩] false)) := by
              intro m F t' h1 h0 h2 h3 h4 h5 h6 hb
              have hrun : (Instr.sliceAt t (conc μ ρ (.ref ri j)) (lo.map (conc μ ρ)) (hi.map (conc μ ρ)) (mx.map (conc μ ρ))).run K.P w =
                  .ok (.slice (if m = (lo'.int ρ).toNat then ((μ ri).val j).1 else ((μ ri).val j).1.map (·.add ((lo'.int ρ).toNat * (z + 1)))) ((hi'.int ρ).toNat - (lo'.int ρ).toNat) (m - (lo'.int ρ).toNat)) w := by
                rw [hcon]
                simp only [Instr.sliceAt, Instr.slice, Sem.run_bind, run_und hK hu, Result.andThen_ok, hb, run_szB hK hz, Sem.run_pure]
              obtain ⟨q, hq, ht⟩ : ∃ q, hdr q = .slice (if m = (lo'.int ρ).toNat then ((μ ri).val j).1 else ((μ ri).val j).1.map (·.add ((lo'.int ρ).toNat * (z + 1)))) ((hi'.int ρ).toNat - (lo'.int ρ).toNat) (m - (lo'.int ρ).toNat) ∧
                  TRel ρ w (subPlace (μ ri).foot [q]) false ⟨c.sh, t', F⟩ q := by
                have hlo : (lo'.int ρ).toNat ≤ (hi'.int ρ).toNat := by omega
                have hhi : (hi'.int ρ).toNat ≤ (c.t.ev ρ).rows.length := by omega
                rcases R.rel with ⟨h7, h8⟩ | ⟨b, o, cap', h7, h8, h9, h10⟩
                · have hl0 : (c.t.ev ρ).rows.length = 0 := by rw [h8]; rfl
                  have hc0 : cap = 0 := by rw [h7] at hval; simpa [hl0] using hval.symm
                  refine ⟨(none, 0, 0), ?_, .inl ⟨rfl, by rw [h6, h8]; simp⟩⟩
                  have e1 : (hi'.int ρ).toNat = 0 := by omega
                  have e2 : (lo'.int ρ).toNat = 0 := by omega
                  have e3 : m = 0 := by omega
                  simp [hdr, h7, e1, e2, e3]
                · have hcc : cap' = cap := by rw [h7] at hval; simpa using hval
                  subst hcc
                  refine ⟨(some (if m = (lo'.int ρ).toNat then ⟨b, o, none⟩ else ⟨b, o + (lo'.int ρ).toNat * c.sh.length, none⟩), (hi'.int ρ).toNat - (lo'.int ρ).toNat, m - (lo'.int ρ).toNat), ?_, ?_⟩
                  · rw [h7]
                    simp only [hdr, Option.map_some, add_none, hzl]
                    split <;> rfl
                  · exact TRel.part (by rw [← h7]; exact R.rel) hlo hhi h3 h4 h5 h6 _
              refine ⟨w, subPlace (μ ri).foot [q], ?_, VR.ref (Ids.and_self _ _), fun _ _ => rfl, Nat.le_refl _, rfl, rfl, rfl, ⟨fun k hk => hk.elim, R.foot, fun jj cp hjj => ?_⟩, ⟨fun k hk => hk.2.elim, fun k hk => .inr ⟨?_, ?_⟩⟩⟩
              · rw [hrun, conc, Mu.at_self]
                show _ = Result.ok (hdr q) w
                rw [hq]
              · cases jj with
                | zero => simp at hjj; subst hjj; exact ht
                | succ jj => simp at hjj
              · obtain ⟨ll, hg, _⟩ := R.get
                exact ⟨ri, _, hg, .inr hk⟩
              · rintro ⟨x, bx, hx, hwx⟩
                obtain ⟨ll, hg, _⟩ := R.get
                by_cases hxr : x = ri
                · subst hxr
                  rw [hg] at hx
                  cases hx
                  exact (R.ownd k hwx.2).2.2 hk
                · exact h.inj x ri bx _ hx hg hxr k hwx (.inr hk)
            -- how the bounds come out
            have hlo2 := bndT_sound (μ := μ) (ρ := ρ) hlo
            have hhi2 := bndT_sound (μ := μ) (ρ := ρ) hhi
            unfold cutT at hc
            split at hc
            · split at hc
              · rename_i n1 n2 n3
                cases hc
                have a1 := nonnT_sound hS n1
                have a2 := leT_sound hS n2
                have a3 := leT_sound hS n3
                rw [int_len] at a3
                refine hd cap false _ a2 a1 a3 (by omega) (Nat.le_refl _) (fun h => by cases h) partT_rows ?_
                rcases hlo2 with ⟨rfl, rfl⟩ | ⟨vl, kl, rfl, hl2⟩ <;> rcases hhi2 with ⟨rfl, rfl⟩ | ⟨vv, k, rfl, h2⟩ <;> simp only [Option.map_none, Option.map_some, Instr.sliceBounds, Sem.run_bind, Sem.run_pure, Result.andThen_ok, *]
                · simp [int_lit, int_len]
                · rw [run_bound (by omega) (by omega)]; simp [int_lit]
                · rw [run_bound a1 (by rw [int_len] at a2; exact a2)]; simp [int_len]
                · rw [run_bound (by omega) (by omega)]
                  simp only [Result.andThen_ok]
                  rw [run_bound (by omega) (by omega)]
                  simp only [Result.andThen_ok]
              · cases hc
            · rename_i mv
              split at hc
              · rename_i mk m' n0 n1 n2 n3
                split at hc
                · rename_i n4
                  cases hc
                  have a1 := nonnT_sound hS n1
                  have a2 := leT_sound hS n2
                  have a3 := leT_sound hS n3
                  rw [int_len] at a3
                  have n4 := teq_eq _ _ n4
                  subst n4
                  have hm2 : conc μ ρ mv = .int _ (m'.int ρ) := tmOf_conc n0
                  refine hd (m'.int ρ).toNat true _ a2 a1 a3 (Nat.le_refl _) (by omega) (fun _ => rfl) partT_rows ?_
                  rcases hhi2 with ⟨rfl, rfl⟩ | ⟨vv, k, rfl, h2⟩
                  · cases hmo
                  · rcases hlo2 with ⟨rfl, rfl⟩ | ⟨vl, kl, rfl, hl2⟩ <;> simp only [Option.map_none, Option.map_some, Instr.sliceBounds, Sem.run_bind, Sem.run_pure, Result.andThen_ok, *]
                    · rw [run_bound (by omega) (by omega)]
                      simp only [Result.andThen_ok]
                      rw [run_bound (by omega) (by omega)]
                      simp [int_lit]
                    · rw [run_bound (by omega) (by omega)]
                      simp only [Result.andThen_ok]
                      rw [run_bound (by omega) (by omega)]
                      simp only [Result.andThen_ok]
                      rw [run_bound (by omega) (by omega)]
                      simp only [Result.andThen_ok]
                · cases hc
              · cases hc
          · cases hc
        · cases hc
      · cases hc
    · cases hc
  · cases hc

/-! ### Zeros -/
theorem mul_lt_of {i n z x : Nat} (hi : i < n) (hx : x < z) : i * z + x < n * z := by
  have : (i + 1) * z ≤ n * z := Nat.mul_le_mul_right z hi
  rw [Nat.add_mul] at this; omega

theorem zeroOK_sound {F : Nat → Prop} : ∀ {sh : List Shp} {z : List AVal}, zeroOK sh z = true → z.length = sh.length ∧ RRel w F sh (zeroDat sh) (fun x => (concs μ ρ z)[x]?)
  | [], [], _ => by simp [RRel, zeroDat]
  | [], _ :: _, h => by simp [zeroOK] at h
  | _ :: _, [], h => by simp [zeroOK] at h
  | s :: ss, v :: vs, h => by
    unfold zeroOK at h
    split at h
    · rename_i h1
      obtain ⟨g1, g2⟩ := zeroOK_sound (F := F) h
      refine ⟨by simp [g1], ?_⟩
      have g3 : RRel w F ss (zeroDat ss) (fun c => (concs μ ρ (v :: vs))[c + 1]?) := by simpa [concs] using g2
      unfold zeroOK1 at h1
      split at h1
      · have := keq_iff.1 h1
        subst this
        simp only [zeroDat, RRel]
        exact ⟨_, _, _, rfl, by simp [concs]; rfl, by simp [CRel, conc, Dat.int], g3⟩
      · simp only [zeroDat, RRel]
        exact ⟨_, _, _, rfl, by simp [concs]; rfl, by simp [CRel, conc, Dat.int], g3⟩
      · simp only [zeroDat, RRel]
        exact ⟨_, _, _, rfl, by simp [concs]; rfl, by simp [CRel, conc, Dat.rows], g3⟩
      · cases h1
    · cases h

theorem made_run (hK : COK K) (hS : SOK K ρ) {id : Nat} (_ : ¬ S id) {t : TypeId} {x y : AVal} {c : PComp} (hm : makeT K t (some x) (some y) = some c) :
    NOut ρ μ S H w id (.ref id 0) ((Instr.makeSlice t (conc μ ρ x) (conc μ ρ y)).run K.P w) (some (.pack [c] true)) := by
  unfold makeT at hm
  split at hm
  · rename_i n m hx hy
    cases hx; cases hy
    split at hm
    · rename_i e hnm hu
      have := teq_eq _ _ hnm
      subst this
      unfold madeE at hm
      split at hm
      · rename_i i sh z hi hsh hz
        unfold madeT at hm
        split at hm
        · rename_i h1 h2 h3 h4 h5
          cases hm
          have e1 := Nat.eq_of_beq_eq_true h1
          have e3 := Nat.le_of_ble_eq_true h3
          have e4 := nonnT_sound hS h4
          have e5 := AllHold.of hS h5
          simp only [Fact.holds, int_lit] at e5
          have hs : szB K e = some i.size := by simp [szB, hi]
          obtain ⟨zl, zr⟩ := zeroOK_sound (w := { w with heap := w.heap.push (.cells (concs μ ρ (zrep z.cells (n.int ρ).toNat)).toArray e) }) (μ := μ) (ρ := ρ) (F := fun _ => False) h2
          let N := (n.int ρ).toNat
          let w' : World := { w with heap := w.heap.push (.cells (concs μ ρ (zrep z.cells N)).toArray e) }
          have hrun : (Instr.makeSlice t (conc μ ρ (.sint .i64 n)) (conc μ ρ (.sint .i64 n))).run K.P w = .ok (.slice (some ⟨w.heap.size, 0, none⟩) N N) w' := by
            have wr : IntKind.i64.wrap (n.int ρ) = n.int ρ := IntWalk.i64_in _ ⟨by show (-9223372036854775808 : Int) ≤ _; omega, by show _ ≤ (9223372036854775807 : Int); omega⟩
            have hbc : (i.bytes : Int) * n.int ρ ≤ 65536 * 1000000 := by
              have h1 : (i.bytes : Int) ≤ 65536 := by omega
              exact Int.le_trans (Int.mul_le_mul_of_nonneg_right h1 e4) (Int.mul_le_mul_of_nonneg_left e5 (by decide))
            have t1 : (decide (n.int ρ < 0) || decide ((i.bytes : Int) * n.int ρ > 2 ^ 48)) = false := by
              rw [Bool.or_eq_false_iff]; exact ⟨decide_eq_false (by omega), decide_eq_false (by omega)⟩
            have hbig : ¬ ((281474976710656 : Int) < (i.bytes : Int) * n.int ρ) := by omega
            have t2 : decide (n.int ρ < 0) = false := decide_eq_false (by omega)
            have t3 : decide (n.int ρ > n.int ρ) = false := decide_eq_false (by omega)
            have hrow : ∀ Z : Array Value, (N * i.size = 0 ∨ Z = (concs μ ρ z.cells).toArray) → (Array.range (N * i.size)).map (fun j => Z[j % Z.size]!) = (concs μ ρ (zrep z.cells N)).toArray :=
              fun Z hZ => rep_eq z.cells N i.size Z e1 hZ
            by_cases h0 : N * i.size = 0
            · have h1 := hrow #[] (.inl h0)
              simp only [N] at h0 h1
              simp only [Instr.makeSlice, Sem.run_bind, run_und hK hu, Result.andThen_ok, conc, run_asInt, run_info hK hi, wr, t2, t3, Bool.or_false, Sem.run_ite, run_askRoom, run_szB hK hs, h0, if_true, Sem.run_pure]
              rw [h0] at h1
              rw [h1]
              simp [newRow, w', N, hbig]
            · have h1 := hrow _ (.inr rfl)
              simp only [N] at h0 h1
              simp only [Instr.makeSlice, Sem.run_bind, run_und hK hu, Result.andThen_ok, conc, run_asInt, run_info hK hi, wr, t2, t3, Bool.or_false, Sem.run_ite, run_askRoom, run_szB hK hs, if_neg h0, run_zeroB (μ := μ) (ρ := ρ) hK hz, conc_cells, Sem.run_pure]
              rw [h1]
              simp [newRow, w', N, hbig]
          have hrows : ((Tm.op (.zeros (zeroDat sh)) [n]).ev ρ).rows = List.replicate N (zeroDat sh) := by simp [Tm.ev, Tm.evs, BOp.ev, Dat.rows, Tm.int, N]
          let p : Place := ⟨0, 0, 0, [(some ⟨w.heap.size, 0, none⟩, N, N)], fun k => k = w.heap.size, fun _ => False⟩
          have hsz' : w'.heap.size = w.heap.size + 1 := by simp [w']
          refine ⟨w', p, ?_, VR.ref (Ids.and_self _ _), fun k hk => heap_push_old hk, by omega, rfl, rfl, rfl, ⟨fun k hk => ⟨rfl, by rw [hk, hsz']; omega, fun h => h⟩, fun k hk => hk.elim, fun jj cp hjj => ?_⟩, ⟨fun k hk => Nat.le_of_eq hk.2.symm, fun k hk => hk.elim⟩⟩
          · rw [hrun, conc, Mu.at_self]; rfl
          · cases jj with
            | succ jj => simp at hjj
            | zero =>
              simp at hjj
              subst hjj
              have hlen : ((Tm.op (.zeros (zeroDat sh)) [n]).ev ρ).rows.length = N := by rw [hrows, List.length_replicate]
              refine .inr ⟨w.heap.size, 0, N, by rw [hlen]; rfl, by rw [hlen]; exact Nat.le_refl _, fun _ => hlen.symm, fun _ => ⟨fun _ => rfl, (fun h => by cases h), (concs μ ρ (zrep z.cells N)).toArray, e, (0, 0), by simp [w'], fun _ => ⟨.inl rfl, ?_⟩, fun a row ha => ?_⟩⟩
              · simp [concs_length, zrep_length, zl]
              · rw [hrows, List.getElem?_replicate] at ha
                split at ha
                · rename_i hlt
                  cases ha
                  have : ∀ (l : List Shp) (xs : List Dat) (g g' : Nat → Option Value), RRel w' (fun _ => False) l xs g → (∀ x, x < l.length → g' x = g x) → RRel w' (fun _ => False) l xs g' := by
                    intro l
                    induction l with
                    | nil => intro xs g g' h _; simpa [RRel] using h
                    | cons s l ih =>
                      intro xs g g' h he
                      simp only [RRel] at h ⊢
                      obtain ⟨x, ys, u, q1, q2, q3, q4⟩ := h
                      exact ⟨x, ys, u, q1, by rw [he 0 (by simp)]; exact q2, q3, ih ys _ _ q4 fun y hy => he (y + 1) (by simpa using hy)⟩
                  refine this _ _ _ _ zr fun x hx => ?_
                  have hlt2 : 0 + a * sh.length + x < N * z.cells.length := by
                    rw [zl, Nat.zero_add]
                    exact mul_lt_of hlt hx
                  have hmod : (0 + a * sh.length + x) % z.cells.length = x := by
                    rw [zl, Nat.zero_add, Nat.add_comm, Nat.add_mul_mod_self_right, Nat.mod_eq_of_lt hx]
                  simp only [List.getElem?_toArray]
                  rw [concs_eq, concs_eq, List.getElem?_map, List.getElem?_map, zrep_get _ _ _ hlt2, hmod]
                · cases ha
        · cases hm
      · cases hm
    · cases hm
  · cases hm
end
end Go.Eng
