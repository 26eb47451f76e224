/- The engine: appends to, or of, slices that are known by their data. -/
import Derived.Test.YtkpobofljnokaaaGreatEng13
namespace Go.Eng
section
variable {K : Cfg} {ρ : Rho} {μ : Mu} {S : Ids} {H H' G : AH} {w : World} {P : Program} {r : Operand → Option AVal} {a : Act} {v : AVal}

/-- An effect: its value, its heap, its world. -/
def EOut (K : Cfg) (ρ : Rho) (μ : Mu) (S : Ids) (H : AH) (w : World) (v : AVal) (H' : AH) (s : Sem Value) : Prop :=
  ∃ μ' S' w', s.run K.P w = .ok (conc μ' ρ v) w' ∧ Step ρ μ S H w μ' S' H' w' ∧ VR ρ μ' S' v

theorem EOut.refl (h : Rel ρ μ S H w) {s : Sem Value} (hv : VR ρ μ S v) (hs : s.run K.P w = .ok (conc μ ρ v) w) : EOut K ρ μ S H w v H s :=
  ⟨μ, S, w, hs, Step.refl h, hv⟩

mutual
theorem shEq_eq : ∀ (a b : Shp), shEq a b = true → a = b
  | .num k, .num k', h => by simp only [shEq] at h; rw [keq_iff.1 h]
  | .bool, .bool, _ => rfl
  | .sl l, .sl r, h => by simp only [shEq] at h; rw [shEqs_eq l r h]
  | .num _, .bool, h => by simp [shEq] at h
  | .num _, .sl _, h => by simp [shEq] at h
  | .bool, .num _, h => by simp [shEq] at h
  | .bool, .sl _, h => by simp [shEq] at h
  | .sl _, .num _, h => by simp [shEq] at h
  | .sl _, .bool, h => by simp [shEq] at h
theorem shEqs_eq : ∀ (a b : List Shp), shEqs a b = true → a = b
  | [], [], _ => rfl
  | a :: l, b :: r, h => by
    simp only [shEqs] at h
    split at h
    · rename_i h1; rw [shEq_eq a b h1, shEqs_eq l r h]
    · cases h
  | [], _ :: _, h => by simp [shEqs] at h
  | _ :: _, [], h => by simp [shEqs] at h
end

/-- Rows' cells, one behind the other. -/
def Flat (w : World) (F : Nat → Prop) (sh : List Shp) (rows : List (List Dat)) (U : List Value) : Prop :=
  U.length = rows.length * sh.length ∧ ∀ i row, rows[i]? = some row → RRel w F sh row (fun x => U[i * sh.length + x]?)

theorem Flat.nil {F : Nat → Prop} {sh : List Shp} : Flat w F sh [] [] := ⟨by simp, by simp⟩

theorem Flat.mono {w' : World} {F F' : Nat → Prop} {sh : List Shp} {rows : List (List Dat)} {U : List Value} (h : Flat w F sh rows U) (hw : ∀ k, F k → w'.heap[k]? = w.heap[k]?) (hF : ∀ k, F k → F' k) : Flat w' F' sh rows U :=
  ⟨h.1, fun i row hi => RRel.keep hw hF _ _ _ (h.2 i row hi)⟩

theorem RRel.congr {F : Nat → Prop} : ∀ {l : List Shp} {xs : List Dat} {g g' : Nat → Option Value}, RRel w F l xs g → (∀ x, x < l.length → g' x = g x) → RRel w F l xs g'
  | [], xs, g, g', h, _ => by simpa [RRel] using h
  | s :: l, xs, g, g', h, he => by
    simp only [RRel] at h ⊢
    obtain ⟨x, ys, u, h1, h2, h3, h4⟩ := h
    exact ⟨x, ys, u, h1, by rw [he 0 (by simp)]; exact h2, h3, RRel.congr h4 fun y hy => he (y + 1) (by simpa using hy)⟩

theorem Flat.append {F : Nat → Prop} {sh : List Shp} {r1 r2 : List (List Dat)} {U1 U2 : List Value} (h1 : Flat w F sh r1 U1) (h2 : Flat w F sh r2 U2) : Flat w F sh (r1 ++ r2) (U1 ++ U2) := by
  refine ⟨by rw [List.length_append, List.length_append, h1.1, h2.1, Nat.add_mul], fun i row hi => ?_⟩
  by_cases hl : i < r1.length
  · rw [List.getElem?_append_left hl] at hi
    refine (h1.2 i row hi).congr fun x hx => ?_
    rw [List.getElem?_append_left (by rw [h1.1]; exact mul_lt_of hl hx)]
  · rw [List.getElem?_append_right (by omega)] at hi
    refine (h2.2 _ row hi).congr fun x hx => ?_
    have e : i * sh.length + x = r1.length * sh.length + ((i - r1.length) * sh.length + x) := by
      rw [← Nat.add_assoc, ← Nat.add_mul]; congr 2; omega
    rw [e, List.getElem?_append_right (by rw [h1.1]; omega), h1.1, Nat.add_sub_cancel_left]

/-- A row, cell by cell. -/
theorem RRel.iff {F : Nat → Prop} : ∀ {l : List Shp} {xs : List Dat} {g : Nat → Option Value}, RRel w F l xs g ↔ xs.length = l.length ∧ ∀ (x : Nat) s d, l[x]? = some s → xs[x]? = some d → ∃ u, g x = some u ∧ CRel w F s d u
  | [], xs, g => by simp [RRel]
  | s :: l, xs, g => by
    simp only [RRel]
    constructor
    · rintro ⟨x, ys, u, rfl, h1, h2, h3⟩
      obtain ⟨g1, g2⟩ := RRel.iff.1 h3
      refine ⟨by simp [g1], fun n s' d hs hd => ?_⟩
      cases n with
      | zero => simp at hs hd; subst hs; subst hd; exact ⟨u, h1, h2⟩
      | succ n => exact g2 n s' d (by simpa using hs) (by simpa using hd)
    · rintro ⟨h1, h2⟩
      match xs, h1 with
      | x :: ys, h1 =>
        obtain ⟨u, q1, q2⟩ := h2 0 s x (by simp) (by simp)
        exact ⟨x, ys, u, rfl, q1, q2, RRel.iff.2 ⟨by simpa using h1, fun n s' d hs hd => h2 (n + 1) s' d (by simpa using hs) (by simpa using hd)⟩⟩

/-- Every cell of a row is one. -/
theorem CRel.one {F : Nat → Prop} {s : Shp} {d : Dat} {v : Value} (h : CRel w F s d v) : v.oneCell' = true := by
  cases s with
  | num k => simp only [CRel] at h; subst h; rfl
  | bool => simp only [CRel] at h; subst h; rfl
  | sl row =>
    simp only [CRel] at h
    rcases h with ⟨rfl, _⟩ | ⟨b, o, cap, rfl, _⟩ <;> rfl

theorem RRel.one {F : Nat → Prop} : ∀ {l : List Shp} {xs : List Dat} {g : Nat → Option Value}, RRel w F l xs g → ∀ x, x < l.length → ∃ u, g x = some u ∧ u.oneCell' = true
  | [], xs, g, h, x, hx => by simp at hx
  | s :: l, xs, g, h, x, hx => by
    simp only [RRel] at h
    obtain ⟨y, ys, u, _, h2, h3, h4⟩ := h
    cases x with
    | zero => exact ⟨u, h2, h3.one⟩
    | succ x => exact RRel.one h4 x (by simpa using hx)

theorem Flat.one {F : Nat → Prop} {sh : List Shp} {rows : List (List Dat)} {U : List Value} (h : Flat w F sh rows U) : ∀ u ∈ U, u.oneCell' = true := by
  intro u hu
  obtain ⟨n, hn, rfl⟩ := List.mem_iff_getElem.1 hu
  have hz : 0 < sh.length := by
    rcases Nat.eq_zero_or_pos sh.length with h0 | h0
    · rw [h.1, h0] at hn; simp at hn
    · exact h0
  have hi : n / sh.length < rows.length := by rw [Nat.div_lt_iff_lt_mul hz]; rw [h.1] at hn; exact hn
  obtain ⟨u', h1, h2⟩ := (h.2 _ _ (List.getElem?_eq_getElem hi)).one (n % sh.length) (Nat.mod_lt _ hz)
  rw [Nat.mul_comm, Nat.div_add_mod, List.getElem?_eq_getElem hn] at h1
  cases h1
  exact h2

/-- What a slice that is known by its data holds, cell by cell. -/
theorem TRel.flat {p : Place} {own : Bool} {c : PComp} {q : Option Addr × Nat × Nat} (h : TRel ρ w p own c q) :
    ∃ U, Flat w p.foot c.sh (c.t.ev ρ).rows U ∧ ∀ (P : Program) (w' : World) (k : Nat), w'.heap = w.heap → (Builtin.firstCells c.sh.length (c.t.ev ρ).rows.length (.slice q.1 k q.2.2)).run P w' = .ok U.toArray w' := by
  rcases h with ⟨rfl, h⟩ | ⟨b, o, cap, rfl, h2, h3, h4⟩
  · exact ⟨[], by rw [h]; exact Flat.nil, fun P w' k hw => by simp [Builtin.firstCells]⟩
  · by_cases hc : cap = 0
    · have h0 : (c.t.ev ρ).rows = [] := List.length_eq_zero_iff.1 (by omega)
      exact ⟨[], by rw [h0]; exact Flat.nil, fun P w' k hw => by simp [Builtin.firstCells, h0, loadCells, loadCellsFrom]⟩
    · obtain ⟨_, _, cs, E, fz, g3, _, g5⟩ := h4 hc
      let n := (c.t.ev ρ).rows.length * c.sh.length
      have hall : ∀ x, x < n → ∃ u, cs[o + x]? = some u := by
        intro x hx
        have hz : 0 < c.sh.length := by
          rcases Nat.eq_zero_or_pos c.sh.length with h0 | h0
          · simp [n, h0] at hx
          · exact h0
        have hi : x / c.sh.length < (c.t.ev ρ).rows.length := by rw [Nat.div_lt_iff_lt_mul hz]; exact hx
        obtain ⟨u, h1, _⟩ := (g5 _ _ (List.getElem?_eq_getElem hi)).one (x % c.sh.length) (Nat.mod_lt _ hz)
        exact ⟨u, by rw [← h1]; congr 1; rw [Nat.add_assoc, Nat.mul_comm, Nat.div_add_mod]⟩
      let U := (cs.toList.drop o).take n
      have hU : ∀ x, x < n → U[x]? = cs[o + x]? := fun x hx => by
        simp only [U]; rw [take_drop_get hx, Array.getElem?_toList]
      have hlen : U.length = n := by
        rcases Nat.lt_or_ge U.length n with hlt | hge
        · obtain ⟨u, hu⟩ := hall U.length hlt
          have := hU U.length hlt
          rw [hu] at this; simp at this
        · have : U.length ≤ n := by simp [U]; omega
          omega
      refine ⟨U, ⟨hlen, fun i row hi => (g5 i row hi).congr fun x hx => ?_⟩, fun P w' k hw => ?_⟩
      · have hil : i < (c.t.ev ρ).rows.length := (List.getElem?_eq_some_iff.1 hi).1
        rw [hU _ (mul_lt_of hil hx), Nat.add_assoc]
      · have := run_loadCells P (b := b) (o := o) (w := w') U 0 #[] fun j hj => by
          rw [hlen] at hj
          have h1 := hU j hj
          rw [List.getElem?_eq_getElem (by rw [hlen]; exact hj)] at h1
          rw [Nat.zero_add]
          exact cell_at (by rw [hw]; exact g3) h1.symm
        rw [hlen] at this
        simpa [Builtin.firstCells, loadCells] using this

/-- All that is read by blocks that are known by their data. -/
def RdF (μ : Mu) (H : AH) (k : Nat) : Prop := ∃ id b, H.m.get id = some b ∧ b.plain = false ∧ b.rd (μ id) k

theorem RdF.lt (h : Rel ρ μ S H w) {k : Nat} (hk : RdF μ H k) : k < w.heap.size := by
  obtain ⟨id, b, h1, _, h2⟩ := hk
  exact h.img_lt ⟨id, b, h1, .inr h2⟩
theorem RdF.img {k : Nat} (hk : RdF μ H k) : Img μ H k := by
  obtain ⟨id, b, h1, _, h2⟩ := hk
  exact ⟨id, b, h1, .inr h2⟩
theorem RdF.notM (h : Rel ρ μ S H w) {k : Nat} (hk : RdF μ H k) : ¬ ImgM μ H k := by
  obtain ⟨id, b, h1, h0, h2⟩ := hk
  rintro ⟨x, c, h3, h4⟩
  by_cases hx : x = id
  · subst hx
    rw [h1] at h3
    cases h3
    have hr := (h.blk x b h1).2
    cases b with
    | pack l o => exact (hr.1 k h4.2).2.2 h2
    | obj t d m => exact (hr.1 k h4.2).2 h2
    | _ => cases h0
  · exact h.inj x id c b h3 h1 hx k h4 (.inr h2)

theorem CompR.rdF {ri j : Nat} {c : PComp} {own : Bool} (R : CompR ρ μ S H w ri j c own) {k : Nat} (hk : (μ ri).foot k) : RdF μ H k := by
  obtain ⟨l, hg, _⟩ := R.get
  exact ⟨ri, _, hg, rfl, hk⟩
theorem CompR.rdF' {ri j : Nat} {c : PComp} (R : CompR ρ μ S H w ri j c false) {b : Nat} (hk : (μ ri).foot b) : RdF μ H b := R.rdF hk

/-! ### A cell's data -/
theorem slTm_sound {F : Nat → Prop} (h : Rel ρ μ S H w) {row : List Shp} {ri j : Nat} {t : Tm} (hF : ∀ k, RdF μ H k → F k) (ht : slTm row (compAt H ri j) = some t) : CRel w F (.sl row) (t.ev ρ) (conc μ ρ (.ref ri j)) := by
  unfold slTm at ht
  split at ht
  · rename_i c hc
    split at ht
    · rename_i hsh
      cases ht
      have := shEqs_eq _ _ hsh
      subst this
      have R := compAt_rel h (fun _ _ q => q) hc
      simp only [CRel, conc]
      rcases R.rel with ⟨h1, h2⟩ | ⟨b, o, cap, h1, h2, _, h4⟩
      · exact .inl ⟨by rw [h1]; rfl, h2⟩
      · refine .inr ⟨b, o, cap, by rw [h1]; rfl, h2, fun hcap => ?_⟩
        obtain ⟨_, g2, cs, E, fz, g3, _, g5⟩ := h4 hcap
        exact ⟨hF b (R.rdF (g2 rfl)), cs, E, fz, g3, fun i r hr => RRel.keep (fun _ _ => rfl) (fun k hk => hF k (R.rdF hk)) _ _ _ (g5 i r hr)⟩
    · cases ht
  · cases ht

theorem cellTm_sound {F : Nat → Prop} (h : Rel ρ μ S H w) (hF : ∀ k, RdF μ H k → F k) {s : Shp} {v : AVal} {t : Tm} (ht : cellTm H s v = some t) : CRel w F s (t.ev ρ) (conc μ ρ v) := by
  unfold cellTm at ht
  cases s with
  | num k =>
    simp only at ht
    cases hv : tmOf v with
    | none => simp [hv, numTm] at ht
    | some q =>
      obtain ⟨k', t'⟩ := q
      simp only [hv, numTm] at ht
      cases hk : keq k k' with
      | false => simp [hk] at ht
      | true =>
        simp only [hk, Option.some.injEq] at ht
        subst ht
        rw [tmOf_conc hv, keq_iff.1 hk]
        simp [CRel, Tm.int]
  | bool =>
    simp only at ht
    split at ht
    · cases ht; simp [CRel, conc, Tm.ev, Dat.int]
    · cases ht; simp [CRel, conc, Tm.ev, Dat.int]
    · cases ht
  | sl row =>
    simp only at ht
    split at ht
    · exact slTm_sound h hF ht
    · cases ht
      simp [CRel, conc, Tm.ev, BOp.ev, rowsOf, Dat.rows]
    · cases ht

theorem rowTm_sound {F : Nat → Prop} (h : Rel ρ μ S H w) (hF : ∀ k, RdF μ H k → F k) : ∀ {sh : List Shp} {vs : List AVal} {l : List Tm}, rowTm H sh vs = some l →
    l.length = sh.length ∧ vs.length = sh.length ∧ RRel w F sh (l.map (Tm.ev ρ)) (fun x => (concs μ ρ vs)[x]?)
  | [], [], l, ht => by simp only [rowTm, Option.some.injEq] at ht; subst ht; simp [RRel]
  | [], _ :: _, l, ht => by simp [rowTm] at ht
  | _ :: _, [], l, ht => by simp [rowTm] at ht
  | s :: ss, v :: vs, l, ht => by
    unfold rowTm at ht
    split at ht
    · rename_i t l' h1 h2
      cases ht
      obtain ⟨g1, g2, g3⟩ := rowTm_sound h hF h2
      refine ⟨by simp [g1], by simp [g2], ?_⟩
      simp only [List.map_cons, RRel]
      exact ⟨_, _, conc μ ρ v, rfl, by simp [concs], cellTm_sound h hF h1, g3.congr fun x hx => by simp [concs]⟩
    · cases ht

theorem rowsTm_sound {F : Nat → Prop} (h : Rel ρ μ S H w) (hF : ∀ k, RdF μ H k → F k) {sh : List Shp} : ∀ {n : Nat} {vs : List AVal} {l : List Tm}, rowsTm H sh n vs = some l →
    Flat w F sh (rowsOf sh.length n (l.map (Tm.ev ρ))) (concs μ ρ vs)
  | 0, [], l, ht => by simp only [rowsTm, Option.some.injEq] at ht; subst ht; exact Flat.nil
  | 0, _ :: _, l, ht => by simp [rowsTm] at ht
  | n + 1, vs, l, ht => by
    unfold rowsTm at ht
    split at ht
    · rename_i l1 l2 h1 h2
      cases ht
      obtain ⟨g1, g2, g3⟩ := rowTm_sound h hF h1
      have ih := rowsTm_sound h hF h2
      have e1 : (l1 ++ l2).map (Tm.ev ρ) = l1.map (Tm.ev ρ) ++ l2.map (Tm.ev ρ) := by simp
      have e2 : concs μ ρ vs = concs μ ρ (vs.take sh.length) ++ concs μ ρ (vs.drop sh.length) := by rw [concs_eq, concs_eq, concs_eq, ← List.map_append, List.take_append_drop]
      rw [e1, e2]
      simp only [rowsOf]
      rw [List.take_left' (by simp [g1]), List.drop_left' (by simp [g1])]
      have h0 : Flat w F sh [l1.map (Tm.ev ρ)] (concs μ ρ (vs.take sh.length)) := by
        refine ⟨by rw [concs_length]; simp [g2], fun i row hi => ?_⟩
        cases i with
        | zero => simp at hi; subst hi; simpa using g3
        | succ i => simp at hi
      exact h0.append ih
    · cases ht

/-- What is appended. -/
theorem srcT_sound (h : Rel ρ μ S H w) {sh : List Shp} {z : Nat} (hz : sh.length = z) {x : AVal} {t2 : Tm} (ht : srcT H sh z x = some t2) :
    ∃ U, Flat w (RdF μ H) sh (t2.ev ρ).rows U ∧ (∀ w', w'.heap = w.heap → (Builtin.firstCells z (t2.ev ρ).rows.length (conc μ ρ x)).run P w' = .ok U.toArray w') ∧
      ∀ w', (Builtin.lenOf (conc μ ρ x)).run P w' = .ok (t2.ev ρ).rows.length w' := by
  unfold srcT at ht
  split at ht
  · rename_i ri j
    split at ht
    · rename_i c own hc
      split at ht
      · rename_i hsh
        cases ht
        have := shEqs_eq _ _ hsh
        subst this
        subst hz
        have R := compAt_rel h (fun _ _ q => q) hc
        obtain ⟨U, g1, g2⟩ := R.rel.flat
        refine ⟨U, g1.mono (fun _ _ => rfl) (fun k hk => R.rdF hk), fun w' hw => ?_, fun w' => ?_⟩
        · rw [conc, hdr]; exact g2 _ w' _ hw
        · rw [conc, hdr]; simp [Builtin.lenOf, R.rel.len]
      · cases ht
    · cases ht
  · unfold rowsSrc at ht
    split at ht
    · rename_i cs n hsrc
      split at ht
      · rename_i l hl
        cases ht
        obtain ⟨g1, g2⟩ := srcB_sound h hsrc P
        have hf := rowsTm_sound h (F := RdF μ H) (fun _ hk => hk) hl
        have hr : ((Tm.op (.rows n z) l).ev ρ).rows = rowsOf sh.length n (l.map (Tm.ev ρ)) := by rw [Tm.ev, Tm.evs_eq, ← hz]; rfl
        have hn : (rowsOf sh.length n (l.map (Tm.ev ρ))).length = n := by
          have : ∀ (n : Nat) (l : List Dat), (rowsOf sh.length n l).length = n := by
            intro n
            induction n with
            | zero => intro l; rfl
            | succ n ih => intro l; simp [rowsOf, ih]
          exact this n _
        rw [hr, hn]
        exact ⟨_, hf, fun w' hw => g1.run w' (h.heap hw), g2⟩
      · cases ht
    · cases ht

/-! ### The append -/
set_option maxHeartbeats 4000000 in
theorem append_vals (μ : Mu) (ρ : Rho) (hK : COK K) {t0 t1 ty e : TypeId} {d1 : TypeDesc} (hd : isIntD d1 = false) (hu0 : K.und t0 = some (.slice e)) (hu1 : K.und t1 = some d1)
    {i : TypeInfo} {zv : AVal} {z : Nat} (hi : K.info e = some i) (hzv : zeroB K e = some zv) (hsz : i.size = z) (hzl : zv.cells.length = z) (hby : i.bytes ≤ 65536)
    {X : Value} {xs : List Value} {n : Nat} (hX : ∀ w', w'.heap = w.heap → (Builtin.firstCells z n X).run K.P w' = .ok xs.toArray w') (hlen : ∀ w, (Builtin.lenOf X).run K.P w = .ok n w) {base : Option Addr} {sLen sCap : Nat} :
    (sLen + n ≤ sCap → ∀ w', (∀ a, base = some a → (storeCells (a.add (sLen * z)) xs).run K.P w = .ok () w') → (base = none → w' = w) →
      (Builtin.append_ #[t0, t1] ty #[.slice base sLen sCap, X]).run K.P w = .ok (.slice base (sLen + n) sCap) w') ∧
    (¬ (sLen + n ≤ sCap) → sLen + n < 2000000 → ∀ (old : List Value), (∀ w', w'.heap = w.heap → (Builtin.firstCells z sLen (.slice base sLen sCap)).run K.P w' = .ok old.toArray w') →
      ∃ w' cap rest, sLen + n ≤ cap ∧ (Builtin.append_ #[t0, t1] ty #[.slice base sLen sCap, X]).run K.P w = .ok (.slice (some ⟨w.heap.size, 0, none⟩) (sLen + n) cap) w' ∧
        w'.heap = w.heap.push (.cells ((old ++ xs).toArray ++ rest) e) ∧ rest.size = (cap - (sLen + n)) * z ∧ w'.os = w.os ∧ w'.tape = w.tape ∧ w'.output = w.output) := by
  have hs : szB K e = some z := by simp [szB, hi, hsz]
  have hu1' := fun w => run_und hK hu1 w
  constructor
  · intro hroom w' hw1 hw2
    have hrun := hX w rfl
    cases base with
    | none =>
      have := hw2 rfl
      subst this
      cases d1 <;> (try (simp [isIntD] at hd; done)) <;>
        simp only [Builtin.append_, List.getElem?_toArray, List.getElem?_cons_zero, List.getElem?_cons_succ, Sem.run_bind, run_und hK hu0, hu1', Result.andThen_ok, run_szB hK hs, Sem.run_pure, Bool.false_eq_true, if_false, hlen, Sem.run_ite, if_pos hroom, Bool.not_false, if_true, hrun]
    | some A =>
      have h1 := hw1 A rfl
      cases d1 <;> (try (simp [isIntD] at hd; done)) <;>
        simp only [Builtin.append_, List.getElem?_toArray, List.getElem?_cons_zero, List.getElem?_cons_succ, Sem.run_bind, run_und hK hu0, hu1', Result.andThen_ok, run_szB hK hs, Sem.run_pure, Bool.false_eq_true, if_false, hlen, Sem.run_ite, if_pos hroom, Bool.not_false, if_true, hrun, h1]
  · intro hno hsm old hold
    have hmax : IntKind.i64.max = 9223372036854775807 := by decide
    have c1 : ∀ (q : Prop), ¬ (((sLen + n : Nat) : Int) > IntKind.i64.max ∧ q) := fun q => by rw [hmax]; omega
    have c2 : ¬ (Builtin.nextslicecap (sLen + n) sCap * i.bytes > 2 ^ 48) := by
      have h1 := nextcap_le hno
      have h2 : Builtin.nextslicecap (sLen + n) sCap * i.bytes ≤ 6000000 * 65536 := Nat.mul_le_mul (by omega) hby
      omega
    have hf : (Question.appendCap (sLen + n) sCap e).forced = false := rfl
    have hc : sLen + n ≤ (Question.appendCap (sLen + n) sCap e).cut (w.tape w.drawn (Question.appendCap (sLen + n) sCap e)) := Nat.le_add_right _ _
    have hr1 := hX { w with drawn := w.drawn + 1 } rfl
    have hr2 := hold { w with drawn := w.drawn + 1 } rfl
    generalize hcap : (Question.appendCap (sLen + n) sCap e).cut (w.tape w.drawn (Question.appendCap (sLen + n) sCap e)) = cap at hc
    have hjoin : (old ++ xs).toArray = old.toArray ++ xs.toArray := by apply Array.ext'; simp
    have hz0 : ∀ w, (zeroValue e).run K.P w = .ok (conc μ ρ zv) w := run_zeroB (μ := μ) (ρ := ρ) hK hzv
    refine ⟨{ w with heap := w.heap.push (.cells (old.toArray ++ xs.toArray ++ Builtin.zeroCells (conc μ ρ zv).cells (cap - (sLen + n))) e), drawn := w.drawn + 1 }, cap,
      Builtin.zeroCells (conc μ ρ zv).cells (cap - (sLen + n)), hc, ?_, by rw [hjoin], ?_, rfl, rfl, rfl⟩
    rotate_left 1
    · rw [zeroCells_size]; simp [concs_length, conc_cells, hzl]
    · cases d1 <;> (try (simp [isIntD] at hd; done)) <;>
        simp only [Builtin.append_, List.getElem?_toArray, List.getElem?_cons_zero, List.getElem?_cons_succ, Sem.run_bind, run_und hK hu0, hu1', Result.andThen_ok, run_szB hK hs, Sem.run_pure, Bool.false_eq_true, if_false, hlen, Sem.run_ite, if_neg hno, Bool.not_false, if_true, run_info hK hi, if_neg (c1 _), if_neg c2, run_choose, hf, hcap, run_askRoom, hr1, hr2, hz0, newRow, run_newObj]

theorem emptyT_sound {t : Tm} (h : emptyT t = true) : (t.ev ρ).rows = [] := by
  unfold emptyT at h
  split at h
  · rename_i t lo hi
    rw [ev_sl, teq_eq _ _ h]
    simp only [Dat.sub, Dat.rows]
    apply List.drop_eq_nil_of_le
    simp; omega
  · simp [Tm.ev, BOp.ev, rowsOf, Dat.rows]
  · cases h

theorem catT_rows (t t2 : Tm) : ((catT t t2).ev ρ).rows = (t.ev ρ).rows ++ (t2.ev ρ).rows := by
  unfold catT
  split
  · rename_i h; rw [emptyT_sound h]; rfl
  · simp [Tm.ev, Tm.evs, BOp.ev, Dat.cat, Dat.rows]

/-- To what is appended: its value. -/
structure DstR (ρ : Rho) (μ : Mu) (S : Ids) (H : AH) (w : World) (s : AVal) (d : Dst) (q : Option Addr × Nat × Nat) (p : Place) : Prop where
  con : conc μ ρ s = hdr q
  rel : TRel ρ w p d.own ⟨d.sh, d.t, d.full⟩ q
  foot : ∀ k, p.foot k → RdF μ H k
  own : ∀ k, p.own k → ∃ r b, d.gone = some r ∧ H.m.get r = some b ∧ b.plain = false ∧ b.wr (μ r) k

theorem dstT_sound (h : Rel ρ μ S H w) {s x : AVal} {d : Dst} (hd : dstT H s x = some d) : ∃ q p, DstR ρ μ S H w s d q p := by
  unfold dstT at hd
  split at hd
  · rename_i ri j
    unfold dstRef at hd
    split at hd
    · rename_i c own hc
      cases hd
      have R := compAt_rel h (fun _ _ q => q) hc
      refine ⟨_, μ ri, rfl, R.rel, fun k hk => R.rdF hk, fun k hk => ?_⟩
      obtain ⟨l, hg, _⟩ := R.get
      have ho := (R.ownd k hk).1
      subst ho
      exact ⟨ri, _, rfl, hg, rfl, rfl, hk⟩
    · cases hd
  · unfold dstNil at hd
    split at hd
    · split at hd
      · cases hd
        exact ⟨(none, 0, 0), Place.of 0 0 0, by simp [conc, hdr], .inl ⟨rfl, by simp [Tm.ev, BOp.ev, rowsOf, Dat.rows]⟩, fun k hk => hk.elim, fun k hk => hk.elim⟩
      · cases hd
    · cases hd
  · rename_i b o
    unfold dstNil at hd
    split at hd
    · split at hd
      · cases hd
        exact ⟨(some ⟨(μ b).blk, (μ b).sh + o, none⟩, 0, 0), Place.of 0 0 0, by simp [conc, hdr], .inr ⟨(μ b).blk, (μ b).sh + o, 0, by simp [Tm.ev, BOp.ev, rowsOf, Dat.rows], by simp [Tm.ev, BOp.ev, rowsOf, Dat.rows], (fun _ => by simp [Tm.ev, BOp.ev, rowsOf, Dat.rows]), fun hc => absurd rfl hc⟩, fun k hk => hk.elim, fun k hk => hk.elim⟩
      · cases hd
    · cases hd
  · cases hd

theorem ownT_cases {g : List Fact} (hS : AllHold ρ g) {d : Dst} {t2 : Tm} (h : ownT g d t2 = true) : d.own = true ∨ (d.t.ev ρ).rows = [] ∨ 0 < (t2.ev ρ).rows.length := by
  unfold ownT at h
  split at h
  · exact .inl (by assumption)
  · split at h
    · rename_i h1; exact .inr (.inl (emptyT_sound h1))
    · have := hS.of h
      simp only [Fact.holds, int_lit, int_len] at this
      exact .inr (.inr (by omega))

theorem goneH_sub (H : AH) (o : Option Nat) : ∀ id b, (goneH H o).m.get id = some b → H.m.get id = some b ∧ ∀ r, o = some r → id ≠ r := by
  intro id b hb
  cases o with
  | none => exact ⟨hb, fun r hr => by cases hr⟩
  | some r =>
    obtain ⟨h1, h2⟩ := AH.get_drop hb
    exact ⟨h2, fun r' hr => by cases hr; exact h1⟩
theorem goneH_next (H : AH) (o : Option Nat) : (goneH H o).next = H.next := by cases o <;> rfl

theorem appT_run (hK : COK K) (hS : SOK K ρ) (h : Rel ρ μ S H w) {t0 t1 ty e : TypeId} {d1 : TypeDesc} (hu0 : K.und t0 = some (.slice e)) (hu1 : K.und t1 = some d1) {s x : AVal}
    (hp : appT K.gam H d1 s x (K.info e) (zeroB K e) = some (v, H')) : EOut K ρ μ S H w v H' (Builtin.append_ #[t0, t1] ty #[conc μ ρ s, conc μ ρ x]) := by
  unfold appT at hp
  split at hp
  · rename_i i zv hi hzv
    split at hp
    · rename_i z hsz hzl hby hd
      have hzl := Nat.eq_of_beq_eq_true hzl
      have hby := Nat.le_of_ble_eq_true hby
      rw [hsz] at hzl
      unfold appT1 at hp
      split at hp
      · rename_i d hdst
        split at hp
        · rename_i t2 hz hsrc
          have hz := Nat.eq_of_beq_eq_true hz
          unfold appT2 at hp
          split at hp
          · rename_i hof hbd
            simp only [Option.some.injEq, Prod.mk.injEq] at hp
            obtain ⟨rfl, rfl⟩ := hp
            obtain ⟨q, p, D⟩ := dstT_sound h hdst
            obtain ⟨U2, f2, run2, len2⟩ := srcT_sound (P := K.P) h hz hsrc
            obtain ⟨U1, f1, run1⟩ := D.rel.flat
            have hbd := AllHold.of hS hbd
            simp only [Fact.holds, sumT, int_add, int_len, int_lit] at hbd
            have hlen : q.2.1 = (d.t.ev ρ).rows.length := D.rel.len
            obtain ⟨base, sLen, sCap⟩ := q
            simp only at hlen run1
            subst hlen
            have A := append_vals (ty := ty) (base := base) (sLen := (d.t.ev ρ).rows.length) (sCap := sCap) μ ρ hK hd hu0 hu1 hi hzv hsz hzl hby run2 len2
            have hcon : conc μ ρ s = .slice base (d.t.ev ρ).rows.length sCap := D.con
            rw [hcon]
            have hsub := goneH_sub H d.gone
            have hG : Rel ρ μ S (goneH H d.gone) w := h.less (by rw [goneH_next]; exact Nat.le_refl _) fun id b hb => (hsub id b hb).1
            have hid : ¬ S (goneH H d.gone).next := fun hs => Nat.lt_irrefl _ (hG.bnd _ hs)
            have f1' : Flat w (RdF μ H) d.sh (d.t.ev ρ).rows U1 := f1.mono (fun _ _ => rfl) D.foot
            have f12 : Flat w (RdF μ H) d.sh ((catT d.t t2).ev ρ).rows (U1 ++ U2) := by rw [catT_rows]; exact f1'.append f2
            have hrlen : ((catT d.t t2).ev ρ).rows.length = (d.t.ev ρ).rows.length + (t2.ev ρ).rows.length := by rw [catT_rows, List.length_append]
            have hU1 : U1.length = (d.t.ev ρ).rows.length * (z + 1) := by rw [f1.1, hz]
            have hU2 : U2.length = (t2.ev ρ).rows.length * (z + 1) := by rw [f2.1, hz]
            -- all that is left: a world, a value, what it may write
            have fin : ∀ (w' : World) (q' : Option Addr × Nat × Nat) (own : Nat → Prop), (Builtin.append_ #[t0, t1] ty #[.slice base (d.t.ev ρ).rows.length sCap, conc μ ρ x]).run K.P w = .ok (hdr q') w' →
                w.heap.size ≤ w'.heap.size → w'.os = w.os → w'.tape = w.tape → w'.output = w.output →
                (∀ k, own k → ownT K.gam d t2 = true ∧ k < w'.heap.size ∧ (w.heap.size ≤ k ∨ (ImgM μ H k ∧ ¬ Img μ (goneH H d.gone) k))) →
                (∀ k, k < w.heap.size → (¬ ImgM μ H k ∨ Img μ (goneH H d.gone) k) → w'.heap[k]? = w.heap[k]?) →
                (∀ F : Nat → Prop, (∀ k, RdF μ H k → F k) → (∀ k, w.heap.size ≤ k → k < w'.heap.size → ¬ own k → F k) → TRel ρ w' ⟨0, 0, 0, [q'], own, F⟩ (ownT K.gam d t2) ⟨d.sh, catT d.t t2, false⟩ q') →
                EOut K ρ μ S H w (.ref H.next 0) ((goneH H d.gone).alloc (.pack [⟨d.sh, catT d.t t2, false⟩] (ownT K.gam d t2))) (Builtin.append_ #[t0, t1] ty #[.slice base (d.t.ev ρ).rows.length sCap, conc μ ρ x]) := by
              intro w' q' own hrun hsize ho ht hu hown hkeep hrel
              let F : Nat → Prop := fun k => RdF μ H k ∨ (w.heap.size ≤ k ∧ k < w'.heap.size ∧ ¬ own k)
              let p' : Place := ⟨0, 0, 0, [q'], own, F⟩
              have hn : (goneH H d.gone).next = H.next := goneH_next H d.gone
              have himg : ∀ k, Img μ (goneH H d.gone) k → w'.heap[k]? = w.heap[k]? := fun k hk => hkeep k (hG.img_lt hk) (.inr hk)
              have hT := hrel F (fun k hk => .inl hk) (fun k h1 h2 h3 => .inr ⟨h1, h2, h3⟩)
              have hb : BRel ρ (μ.at (goneH H d.gone).next p') (S.and (goneH H d.gone).next) w' p' (.pack [⟨d.sh, catT d.t t2, false⟩] (ownT K.gam d t2)) := by
                refine ⟨fun k hk => ⟨(hown k hk).1, (hown k hk).2.1, fun hf => ?_⟩, fun k hk => ?_, fun jj cp hjj => ?_⟩
                · rcases hf with hf | ⟨_, _, hf⟩
                  · rcases (hown k hk).2.2 with h1 | h1
                    · have := hf.lt h; omega
                    · exact hf.notM h h1.1
                  · exact hf hk
                · rcases hk with hk | hk
                  · exact Nat.lt_of_lt_of_le (hk.lt h) hsize
                  · exact hk.2.1
                · cases jj with
                  | zero => simp at hjj; subst hjj; exact hT
                  | succ jj => simp at hjj
              have hadd : Rel ρ (μ.at (goneH H d.gone).next p') (S.and (goneH H d.gone).next) ((goneH H d.gone).alloc (.pack [⟨d.sh, catT d.t t2, false⟩] (ownT K.gam d t2))) w' := by
                refine hG.add hid (Nat.lt_succ_self _) (Nat.le_succ _) (fun id c => AH.get_alloc) himg hb (fun k hk hi => ?_) (fun k hk hi => ?_)
                · rcases (hown k hk.2).2.2 with h1 | h1
                  · have := hG.img_lt hi; omega
                  · exact h1.2 hi
                · obtain ⟨x1, b1, h1, h2⟩ := hi
                  rcases hk with hk | hk
                  · exact hk.notM h ⟨x1, b1, (hsub _ _ h1).1, h2⟩
                  · have := hG.img_lt ⟨x1, b1, h1, .inl h2⟩; omega
              have hup := Mu.at_upto (S := S) μ p' hid
              refine ⟨μ.at (goneH H d.gone).next p', S.and (goneH H d.gone).next, w', ?_, ⟨hadd, hup, Ids.le_and _ _, fun id hid' => ?_, by rw [← hn]; exact Nat.le_succ _, ho, ht, hu, hsize, fun k hk hni => hkeep k hk (.inl hni), fun k hk => ?_, fun k hk => ?_⟩, VR.ref (by rw [hn]; exact Ids.and_self _ _)⟩
              · rw [hrun, conc, ← hn, Mu.at_self]; rfl
              · rcases hid' with h1 | rfl
                · exact .inl h1
                · exact .inr (by rw [hn]; exact Nat.le_refl _)
              · obtain ⟨id, c, hc, hs⟩ := hk
                rcases AH.get_alloc hc with ⟨rfl, rfl⟩ | ⟨hne, hc⟩
                · rw [Mu.at_self] at hs
                  rcases hs with hs | hs
                  · rcases (hown k hs.2).2.2 with h1 | h1
                    · exact .inr h1
                    · exact .inl h1.1.img
                  · rcases hs with hs | hs
                    · exact .inl hs.img
                    · exact .inr hs.1
                · rw [Mu.at_ne μ p' hne] at hs; exact .inl ⟨id, c, (hsub _ _ hc).1, hs⟩
              · obtain ⟨id, c, hc, hs⟩ := hk
                rcases AH.get_alloc hc with ⟨rfl, rfl⟩ | ⟨hne, hc⟩
                · rw [Mu.at_self] at hs
                  rcases (hown k hs.2).2.2 with h1 | h1
                  · exact .inr h1
                  · exact .inl h1.1
                · rw [Mu.at_ne μ p' hne] at hs; exact .inl ⟨id, c, (hsub _ _ hc).1, hs⟩
            by_cases hroom : (d.t.ev ρ).rows.length + (t2.ev ρ).rows.length ≤ sCap
            · -- there is room
              cases base with
              | none =>
                have hr := A.1 hroom w (fun a ha => by cases ha) (fun _ => rfl)
                have hq : (d.t.ev ρ).rows = [] ∧ sCap = 0 := by
                  rcases D.rel with ⟨h1, h2⟩ | ⟨b, o, cap, h1, _⟩
                  · simp only [Prod.mk.injEq] at h1; exact ⟨h2, h1.2.2⟩
                  · simp at h1
                have h2 : (t2.ev ρ).rows = [] := List.length_eq_zero_iff.1 (by omega)
                refine fin w (none, 0, 0) (fun _ => False) (by rw [hr, hq.2, h2, hq.1]; rfl) (Nat.le_refl _) rfl rfl rfl (fun k hk => hk.elim) (fun _ _ _ => rfl) fun F _ _ => .inl ⟨rfl, by rw [catT_rows, hq.1, h2]; rfl⟩
              | some a =>
                obtain ⟨b, o, rfl⟩ : ∃ b o, a = ⟨b, o, none⟩ := by
                  rcases D.rel with ⟨h1, _⟩ | ⟨b, o, cap, h1, _⟩
                  · simp at h1
                  · simp only [Prod.mk.injEq, Option.some.injEq] at h1; exact ⟨b, o, h1.1⟩
                have hD := D.rel
                rcases hD with ⟨h1, _⟩ | ⟨b', o', cap, h1, h2, h3, h4⟩
                · simp at h1
                simp only [Prod.mk.injEq, Option.some.injEq, Addr.mk.injEq, true_and, and_true] at h1
                obtain ⟨⟨rfl, rfl⟩, rfl⟩ := h1
                by_cases hn0 : (t2.ev ρ).rows.length = 0
                · -- nothing is appended
                  have e2 : (t2.ev ρ).rows = [] := List.length_eq_zero_iff.1 hn0
                  have eU : U2 = [] := List.length_eq_zero_iff.1 (by rw [hU2, hn0]; simp)
                  have hr := A.1 hroom w (fun a ha => by rw [eU]; simp [storeCells]) (fun ha => by cases ha)
                  rw [hn0, Nat.add_zero] at hr
                  have hcr : ((catT d.t t2).ev ρ).rows = (d.t.ev ρ).rows := by rw [catT_rows, e2, List.append_nil]
                  by_cases hown : d.own = true
                  · refine fin w (some ⟨b, o, none⟩, (d.t.ev ρ).rows.length, sCap) p.own (by rw [hr]; rfl) (Nat.le_refl _) rfl rfl rfl (fun k hk => ⟨by simp [ownT, hown], ?_⟩) (fun _ _ _ => rfl) fun F hF _ => ?_
                    · obtain ⟨r', b', hg1, hg2, hg3, hg4⟩ := D.own k hk
                      refine ⟨h.img_lt ⟨r', b', hg2, .inl hg4⟩, .inr ⟨⟨r', b', hg2, hg4⟩, ?_⟩⟩
                      rintro ⟨x1, b1, e1, e3⟩
                      obtain ⟨e4, e5⟩ := hsub _ _ e1
                      exact h.inj r' x1 b' b1 hg2 e4 (fun q => e5 r' hg1 q.symm) k hg4 e3
                    · refine .inr ⟨b, o, sCap, by rw [hcr], by rw [hcr]; exact h2, (fun h => by cases h), fun hc => ?_⟩
                      obtain ⟨g1, g2, cs, E, fz, g3, g4, g5⟩ := h4 hc
                      refine ⟨fun _ => g1 hown, (fun h => by simp [ownT, hown] at h), cs, E, fz, g3, fun _ => g4 hown, fun i r hi => ?_⟩
                      rw [hcr] at hi
                      exact RRel.keep (fun _ _ => rfl) (fun k hk => hF k (D.foot k hk)) _ _ _ (g5 i r hi)
                  · have hown : d.own = false := by simpa using hown
                    have hfull : d.full = true := by simpa [hown] using hof
                    have hcap := h3 hfull
                    simp only at hcap
                    refine fin w (some ⟨b, o, none⟩, (d.t.ev ρ).rows.length, sCap) (fun _ => False) (by rw [hr]; rfl) (Nat.le_refl _) rfl rfl rfl (fun k hk => hk.elim) (fun _ _ _ => rfl) fun F hF _ => ?_
                    refine .inr ⟨b, o, sCap, by rw [hcr], by rw [hcr]; exact h2, (fun h => by cases h), fun hc => ?_⟩
                    obtain ⟨g1, g2, cs, E, fz, g3, g4, g5⟩ := h4 hc
                    have hno : ownT K.gam d t2 = false := by
                      cases ho : ownT K.gam d t2 with
                      | false => rfl
                      | true =>
                        rcases ownT_cases hS ho with q | q | q
                        · rw [hown] at q; cases q
                        · rw [q] at hcap; simp at hcap; omega
                        · omega
                    refine ⟨(fun h => by rw [hno] at h; cases h), fun _ => hF b (D.foot b (g2 hown)), cs, E, fz, g3, (fun h => by rw [hno] at h; cases h), fun i r hi => ?_⟩
                    rw [hcr] at hi
                    exact RRel.keep (fun _ _ => rfl) (fun k hk => hF k (D.foot k hk)) _ _ _ (g5 i r hi)
                · -- the array is one's own
                  have hcap0 : sCap ≠ 0 := by omega
                  obtain ⟨g1, g2, cs, E, fz, g3, g4, g5⟩ := h4 hcap0
                  have hown : d.own = true := by
                    cases ho : d.own with
                    | true => rfl
                    | false =>
                      have hfull : d.full = true := by simpa [ho] using hof
                      have := h3 hfull
                      simp only at this; omega
                  have hb := g1 hown
                  obtain ⟨hth, hcs⟩ := g4 hown
                  obtain ⟨r', b', hg1, hg2, hg3, hg4⟩ := D.own b hb
                  have hbM : ImgM μ H b := ⟨r', b', hg2, hg4⟩
                  have hbN : ¬ Img μ (goneH H d.gone) b := by
                    rintro ⟨x1, b1, e1, e3⟩
                    obtain ⟨e4, e5⟩ := hsub _ _ e1
                    exact h.inj r' x1 b' b1 hg2 e4 (fun q => e5 r' hg1 q.symm) b hg4 e3
                  have hbF : ¬ RdF μ H b := fun hk => hk.notM h hbM
                  simp only at hcs g5
                  rw [hz] at hcs
                  have hmul : (d.t.ev ρ).rows.length * (z + 1) + (t2.ev ρ).rows.length * (z + 1) ≤ sCap * (z + 1) := by
                    have := Nat.mul_le_mul_right (z + 1) hroom
                    rwa [Nat.add_mul] at this
                  obtain ⟨w', cs', s1, s2, s3, s4, s5, s6, s7, s8, s9⟩ := run_storeCells K.P (E := E) (fz := fz) (blk := b) (off := o + (d.t.ev ρ).rows.length * (z + 1)) U2 0 w cs g3 hth (fun y hy => f2.one y hy) (by rw [hU2, hcs]; omega)
                  have hr := A.1 hroom w' (fun a ha => by cases ha; rw [add_none]; exact s1) (fun ha => by cases ha)
                  refine fin w' (some ⟨b, o, none⟩, (d.t.ev ρ).rows.length + (t2.ev ρ).rows.length, sCap) (fun k => k = b) (by rw [hr]; rfl) (Nat.le_of_eq s6.symm) s7 s8 s9 (fun k hk => ?_) (fun k _ hk => s5 k fun e => ?_) fun F hF _ => ?_
                  · subst hk; exact ⟨by simp [ownT, hown], by rw [s6]; exact heap_lt g3, .inr ⟨hbM, hbN⟩⟩
                  · subst e; rcases hk with hk | hk
                    · exact hk hbM
                    · exact hbN hk
                  · have f12' := f12.mono (w' := w') (F' := F) (fun k hk => s5 k fun e => hbF (e ▸ hk)) hF
                    have hread : ∀ x, x < U1.length + U2.length → cs'[o + x]? = (U1 ++ U2)[x]? := by
                      intro x hx
                      rw [← Array.getElem?_toList, s4, Nat.add_zero]
                      have hl1 : (cs.toList.take (o + (d.t.ev ρ).rows.length * (z + 1))).length = o + (d.t.ev ρ).rows.length * (z + 1) := by simp; omega
                      by_cases hx1 : x < U1.length
                      · rw [List.append_assoc, List.getElem?_append_left (by rw [hl1]; omega), List.getElem?_take_of_lt (by omega), List.getElem?_append_left hx1, Array.getElem?_toList]
                        -- what the old cells are
                        obtain ⟨U, fU, runU⟩ := D.rel.flat
                        have e1 := run1 K.P w (d.t.ev ρ).rows.length rfl
                        have hz' : 0 < d.sh.length := by omega
                        have hi : x / d.sh.length < (d.t.ev ρ).rows.length := by rw [Nat.div_lt_iff_lt_mul hz', hz]; omega
                        have hLoad := run_loadCells K.P (b := b) (o := o) (w := w) ((cs.toList.drop o).take ((d.t.ev ρ).rows.length * (z + 1))) 0 #[] (fun j hj => by
                          have hj' : j < (d.t.ev ρ).rows.length * (z + 1) := by simp at hj; omega
                          rw [Nat.zero_add]
                          refine cell_at g3 ?_
                          rw [← Array.getElem?_toList, ← take_drop_get (n := (d.t.ev ρ).rows.length * (z + 1)) hj']
                          exact List.getElem?_eq_getElem hj)
                        have hl2 : ((cs.toList.drop o).take ((d.t.ev ρ).rows.length * (z + 1))).length = (d.t.ev ρ).rows.length * (z + 1) := by simp; omega
                        rw [hl2] at hLoad
                        simp only [Builtin.firstCells, loadCells, hz] at e1
                        rw [hLoad] at e1
                        simp only [Result.ok.injEq, and_true, Array.empty_append] at e1
                        have e2 : (cs.toList.drop o).take ((d.t.ev ρ).rows.length * (z + 1)) = U1 := by simpa using e1
                        rw [← e2, take_drop_get (by omega), Array.getElem?_toList]
                      · rw [List.append_assoc, List.getElem?_append_right (by rw [hl1]; omega), hl1, List.getElem?_append_left (by omega), List.getElem?_append_right (by omega)]
                        congr 1; omega
                    refine .inr ⟨b, o, sCap, by rw [hrlen], by rw [hrlen]; exact hroom, (fun h => by cases h), fun _ => ⟨fun _ => rfl, (fun h => by simp [ownT, hown] at h), cs', E, fz, s2, fun _ => ⟨by rw [s3]; exact hth, by rw [s3, hcs]; simp only [hz]⟩, fun i r hi => ?_⟩⟩
                    refine (f12'.2 i r hi).congr fun x hx => ?_
                    have hil : i < ((catT d.t t2).ev ρ).rows.length := (List.getElem?_eq_some_iff.1 hi).1
                    have := mul_lt_of hil hx
                    rw [Nat.add_assoc]
                    exact hread _ (by rw [← List.length_append, f12.1]; exact this)
            · -- a new array
              obtain ⟨w', cap, rest, n1, n2, n3, n4, n5, n6, n7⟩ := A.2 hroom (by omega) U1 (fun w' hw => by have := run1 K.P w' (d.t.ev ρ).rows.length hw; rw [hz] at this; exact this)
              have hsz' : w'.heap.size = w.heap.size + 1 := by rw [n3]; simp
              have hold : ∀ k, k < w.heap.size → w'.heap[k]? = w.heap[k]? := fun k hk => by rw [n3]; exact heap_push_old hk
              have hnew : w'.heap[w.heap.size]? = some (.cells ((U1 ++ U2).toArray ++ rest) e (0, 0)) := by rw [n3]; simp
              have hTR : ∀ (own : Nat → Prop) (F : Nat → Prop), (∀ k, RdF μ H k → F k) → (ownT K.gam d t2 = true → own w.heap.size) → (ownT K.gam d t2 = false → F w.heap.size) →
                  TRel ρ w' ⟨0, 0, 0, [(some ⟨w.heap.size, 0, none⟩, (d.t.ev ρ).rows.length + (t2.ev ρ).rows.length, cap)], own, F⟩ (ownT K.gam d t2) ⟨d.sh, catT d.t t2, false⟩ (some ⟨w.heap.size, 0, none⟩, (d.t.ev ρ).rows.length + (t2.ev ρ).rows.length, cap) := by
                intro own F hF ho1 ho2
                refine .inr ⟨_, _, cap, by rw [hrlen], by rw [hrlen]; exact n1, (fun h => by cases h), fun _ => ⟨ho1, ho2, _, e, (0, 0), hnew, fun _ => ⟨.inl rfl, ?_⟩, fun i r hi => ?_⟩⟩
                · simp only [Array.size_append, List.size_toArray, List.length_append, hU1, hU2, n4, Nat.zero_add, hz]
                  rw [← Nat.add_mul, ← Nat.add_mul]; congr 1; omega
                · refine ((f12.mono (w' := w') (F' := F) (fun k hk => hold k (hk.lt h)) hF).2 i r hi).congr fun x hx => ?_
                  have hil : i < ((catT d.t t2).ev ρ).rows.length := (List.getElem?_eq_some_iff.1 hi).1
                  have := mul_lt_of hil hx
                  rw [← f12.1] at this
                  simp only [Nat.zero_add]
                  rw [Array.getElem?_append_left (by simpa using this)]
                  simp
              cases ho : ownT K.gam d t2 with
              | true =>
                refine ho ▸ fin w' (some ⟨w.heap.size, 0, none⟩, (d.t.ev ρ).rows.length + (t2.ev ρ).rows.length, cap) (fun k => k = w.heap.size) (by rw [n2]; rfl) (by omega) n5 n6 n7 (fun k hk => ⟨ho, by omega, .inl (by omega)⟩) (fun k hk _ => hold k hk) fun F hF _ => hTR _ F hF (fun _ => rfl) (fun q => by rw [ho] at q; cases q)
              | false =>
                refine ho ▸ fin w' (some ⟨w.heap.size, 0, none⟩, (d.t.ev ρ).rows.length + (t2.ev ρ).rows.length, cap) (fun _ => False) (by rw [n2]; rfl) (by omega) n5 n6 n7 (fun k hk => hk.elim) (fun k hk _ => hold k hk) fun F hF hF2 => hTR _ F hF (fun q => by rw [ho] at q; cases q) (fun _ => hF2 _ (Nat.le_refl _) (by omega) (fun h => h))
          · cases hp
        · cases hp
      · cases hp
    · cases hp
  · cases hp
end
end Go.Eng
