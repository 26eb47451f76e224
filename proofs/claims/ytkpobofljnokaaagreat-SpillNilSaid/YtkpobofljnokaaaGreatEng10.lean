/- The engine, tenth part: conversions, built-in functions; every operation that changes nothing. -/
import Derived.Test.YtkpobofljnokaaaGreatEng9
namespace Go.Eng
section
variable {K : Cfg} {ρ : Rho} {μ : Mu} {S : Ids} {H G : AH} {w : World} {P : Program} {r : Operand → Option AVal} {a : Act} {v : AVal}

/-! ### Conversions -/
theorem bytesOf_sound : ∀ {l : List AVal} {s : List Nat}, bytesOf l = some s → l = s.map (fun b => .int .u8 (.ofNat b)) ∧ ∀ b ∈ s, b < 256
  | [], s, h => by simp [bytesOf] at h; subst h; simp
  | x :: l, s, h => by
    unfold bytesOf at h
    split at h
    · rename_i he; cases he
    · rename_i n l' he
      cases he
      split at h
      · rename_i hb
        cases hl : bytesOf l with
        | none => simp [hl] at h
        | some s' =>
          simp only [hl, Option.some.injEq] at h
          subst h
          obtain ⟨h1, h2⟩ := bytesOf_sound hl
          have hb' : n < 256 := Nat.le_of_ble_eq_true hb
          exact ⟨by simp [h1], fun b hm => by
            cases hm with
            | head => exact hb'
            | tail _ hm => exact h2 b hm⟩
      · cases h
    · cases h

theorem isU8_sound {d : Option TypeDesc} (h : isU8 d = true) : d = some (.int .u8) := by
  unfold isU8 at h
  split at h
  · rfl
  · cases h

theorem run_bytes (P : Program) (w : World) {f : Value → ByteArray → Sem (ForInStep ByteArray)} (hf : ∀ n r, f (.int .u8 n) r = pure (ForInStep.yield (r.push (UInt8.ofNat n.toNat)))) : ∀ (s : List Nat) (acc : ByteArray),
    (forIn (s.map (fun b => Value.int .u8 (Int.ofNat b))) acc f : Sem ByteArray).run P w = .ok (acc ++ str8 s) w
  | [], acc => by
    simp only [List.map_nil, List.forIn_nil, Sem.run_pure]
    congr 1
    apply ByteArray.ext
    simp [str8, ByteArray.data_append]
  | b :: s, acc => by
    simp only [List.map_cons, List.forIn_cons, hf, Sem.run_bind, Sem.run_pure, Result.andThen_ok]
    rw [run_bytes P w hf s]
    congr 1
    apply ByteArray.ext
    simp [str8, ByteArray.data_append, ByteArray.data_push, Nat.toUInt8]

theorem thaw_freeze {n : Nat} {fz : Nat × Nat} (h : Thawed n fz) : Thawed n (if fz.1 == fz.2 then (n, n + 1) else (min fz.1 n, max fz.2 (n + 1))) := by
  split
  · exact .inr (Nat.le_refl _)
  · rename_i hne
    have hne' : fz.1 ≠ fz.2 := by simpa using hne
    rcases h with h | h
    · exact absurd h hne'
    · exact .inr (by simp; omega)

theorem freeze_heap {blk : Nat} {cs : Array Value} {E : TypeId} {fz : Nat × Nat} (hb : w.heap[blk]? = some (.cells cs E fz)) (n : Nat) :
    (w.freeze ⟨blk, n, none⟩ 1).heap[blk]? = some (.cells cs E (if fz.1 == fz.2 then (n, n + 1) else (min fz.1 n, max fz.2 (n + 1)))) ∧
    (∀ k, k ≠ blk → (w.freeze ⟨blk, n, none⟩ 1).heap[k]? = w.heap[k]?) ∧ (w.freeze ⟨blk, n, none⟩ 1).heap.size = w.heap.size := by
  obtain ⟨lo, hi⟩ := fz
  refine ⟨?_, fun k hk => ?_, ?_⟩
  · simp only [World.freeze, Nat.one_ne_zero, if_false, Array.getElem?_modify, hb, if_true, Option.map_some]
  · simp only [World.freeze, Nat.one_ne_zero, if_false, Array.getElem?_modify, if_neg (Ne.symm hk)]
  · simp [World.freeze]

theorem shape_of {blk : Nat} {cs : Array Value} {E : TypeId} {fz : Nat × Nat} (hb : w.heap[blk]? = some (.cells cs E fz)) : w.shape? blk = some (E, cs.size) := by
  simp [World.shape?, hb]

/-- A mark behind a block's cells: nothing that is known has changed. -/
theorem Step.mark (h : Rel ρ μ S H w) {i n z : Nat} {l : List AVal} {cs : Array Value} {E : TypeId} {fz : Nat × Nat} (hg : H.m.get i = some (.cells l true z)) (hb : w.heap[(μ i).blk]? = some (.cells cs E fz)) (hn : n = cs.size) :
    Step ρ μ S H w μ S H (w.freeze ⟨(μ i).blk, n, none⟩ 1) := by
  subst hn
  obtain ⟨f1, f2, f3⟩ := freeze_heap hb cs.size
  have hi : ImgM μ H (μ i).blk := ⟨i, _, hg, rfl, rfl⟩
  refine ⟨⟨h.bnd, fun id b hid => ⟨(h.blk id b hid).1, ?_⟩, h.inj⟩, Mu.upto.refl _ _, Ids.le.refl _, fun _ h => .inl h, Nat.le_refl _, rfl, rfl, rfl, Nat.le_of_eq f3.symm, fun k _ hk => f2 k fun e => hk (e ▸ hi), fun _ h => .inl h, fun _ h => .inl h⟩
  have hr := (h.blk id b hid).2
  by_cases he : id = i
  · subst he
    rw [hg] at hid
    cases hid
    obtain ⟨h1, h2⟩ := hr
    refine ⟨h1, ?_⟩
    rcases h2 with h2 | ⟨cs', E', fz', g1, g2, g3, g4⟩
    · exact .inl h2
    · rw [hb] at g1
      cases g1
      exact .inr ⟨cs, E, _, f1, g2, fun hw => thaw_freeze (g3 hw), g4⟩
  · exact hr.keep (fun k hk => f2 k fun e => h.inj i id _ b hg hid (fun q => he q.symm) k ⟨rfl, e.symm⟩ hk) (Mu.upto.refl _ _) (Ids.le.refl _)

theorem run_convBytes (h : Rel ρ μ S H w) (hG : Sub G H) {x : AVal} (hv : convBytes G x = some v) :
    Pure1 ρ μ S P w v (Conv.bytesToString (conc μ ρ x)) := by
  unfold convBytes at hv
  split at hv
  · cases hv
    refine ⟨?_, VR.str⟩
    simp only [Conv.bytesToString, conc, Sem.run_pure]
    rfl
  · rename_i b o len cap
    cases hc : cellsAt G b with
    | none => simp [hc] at hv
    | some q =>
      obtain ⟨l, wr, z⟩ := q
      simp only [hc] at hv
      have hg : H.m.get b = some (.cells l wr z) := hG _ _ (cellsAt_get hc)
      cases hle : Nat.ble (o + len) l.length with
      | false => simp [hle] at hv
      | true =>
        have hle' := Nat.le_of_ble_eq_true hle
        simp only [hle] at hv
        cases hs : bytesOf ((l.drop o).take len) with
        | none => simp [hs, strOf] at hv
        | some s =>
          simp only [hs, strOf, Option.some.injEq] at hv
          subst hv
          obtain ⟨h1, h2⟩ := bytesOf_sound hs
          refine ⟨?_, VR.str⟩
          have hconc : concs μ ρ ((l.drop o).take len) = s.map (fun b => Value.int .u8 (Int.ofNat b)) := by
            rw [h1, concs_eq]; simp [conc]
          have hlen : (concs μ ρ ((l.drop o).take len)).length = len := by rw [concs_length]; simp; omega
          have hl := run_loadCells P (b := (μ b).blk) (o := (μ b).sh + o) (w := w) (concs μ ρ ((l.drop o).take len)) 0 #[] fun j hj => by
            rw [hlen] at hj
            have hj' : o + j < l.length := by omega
            have hc := (h.cell hg (List.getElem?_eq_getElem hj')).1
            rw [show (μ b).sh + o + (0 + j) = (μ b).sh + (o + j) by omega, hc]
            congr 1
            have : (concs μ ρ ((l.drop o).take len))[j]? = some (conc μ ρ l[o + j]) := by
              rw [concs_eq, List.getElem?_map, take_drop_get hj, List.getElem?_eq_getElem hj']; rfl
            rw [List.getElem?_eq_getElem (by rw [hlen]; exact hj)] at this
            exact (Option.some.inj this).symm
          rw [hlen] at hl
          have hcon : ∃ c, conc μ ρ (.slice b o len cap) = .slice (some ⟨(μ b).blk, (μ b).sh + o, none⟩) len c := by cases cap <;> exact ⟨_, rfl⟩
          obtain ⟨c, hcon⟩ := hcon
          rw [hcon]
          simp only [Conv.bytesToString, Sem.run_bind, loadCells, hl, Result.andThen_ok, hconc, Array.empty_append]
          rw [← Array.forIn_toList]
          rw [show (List.map (fun b => Value.int IntKind.u8 (Int.ofNat b)) s).toArray.toList = List.map (fun b => Value.int IntKind.u8 (Int.ofNat b)) s from rfl, run_bytes P w (fun n r => rfl) s .empty]
          simp only [Result.andThen_ok, Sem.run_pure, conc, ByteArray.empty_append]
  · cases hv

theorem conv_run (hK : COK K) (hS : SOK K ρ) (h : Rel ρ μ S H w) (hG : Sub G H) {id : Nat} {src dst : TypeId} {x : AVal} (hx : VR ρ μ S x)
    (hv : convB K G src dst x = some v) :
    NOut ρ μ S H w id v ((convert src dst (conc μ ρ x)).run K.P w) none := by
  unfold convB at hv
  split at hv
  · rename_i d k k' n hs hd
    cases hv
    refine NOut.pure h ⟨?_, VR.int⟩
    simp only [convert, Sem.run_bind, run_und hK hs, run_und hK hd, Result.andThen_ok, conc, Conv.intToInt, Sem.run_pure, fwrap_eq]
  · rename_i d k k' a hs hd
    cases hv
    refine NOut.pure h ⟨?_, VR.sint⟩
    have hw : (wrapT K.gam k a).int ρ = k.wrap (a.int ρ) := by
      unfold wrapT
      split
      · rename_i hk
        have := AllHold.of hS hk
        simp only [Fact.holds] at this
        rw [wrap_in this.1 this.2]
      · rw [int_wrap]
    simp only [convert, Sem.run_bind, run_und hK hs, run_und hK hd, Result.andThen_ok, conc, Conv.intToInt, Sem.run_pure, hw]
  · rename_i s hs hd
    cases hv
    refine NOut.pure h ⟨?_, VR.str⟩
    simp [convert, run_und hK hs, run_und hK hd, conc]
  · rename_i e0 e b o n c hs hd
    split at hv
    · rename_i hu
      have hu := isU8_sound hu
      unfold convSame at hv
      split at hv
      · rename_i l z he hc
        have := Nat.eq_of_beq_eq_true he
        subst this
        cases hv
        have hg : H.m.get b = some (.cells l true z) := hG _ _ (cellsAt_get hc)
        have hcon : ∃ c', conc μ ρ (.slice b o n c) = .slice (some ⟨(μ b).blk, (μ b).sh + o, none⟩) n c' := by cases c <;> exact ⟨_, rfl⟩
        obtain ⟨c', hcon⟩ := hcon
        have hrun : (convert src src (conc μ ρ (.slice b o n c))).run K.P w = ((markStringish ⟨(μ b).blk, (μ b).sh + o, none⟩).run K.P w).andThen fun _ w' => .ok (conc μ ρ (.slice b o n c)) w' := by
          rw [hcon]
          simp only [convert, Sem.run_bind, run_und hK hs, Result.andThen_ok, beq_self_eq_true]
          have : e0 = e := by rw [hs] at hd; cases hd; rfl
          subst this
          simp only [run_und hK hu, Result.andThen_ok, Sem.run_bind, Sem.run_pure]
        rw [hrun]
        obtain ⟨_, _, h2⟩ := h.blk b _ hg
        rcases h2 with ⟨h3, h4⟩ | ⟨cs, E, fz, g1, _⟩
        · cases h3
        · refine ⟨w.freeze ⟨(μ b).blk, cs.size, none⟩ 1, ?_, hx, Step.mark h hg g1 rfl⟩
          simp only [markStringish, Sem.run_bind, run_shape, shape_of g1, Result.andThen_ok, run_freeze]
      · cases hv
    · cases hv
  · rename_i y q1 q2 q3 e hs hd
    split at hv
    · rename_i hu
      have hu := isU8_sound hu
      obtain ⟨g1, g2⟩ := run_convBytes (P := K.P) h hG hv
      refine NOut.pure h ⟨?_, g2⟩
      have hsl : ∃ q, conc μ ρ y = q ∧ (q = .slice none 0 0 ∨ ∃ A n c, q = .slice (some A) n c) := by
        unfold convBytes at hv
        split at hv
        · exact ⟨_, rfl, .inl rfl⟩
        · rename_i c; exact ⟨_, rfl, .inr (by cases c <;> exact ⟨_, _, _, rfl⟩)⟩
        · cases hv
      obtain ⟨q, hq, hcase⟩ := hsl
      rw [hq] at g1 ⊢
      rcases hcase with rfl | ⟨A, n, c, rfl⟩ <;>
        simpa only [convert, Sem.run_bind, run_und hK hs, run_und hK hd, run_und hK hu, Result.andThen_ok] using g1
    · cases hv
  · cases hv

/-! ### Built-in functions -/
theorem concs_one (x : AVal) : concs μ ρ [x] = [conc μ ρ x] := by simp [concs]

/-- What is known of a slice that is known by its data. -/
structure CompR (ρ : Rho) (μ : Mu) (S : Ids) (H : AH) (w : World) (r j : Nat) (c : PComp) (own : Bool) : Prop where
  get : ∃ l, H.m.get r = some (.pack l own) ∧ l[j]? = some c
  mem : S r
  ownd : ∀ k, (μ r).own k → own = true ∧ k < w.heap.size ∧ ¬ (μ r).foot k
  foot : ∀ k, (μ r).foot k → k < w.heap.size
  rel : TRel ρ w (μ r) own c ((μ r).val j)

theorem compAt_rel (h : Rel ρ μ S H w) (hG : Sub G H) {r j : Nat} {c : PComp} {own : Bool} (hc : compAt G r j = some (c, own)) : CompR ρ μ S H w r j c own := by
  unfold compAt at hc
  split at hc
  · rename_i l o hg
    split at hc
    · rename_i c' hn
      cases hc
      have hg' := hG _ _ hg
      obtain ⟨hS, h1, h2, h3⟩ := h.blk r _ hg'
      rw [nth_eq] at hn
      exact ⟨⟨l, hg', hn⟩, hS, h1, h2, h3 j c hn⟩
    · cases hc
  · cases hc

theorem TRel.len {p : Place} {own : Bool} {c : PComp} {q : Option Addr × Nat × Nat} (h : TRel ρ w p own c q) : q.2.1 = (c.t.ev ρ).rows.length := by
  rcases h with ⟨rfl, h⟩ | ⟨b, o, cap, rfl, _⟩
  · simp [h]
  · rfl

theorem int_len (t : Tm) : (lenT t).int ρ = ((t.ev ρ).rows.length : Int) := by simp [lenT, Tm.int, Tm.ev, Tm.evs, BOp.ev, Dat.int, Dat.len]

theorem len_run (hK : COK K) (h : Rel ρ μ S H w) (hG : Sub G H) {t ty : TypeId} {x : AVal} (hv : lenB K G t x = some v) :
    Pure1 ρ μ S K.P w v (Builtin.len_ #[t] ty #[conc μ ρ x]) := by
  unfold lenB at hv
  split at hv
  · rename_i s hu
    cases hv
    exact ⟨by simp [Builtin.len_, run_und hK hu, conc, str8_size, goInt], VR.int⟩
  · rename_i n e hu
    cases hv
    refine ⟨?_, VR.int⟩
    simp only [Builtin.len_, Sem.run_bind, List.getElem?_toArray, List.getElem?_cons_zero, run_und hK hu, Result.andThen_ok, Sem.run_pure, conc]
    rfl
  · rename_i p hu
    split at hv
    · rename_i n e hu2
      cases hv
      refine ⟨?_, VR.int⟩
      simp only [Builtin.len_, Sem.run_bind, List.getElem?_toArray, List.getElem?_cons_zero, run_und hK hu, run_und hK hu2, Result.andThen_ok, Sem.run_pure, conc]
      rfl
    · cases hv
  · rename_i e b o n c hu
    cases hv
    refine ⟨?_, VR.int⟩
    cases c <;> simp [Builtin.len_, run_und hK hu, conc, goInt]
  · rename_i e hu
    cases hv
    exact ⟨by simp [Builtin.len_, run_und hK hu, conc, goInt], VR.int⟩
  · rename_i e r j hu
    split at hv
    · rename_i c own hc
      cases hv
      have hr := compAt_rel h hG hc
      exact ⟨by simp [Builtin.len_, run_und hK hu, conc, hdr, hr.rel.len, int_len, goInt], VR.sint⟩
    · cases hv
  · rename_i kt et hu
    cases hv
    exact ⟨by simp [Builtin.len_, run_und hK hu, conc, goInt], VR.int⟩
  · rename_i kt et r hu
    cases hm : mapAt G r with
    | none => simp [hm] at hv
    | some q =>
      obtain ⟨es, c⟩ := q
      simp only [hm, Option.some.injEq] at hv
      subst hv
      obtain ⟨es', g1, g2, _⟩ := h.map (hG _ _ (mapAt_get hm))
      have hsz : es'.size = es.length := by rw [← Array.length_toList, g2]; simp
      refine ⟨?_, VR.int⟩
      simp only [Builtin.len_, Sem.run_bind, List.getElem?_toArray, List.getElem?_cons_zero, run_und hK hu, Result.andThen_ok, conc, Go.MapKept.run_getObj_map g1, Sem.run_pure, hsz]
      rfl
  · cases hv

theorem cap_run (hK : COK K) {t ty : TypeId} {x : AVal} (hv : capB K t x = some v) : Pure1 ρ μ S K.P w v (Builtin.cap_ #[t] ty #[conc μ ρ x]) := by
  unfold capB at hv
  split at hv
  · rename_i e b o n c hu
    cases hv
    exact ⟨by simp [Builtin.cap_, run_und hK hu, conc, goInt], VR.int⟩
  · rename_i e hu
    cases hv
    exact ⟨by simp [Builtin.cap_, run_und hK hu, conc, goInt], VR.int⟩
  · cases hv

theorem maxS_run {g : List Fact} (hS : AllHold ρ g) {k k' : IntKind} {a b : Tm} {x y v : AVal} (hx : conc μ ρ x = .int k (a.int ρ)) (hy : conc μ ρ y = .int k' (b.int ρ)) (vx : VR ρ μ S x) (vy : VR ρ μ S y)
    (h : maxS g k k' a b x y = some v) : (Builtin.max2 (conc μ ρ x) (conc μ ρ y)).run P w = .ok (conc μ ρ v) w ∧ VR ρ μ S v := by
  unfold maxS at h
  split at h
  · rename_i hk
    have := keq_iff.1 hk
    subst this
    unfold pickT at h
    split at h
    · rename_i hc
      cases h
      have := cmpT_geq hS hc
      simp only [decide_eq_true_eq] at this
      refine ⟨?_, vx⟩
      simp only [hx, hy, Builtin.max2, Sem.run_pure]
      rw [if_neg (by omega)]
    · rename_i hc
      cases h
      have := cmpT_geq hS hc
      simp only [decide_eq_false_iff_not] at this
      refine ⟨?_, vy⟩
      simp only [hx, hy, Builtin.max2, Sem.run_pure]
      rw [if_pos (by omega)]
    · cases h
  · cases h
theorem minS_run {g : List Fact} (hS : AllHold ρ g) {k k' : IntKind} {a b : Tm} {x y v : AVal} (hx : conc μ ρ x = .int k (a.int ρ)) (hy : conc μ ρ y = .int k' (b.int ρ)) (vx : VR ρ μ S x) (vy : VR ρ μ S y)
    (h : minS g k k' a b x y = some v) : (Builtin.min2 (conc μ ρ x) (conc μ ρ y)).run P w = .ok (conc μ ρ v) w ∧ VR ρ μ S v := by
  unfold minS at h
  split at h
  · rename_i hk
    have := keq_iff.1 hk
    subst this
    unfold pickT at h
    split at h
    · rename_i hc
      cases h
      have := cmpT_leq hS hc
      simp only [decide_eq_true_eq] at this
      refine ⟨?_, vx⟩
      simp only [hx, hy, Builtin.min2, Sem.run_pure]
      rw [if_neg (by omega)]
    · rename_i hc
      cases h
      have := cmpT_leq hS hc
      simp only [decide_eq_false_iff_not] at this
      refine ⟨?_, vy⟩
      simp only [hx, hy, Builtin.min2, Sem.run_pure]
      rw [if_pos (by omega)]
    · cases h
  · cases h

theorem max2_run (hS : SOK K ρ) {x y v : AVal} (h : maxB K x y = some v) : (Builtin.max2 (conc μ ρ x) (conc μ ρ y)).run P w = .ok (conc μ ρ v) w ∧ VR ρ μ S v := by
  unfold maxB at h
  split at h
  · rename_i k a k' b
    split at h
    · rename_i hk
      have := keq_iff.1 hk
      subst this
      cases h
      refine ⟨?_, VR.int⟩
      simp only [Builtin.max2, conc, Sem.run_pure]
      congr 2
      cases hl : ile b a with
      | true => have := ile_iff.1 hl; rw [if_neg (by omega)]
      | false => have := ile_not.1 hl; rw [if_pos (by omega)]
    · cases h
  · exact maxS_run hS (by simp [conc]) (by simp [conc, int_lit]) VR.sint VR.int h
  · exact maxS_run hS (by simp [conc, int_lit]) (by simp [conc]) VR.int VR.sint h
  · exact maxS_run hS (by simp [conc]) (by simp [conc]) VR.sint VR.sint h
  · cases h

theorem min2_run (hS : SOK K ρ) {x y v : AVal} (h : minB K x y = some v) : (Builtin.min2 (conc μ ρ x) (conc μ ρ y)).run P w = .ok (conc μ ρ v) w ∧ VR ρ μ S v := by
  unfold minB at h
  split at h
  · rename_i k a k' b
    split at h
    · rename_i hk
      have := keq_iff.1 hk
      subst this
      cases h
      refine ⟨?_, VR.int⟩
      simp only [Builtin.min2, conc, Sem.run_pure]
      congr 2
      cases hl : ile a b with
      | true => have := ile_iff.1 hl; rw [if_neg (by omega)]
      | false => have := ile_not.1 hl; rw [if_pos (by omega)]
    · cases h
  · exact minS_run hS (by simp [conc]) (by simp [conc, int_lit]) VR.sint VR.int h
  · exact minS_run hS (by simp [conc, int_lit]) (by simp [conc]) VR.int VR.sint h
  · exact minS_run hS (by simp [conc]) (by simp [conc]) VR.sint VR.sint h
  · cases h

theorem fold_run {f : AVal → AVal → Option AVal} {g : Value → Value → Sem Value} (hf : ∀ x y v, f x y = some v → (g (conc μ ρ x) (conc μ ρ y)).run P w = .ok (conc μ ρ v) w ∧ VR ρ μ S v) :
    ∀ (l : List AVal) (x v : AVal), VR ρ μ S x → foldB f x l = some v → ((concs μ ρ l).foldlM g (conc μ ρ x)).run P w = .ok (conc μ ρ v) w ∧ VR ρ μ S v
  | [], x, v, hx, h => by simp [foldB] at h; subst h; exact ⟨by simp [concs], hx⟩
  | y :: l, x, v, hx, h => by
    simp only [foldB] at h
    cases hy : f x y with
    | none => simp [hy] at h
    | some z =>
      simp only [hy] at h
      obtain ⟨h1, h2⟩ := hf x y z hy
      obtain ⟨h3, h4⟩ := fold_run hf l z v h2 h
      exact ⟨by simp only [concs, List.foldlM_cons, Sem.run_bind, h1, Result.andThen_ok, h3], h4⟩

/-! ### An entry that was stepped to -/
theorem backL_eq : ∀ (l : List Nat), backL l = l.getLast?
  | [] => rfl
  | [a] => rfl
  | a :: b :: l => by simp only [backL]; rw [backL_eq (b :: l)]; simp

theorem bornB_sound {n : Nat} : ∀ {es : List AEnt} {e : AEnt}, bornB n es = some e → (es.map (entC μ ρ)).find? (·.born == n) = some (entC μ ρ e) ∧ e ∈ es
  | [], e, h => by simp [bornB] at h
  | x :: es, e, h => by
    unfold bornB at h
    cases hb : Nat.beq x.born n with
    | true =>
      simp only [hb, Option.some.injEq] at h
      subst h
      have : (entC μ ρ x).born = n := Nat.eq_of_beq_eq_true hb
      exact ⟨by simp [this], .head _⟩
    | false =>
      simp only [hb] at h
      obtain ⟨h1, h2⟩ := bornB_sound h
      have : ¬ ((entC μ ρ x).born = n) := Nat.ne_of_beq_eq_false hb
      exact ⟨by simp [this]; simpa using h1, .tail _ h2⟩

theorem entry_run (h : Rel ρ μ S H w) (hG : Sub G H) {x : AVal} (hv : vEntry G (some x) = some v) : Pure1 ρ μ S P w v (Instr.entry (conc μ ρ x)) := by
  unfold vEntry at hv
  split at hv
  · rename_i r he
    cases he
    split at hv
    · rename_i mm since seen st hg
      cases hm : mapAt G mm with
      | none => simp [hm, entB] at hv
      | some q =>
        obtain ⟨es, c⟩ := q
        simp only [hm, entB] at hv
        split at hv
        · rename_i s hs hc
          have := Nat.eq_of_beq_eq_true hc
          subst this
          cases hb : bornB s es with
          | none => simp [hb] at hv
          | some e =>
            simp only [hb, Option.some.injEq] at hv
            subst hv
            obtain ⟨_, hsh, hr, hit⟩ := h.blk r _ (hG _ _ hg)
            obtain ⟨es', g1, g2, g3, _⟩ := h.map (hG _ _ (mapAt_get hm))
            obtain ⟨f1, f2⟩ := bornB_sound (μ := μ) (ρ := ρ) hb
            refine ⟨?_, VR.tuple (VRs.cons (g3 e f2).1 (VRs.cons (g3 e f2).2 VRs.nil))⟩
            have hback : seen.toArray.back? = some s := by rw [backL_eq] at hs; simpa using hs
            have hfind : es'.find? (·.born == s) = some (entC μ ρ e) := by rw [← Array.find?_toList, g2]; exact f1
            have hobj : (getObj (μ r).blk).run P w = .ok (.mapIter (some (μ mm).blk) since seen.toArray c) w := by simp [getObj, Sem.run, hit]
            simp only [Instr.entry, conc, hsh, Nat.add_zero, Sem.run_bind, hobj, Result.andThen_ok, hback, Go.MapKept.run_getObj_map g1, bne_self_eq_false, Bool.false_eq_true, if_false, hfind, Sem.run_pure]
            simp [concs, entC]
        · cases hv
    · cases hv
  · cases hv
end
end Go.Eng
