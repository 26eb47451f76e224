/- The engine, twenty-second part: stages. -/
import Derived.Test.YtkpobofljnokaaaGreatEng21
namespace Go.Eng
section
variable {K : Cfg} {ρ : Rho} {ops : List Oper} {its : List Item} {p : Plan} {m : PM AVal} {base : Nat} {s s' s'' : DS}

structure Mono (s s' : DS) : Prop where
  vals : ∀ i v, s.vals.get i = some v → s'.vals.get i = some v
  pend : ∀ q, q ∈ s.pend → q ∈ s'.pend
  fresh : ∀ i b, (i, b) ∈ s'.pend → (i, b) ∈ s.pend ∨ s.vals.get i = none
  H : s'.H = s.H
  dn : s'.dn = s.dn
  fix : s'.fix = s.fix

theorem Mono.refl (s : DS) : Mono s s := ⟨fun _ _ h => h, fun _ h => h, fun _ _ h => .inl h, rfl, rfl, rfl⟩
theorem Mono.trans (h : Mono s s') (k : Mono s' s'') : Mono s s'' where
  vals := fun i v hv => k.vals i v (h.vals i v hv)
  pend := fun q hq => k.pend q (h.pend q hq)
  fresh := fun i b hb => by
    rcases k.fresh i b hb with h1 | h1
    · exact h.fresh i b h1
    · right
      cases hv : s.vals.get i with
      | none => rfl
      | some v => rw [h.vals i v hv] at h1; cases h1
  H := k.H.trans h.H
  dn := k.dn.trans h.dn
  fix := k.fix.trans h.fix

theorem lookB_mono {vals vals' : PM AVal} {it : Item} (h : ∀ i v, vals.get i = some v → vals'.get i = some v) (x : Operand) (v : AVal) (hl : lookB p m vals it x = some v) : lookB p m vals' it x = some v := by
  cases x <;> simp only [lookB] at hl ⊢ <;> try exact hl
  split at hl
  · exact hl
  · split at hl
    · exact h _ _ hl
    · exact hl

theorem partsB_mono {r r' : Operand → Option AVal} (h : ∀ x v, r x = some v → r' x = some v) : ∀ (l : List (Nat × Operand)) (y : List (Nat × AVal)), partsB r l = some y → partsB r' l = some y
  | [], y, hy => hy
  | (i, x) :: l, y, hy => by
    unfold partsB at hy ⊢
    split at hy
    · rename_i v hv
      split at hy
      · rename_i q hq
        rw [h x v hv, partsB_mono h l q hq]; exact hy
      · cases hy
    · cases hy

theorem packB_plain {own : Bool} {l : List PComp} {b : ABlk} (h : packB own l = some b) : b.plain = false := by
  cases l with
  | nil => cases h
  | cons c l => simp only [packB, Option.some.injEq] at h; subst h; rfl

theorem blkB_plain {r r' : Operand → Option AVal} (h : ∀ x v, r x = some v → r' x = some v) {H1 H2 : AH} {id : Nat} {o : Oper} {v : AVal} {ob : Option ABlk} {b : ABlk} (hb : blkB K H1 id r o v = some ob)
    (hb2 : blkB K H2 id r' o v = some (some b)) (hp : b.plain = true) : ob = some b := by
  have key : blkB K H1 id r o v = some (some b) := by
    unfold blkB at hb hb2 ⊢
    split at hb2 <;> (try exact hb2)
    · rename_i t x ho
      rw [ho] at hb
      simp only at hb ⊢
      cases hx : r x with
      | none => rw [hx] at hb; cases hb
      | some y => rw [h x y hx] at hb2; exact hb2
    · rename_i t n ps ho
      rw [ho] at hb
      simp only at hb ⊢
      cases hx : partsB r ps.toList with
      | none => rw [hx] at hb; cases hb
      | some y => rw [partsB_mono h _ _ hx] at hb2; exact hb2
    · rename_i t l c ho
      by_cases hv : ∃ a b, v = .ref a b
      · obtain ⟨a, b', rfl⟩ := hv
        simp only [bMakeSlice2] at hb2
        unfold bOwn at hb2
        split at hb2
        · simp only [Option.some.injEq] at hb2; subst hb2; cases hp
        · cases hb2
      · have e : ∀ x y, bMakeSlice2 K t v x y = bMakeSlice K t v := by
          intro x y
          cases v <;> first | rfl | exact absurd ⟨_, _, rfl⟩ hv
        rw [e] at hb2 ⊢
        exact hb2
    · rename_i t x lo hi mx ho
      unfold bSlice2 at hb2 ⊢
      split at hb2
      · unfold bCut at hb2
        split at hb2
        · simp only [Option.some.injEq] at hb2; subst hb2; cases hp
        · cases hb2
      · rename_i hne
        split
        · rename_i rr j hx
          exact absurd (h _ _ hx) (hne _ _)
        · exact hb2
    · rename_i t a ho
      unfold bLoad at hb2
      split at hb2
      · unfold bElem at hb2
        split at hb2
        · simp only [Option.some.injEq] at hb2
          rw [packB_plain hb2] at hp; cases hp
        · cases hb2
      · cases hb2
  rw [key] at hb
  simpa using hb.symm

theorem pcEqs_eq : ∀ (a b : List PComp), pcEqs a b = true → a = b
  | [], [], _ => rfl
  | ⟨s, t, f⟩ :: l, ⟨s', t', f'⟩ :: r, h => by
    simp only [pcEqs] at h
    split at h
    · rename_i h1 h2 h3
      rw [shEqs_eq _ _ h1, teq_eq _ _ h2, pcEqs_eq l r h]
      rw [beq2_eq] at h3
      simp at h3
      rw [h3]
    · cases h
  | [], _ :: _, h => by simp [pcEqs] at h
  | ⟨_, _, _⟩ :: _, [], h => by simp [pcEqs] at h

theorem findP_some {i : Nat} {b : ABlk} : ∀ {l : List (Nat × ABlk)}, findP i l = some b → (i, b) ∈ l
  | [], h => by cases h
  | (j, c) :: l, h => by
    unfold findP at h
    split at h
    · rename_i hb; cases h; rw [Nat.eq_of_beq_eq_true hb]; exact .head _
    · exact .tail _ (findP_some h)
theorem findP_none {i : Nat} : ∀ {l : List (Nat × ABlk)}, findP i l = none → ∀ b, (i, b) ∉ l
  | [], _, b, h => by cases h
  | (j, c) :: l, hn, b, h => by
    unfold findP at hn
    split at hn
    · cases hn
    · rename_i hb
      cases h with
      | head => simp at hb
      | tail _ h => exact findP_none hn b h

theorem wantD_mono {vals vals' : PM AVal} {it : Item} (h : ∀ i v, vals.get i = some v → vals'.get i = some v) {b : Bool} (hw : wantD ops vals it = some b) : wantD ops vals' it = some b := by
  unfold wantD at hw ⊢
  split at hw
  · exact hw
  · rename_i j w hg
    split at hw
    · rename_i hb
      split at hw
      · rename_i oj hj
        split at hw
        · split at hw
          · rename_i c hv; rw [h _ _ hv]; exact hw
          · rename_i hv; rw [h _ _ hv]; exact hw
          · cases hw
        · cases hw
      · cases hw
    · cases hw

/-- How a value came to be. -/
def Ev (K : Cfg) (ops : List Oper) (p : Plan) (m : PM AVal) (base : Nat) (s : DS) (i : Nat) (it : Item) (v : AVal) : Prop :=
  ∃ vals1 : PM AVal, (∀ j x, vals1.get j = some x → s.vals.get j = some x) ∧
    ((wantD ops vals1 it = some true ∧ ∃ H1 ob, blkB K H1 (base + i) (lookB p m vals1 it) it.o v = some ob ∧ ∀ b, (i, b) ∈ s.pend ↔ ob = some b) ∨ (wantD ops vals1 it = some false ∧ ∀ b, (i, b) ∉ s.pend))

structure WS (K : Cfg) (ops : List Oper) (p : Plan) (m : PM AVal) (base : Nat) (s : DS) : Prop where
  ev : ∀ (i : Nat) (it : Item) v, p.items[i]? = some it → it.eff = false → s.vals.get i = some v → Nat.testBit s.fix i = false → Ev K ops p m base s i it v
  uniq : ∀ i b c, (i, b) ∈ s.pend → (i, c) ∈ s.pend → b = c
  val : ∀ i b, (i, b) ∈ s.pend → (∃ v, s.vals.get i = some v) ∧ i < ops.length

theorem Ev.mono {i : Nat} {it : Item} {v : AVal} (h : Ev K ops p m base s i it v) (hv : ∀ j x, s.vals.get j = some x → s'.vals.get j = some x) (hp : ∀ b, (i, b) ∈ s'.pend ↔ (i, b) ∈ s.pend) : Ev K ops p m base s' i it v := by
  obtain ⟨vals1, h1, h2⟩ := h
  refine ⟨vals1, fun j x hj => hv _ _ (h1 _ _ hj), ?_⟩
  rcases h2 with ⟨h2, H1, ob, h3, h4⟩ | ⟨h2, h3⟩
  · exact .inl ⟨h2, H1, ob, h3, fun b => (hp b).trans (h4 b)⟩
  · exact .inr ⟨h2, fun b hb => h3 b ((hp b).1 hb)⟩

theorem set_vals {i : Nat} {v : AVal} (hi : i < 1073741823) (hn : s.vals.get i = none) : ∀ j x, s.vals.get j = some x → (s.vals.set i (some v)).get j = some x := by
  intro j x hj
  rw [PM.get_set_all hi, if_neg (fun e => by subst e; rw [hn] at hj; cases hj)]; exact hj

/-- One operation in a stage. -/
theorem doD_sound (hI : Items ops p.items) (hn : ops.length < 1073741823) (hW : WS K ops p m base s) {it : Item} {i : Nat} (hi : p.items[i]? = some it) (hie : it.eff = false) (hif : Nat.testBit s.fix i = false) (hd : doD K ops p m base it s = some s') :
    Mono s s' ∧ WS K ops p m base s' ∧ ∃ v, s'.vals.get i = some v ∧
      ((wantD ops s.vals it = some true ∧ valB K (withP s.H base it.bf s.pend) (base + i) (lookB p m s.vals it) it.o = some v ∧ ∃ ob, blkB K (withP s.H base it.bf s.pend) (base + i) (lookB p m s.vals it) it.o v = some ob ∧ ∀ b, (i, b) ∈ s'.pend ↔ ob = some b) ∨
       (wantD ops s.vals it = some false ∧ v = .undef ∧ ∀ b, (i, b) ∉ s'.pend)) := by
  have hii := (hI.op _ _ hi).1
  have hlt : i < ops.length := by rw [← hI.len]; exact (List.getElem?_eq_some_iff.1 hi).1
  have setOK : ∀ v, s.vals.get i = none → Ev K ops p m base s i it v → Mono s (s.set i v) ∧ WS K ops p m base (s.set i v) ∧ (s.set i v).vals.get i = some v := by
    intro v hnone hev
    have hv := set_vals (v := v) (s := s) (by omega : i < 1073741823) hnone
    refine ⟨⟨hv, fun _ h => h, fun _ _ h => .inl h, rfl, rfl, rfl⟩, ⟨fun j jt x hj he hx hf => ?_, hW.uniq, fun j b hb => ?_⟩, ?_⟩
    · simp only [DS.set, PM.get_set_all (show i < 1073741823 by omega)] at hx
      split at hx
      · rename_i e; subst e; rw [hi] at hj; cases hj; cases hx
        exact hev.mono hv fun _ => Iff.rfl
      · exact (hW.ev j jt x hj he hx hf).mono hv fun _ => Iff.rfl
    · obtain ⟨⟨x, hx⟩, hl⟩ := hW.val j b hb
      exact ⟨⟨x, hv _ _ hx⟩, hl⟩
    · simp only [DS.set, PM.get_set_all (show i < 1073741823 by omega), if_true]
  have hnot : s.vals.get i = none → ∀ c, (i, c) ∉ s.pend := fun hnone c hc => by
    obtain ⟨⟨x, hx⟩, _⟩ := hW.val i c hc
    rw [hnone] at hx; cases hx
  unfold doD at hd
  rw [hii] at hd
  split at hd
  · rename_i hw
    unfold valD at hd
    split at hd
    · rename_i v hv
      unfold agreeD at hd
      rw [hii] at hd
      split at hd
      · rename_i v' hv'
        split at hd
        · rename_i ha hsd
          cases hd
          have := aeq_sound _ _ ha
          subst this
          refine ⟨Mono.refl _, hW, _, hv', .inl ⟨hw, hv, ?_⟩⟩
          obtain ⟨vals1, h1, h2⟩ := hW.ev i it _ hi hie hv' hif
          rcases h2 with ⟨_, H1, ob, h3, h4⟩ | ⟨h2, _⟩
          · have hmem : ∀ b, (i, b) ∈ s.pend → ∀ c, (i, c) ∈ s.pend ↔ some b = some c := fun b hb c => ⟨fun hc => by rw [hW.uniq _ _ _ hb hc], fun e => by cases e; exact hb⟩
            unfold sameD at hsd
            split at hsd
            · rename_i q1 q2
              exact ⟨none, q1, fun b => ⟨fun hb => absurd hb (findP_none q2 b), fun e => by cases e⟩⟩
            · rename_i l o l' o' q1 q2
              split at hsd
              · rename_i q3
                rw [beq2_eq] at q3
                simp at q3
                have := pcEqs_eq _ _ hsd
                subst this; subst q3
                exact ⟨_, q1, hmem _ (findP_some q2)⟩
              · cases hsd
            · cases hsd
            · cases hsd
            · rename_i b c n1 n2 n3 q1 q2
              have hpl : b.plain = true := by
                cases b with
                | pack l o => exact absurd rfl (n2 l o)
                | obj t d m => exact absurd rfl (n3 t d m)
                | _ => rfl
              exact ⟨some b, q1, fun d => by rw [h4 d, blkB_plain (fun x y => lookB_mono h1 x y) h3 q1 hpl]⟩
            · cases hsd
          · have := wantD_mono (ops := ops) h1 h2
            rw [hw] at this; cases this
        · cases hd
      · rename_i hnone
        unfold newD at hd
        split at hd
        · rename_i hb
          cases hd
          have hno : ∀ b, (i, b) ∈ s.pend ↔ (none : Option ABlk) = some b := fun b => ⟨fun h => absurd h (hnot hnone b), fun h => by cases h⟩
          obtain ⟨h1, h2, h3⟩ := setOK v hnone ⟨s.vals, fun _ _ h => h, .inl ⟨hw, _, _, hb, hno⟩⟩
          exact ⟨h1, h2, v, h3, .inl ⟨hw, hv, _, hb, hno⟩⟩
        · rename_i b hb
          cases hd
          have hv2 := set_vals (v := v) (s := s) (by omega : i < 1073741823) hnone
          have hiff : ∀ c, (i, c) ∈ (s.setP i v b).pend ↔ some b = some c := fun c => by
            simp only [DS.setP, List.mem_cons, Prod.mk.injEq, true_and, Option.some.injEq]
            exact ⟨fun h => h.elim Eq.symm fun h => absurd h (hnot hnone c), fun h => .inl h.symm⟩
          refine ⟨⟨hv2, fun q hq => .tail _ hq, fun j c hj => ?_, rfl, rfl, rfl⟩, ⟨fun j jt x hj he hx hf => ?_, fun j c d hc hd => ?_, fun j c hc => ?_⟩, v, ?_, .inl ⟨hw, hv, _, hb, hiff⟩⟩
          · simp only [DS.setP, List.mem_cons, Prod.mk.injEq] at hj
            rcases hj with ⟨rfl, _⟩ | hj
            · exact .inr hnone
            · exact .inl hj
          · simp only [DS.setP, PM.get_set_all (show i < 1073741823 by omega)] at hx
            split at hx
            · rename_i e; subst e; rw [hi] at hj; cases hj; cases hx
              exact ⟨s.vals, hv2, .inl ⟨hw, _, _, hb, hiff⟩⟩
            · rename_i hne
              refine (hW.ev j jt x hj he hx hf).mono hv2 fun c => ?_
              simp only [DS.setP, List.mem_cons, Prod.mk.injEq]
              exact ⟨fun h => h.elim (fun h => absurd h.1 hne) id, .inr⟩
          · simp only [DS.setP, List.mem_cons, Prod.mk.injEq] at hc hd
            rcases hc with ⟨h1, h2⟩ | hc <;> rcases hd with ⟨h3, h4⟩ | hd
            · rw [h2, h4]
            · subst h1; exact absurd hd (hnot hnone _)
            · subst h3; exact absurd hc (hnot hnone _)
            · exact hW.uniq _ _ _ hc hd
          · simp only [DS.setP, List.mem_cons, Prod.mk.injEq] at hc
            rcases hc with ⟨rfl, rfl⟩ | hc
            · exact ⟨⟨v, by simp only [DS.setP, PM.get_set_all (show j < 1073741823 by omega), if_true]⟩, hlt⟩
            · obtain ⟨⟨x, hx⟩, hl⟩ := hW.val j c hc
              exact ⟨⟨x, hv2 _ _ hx⟩, hl⟩
          · simp only [DS.setP, PM.get_set_all (show i < 1073741823 by omega), if_true]
        · cases hd
    · cases hd
  · rename_i hw
    unfold leaveD at hd
    split at hd
    · rename_i hv
      cases hd
      refine ⟨Mono.refl _, hW, _, hv, .inr ⟨hw, rfl, ?_⟩⟩
      obtain ⟨vals1, h1, h2⟩ := hW.ev i it _ hi hie hv hif
      rcases h2 with ⟨h2, _⟩ | ⟨_, h3⟩
      · have := wantD_mono (ops := ops) h1 h2
        rw [hw] at this; cases this
      · exact h3
    · rename_i hnone
      cases hd
      obtain ⟨h1, h2, h3⟩ := setOK .undef hnone ⟨s.vals, fun _ _ h => h, .inr ⟨hw, hnot hnone⟩⟩
      exact ⟨h1, h2, _, h3, .inr ⟨hw, rfl, hnot hnone⟩⟩
    · cases hd
  · cases hd

theorem nowD_mono {it : Item} (h : Mono s s') : nowD p it s' = nowD p it s := by
  unfold nowD; rw [h.dn, h.fix]

theorem nowD_not {it : Item} (h : nowD p it s = true) : it.eff = false ∧ Nat.testBit s.fix it.i = false := by
  unfold nowD at h
  split at h
  · cases h
  · split at h
    · cases h
    · exact ⟨by assumption, by assumption⟩

theorem stage_sound (hI : Items ops p.items) (hn : ops.length < 1073741823) : ∀ (l : List Item) (s s' : DS), (∀ it ∈ l, it ∈ p.items) → WS K ops p m base s → stageB K ops p m base l s = some s' →
    Mono s s' ∧ WS K ops p m base s' ∧ ∀ it ∈ l, nowD p it s = true → ∃ sa sb, Mono s sa ∧ WS K ops p m base sa ∧ doD K ops p m base it sa = some sb ∧ Mono sb s'
  | [], s, s', _, hW, h => by
    simp only [stageB, Option.some.injEq] at h
    subst h
    exact ⟨Mono.refl _, hW, by simp⟩
  | x :: l, s, s', hl, hW, h => by
    unfold stageB at h
    split at h
    · rename_i hx
      split at h
      · rename_i s1 hd
        obtain ⟨i, hi⟩ := List.getElem?_of_mem (hl x (.head _))
        obtain ⟨hx1, hx2⟩ := nowD_not hx
        rw [(hI.op _ _ hi).1] at hx2
        obtain ⟨h1, h2, _⟩ := doD_sound hI hn hW hi hx1 hx2 hd
        obtain ⟨g1, g2, g3⟩ := stage_sound hI hn l s1 s' (fun it hit => hl it (.tail _ hit)) h2 h
        refine ⟨h1.trans g1, g2, fun it hit hnow => ?_⟩
        cases hit with
        | head => exact ⟨s, s1, Mono.refl _, hW, hd, g1⟩
        | tail _ hit =>
          obtain ⟨sa, sb, q1, q2, q3, q4⟩ := g3 it hit (by rw [nowD_mono h1]; exact hnow)
          exact ⟨sa, sb, h1.trans q1, q2, q3, q4⟩
      · cases h
    · rename_i hx
      obtain ⟨g1, g2, g3⟩ := stage_sound hI hn l s s' (fun it hit => hl it (.tail _ hit)) hW h
      refine ⟨g1, g2, fun it hit hnow => ?_⟩
      cases hit with
      | head => rw [hx] at hnow; cases hnow
      | tail _ hit => exact g3 it hit hnow
end
end Go.Eng
