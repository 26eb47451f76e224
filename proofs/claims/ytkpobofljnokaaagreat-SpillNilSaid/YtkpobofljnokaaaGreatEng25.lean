/- The engine, twenty-fifth part: regions that draw their order: each step. -/
import Derived.Test.YtkpobofljnokaaaGreatEng24
namespace Go.Eng
section
variable {K : Cfg} {ρ : Rho} {ops : List Oper} {p : Plan} {e : Env} {base : Nat} {μ0 μ : Mu} {S0 S : Ids} {H0 : AH} {w0 w : World} {D D' : Nat → Bool} {s s' st : DS} {a : Act} {it : Item} {i : Nat} {F : Fence} {rec : Rec}
  {Q : Exit → Act → World → Prop} {next : Act → World → Prop}

theorem Inv.now (R : RegOK ops p e base) (hM : Mono s st) (h : Inv ρ ops p e base μ0 S0 H0 w0 D st μ S w a) (hi : p.items[i]? = some it) (he : it.eff = false) (hD : D i = false)
    (hr : ∀ ed ∈ it.o.after.toList, Region.binds .any ed = true → D ed.on = true) : nowD p it s = true := by
  have hbf := bf_closed R.hI h.closed i it hi hr
  have hii := (R.hI.op _ _ hi).1
  unfold nowD
  rw [he]
  have hfx : Nat.testBit s.fix it.i = false := by
    cases hf : Nat.testBit s.fix it.i with
    | false => rfl
    | true => have := h.fix it.i (by rw [hM.fix]; exact hf); rw [hii, hD] at this; cases this
  rw [hfx]
  have : Nat.land (Nat.land it.bf p.effs) s.dn = Nat.land it.bf p.effs := by
    apply Nat.eq_of_testBit_eq
    intro j
    rw [land_test, land_test]
    cases hb : Nat.testBit it.bf j with
    | false => simp
    | true =>
      cases hf : Nat.testBit p.effs j with
      | false => simp
      | true =>
        rw [R.effs] at hf
        obtain ⟨jt, g1, g2, rfl⟩ := (effMask_test _ _).1 hf
        have := (h.dn jt.i jt (R.at g1) g2).1 (hbf _ hb)
        rw [hM.dn] at this
        simp [this]
  rw [this]
  exact Nat.beq_refl _

/-- What was known ahead is known still. -/
theorem Inv.sub (R : RegOK ops p e base) (hWst : WS K ops p e.m base st) (h : Inv ρ ops p e base μ0 S0 H0 w0 D st μ S w a) {bf : Nat} (hbf : ∀ j, Nat.testBit bf j = true → D j = true)
    {H : AH} (hH : H = st.H) {l : List (Nat × ABlk)} (hl : ∀ q, q ∈ l → q ∈ st.pend) : Sub (withP H base bf l) (withQ st.H base D st.pend) := by
  subst hH
  have hb : ∀ i b, (i, b) ∈ st.pend → base + i < 1073741823 := fun i b hm => by have := (hWst.val i b hm).2; have := R.bnd; omega
  intro id c hc
  rw [withP_eq] at hc
  rcases withQ_cases l id c (fun i b hm => hb i b (hl _ hm)) hc with ⟨j, h1, h2, rfl⟩ | ⟨h1, h2⟩
  · exact withQ_mem _ j c hb hWst.uniq (hl _ h1) (hbf _ h2)
  · rw [withQ_out _ id hb fun j b hm hDj he => ?_]
    · exact h2
    · subst he; rw [h.clean j b hm] at h2; cases h2

theorem value_step (hK : COK K) (hS : SOK K ρ) (hrec : RecOK K ρ rec) {b : Bool} (hF : FOK F b) (R : RegOK ops p e base) (h0 : H0.next = base) (hW : WS K ops p e.m base s) (hst : stageB K ops p e.m base p.items s = some st)
    (h : Inv ρ ops p e base μ0 S0 H0 w0 D st μ S w a) (hi : p.items[i]? = some it) (he : it.eff = false) (hD : D i = false) (hr : ∀ ed ∈ it.o.after.toList, Region.binds .any ed = true → D ed.on = true)
    (hD' : ∀ j, D' j = (D j || decide (j = i))) (hnext : ∀ μ' S' a' w', Inv ρ ops p e base μ0 S0 H0 w0 D' st μ' S' w' a' → next a' w') : wpOpIn F 0 K.P ops.toArray Q i next a w := by
  have hlen : ops.length < 1073741823 := by have := R.bnd; omega
  obtain ⟨hM, hWst, hall⟩ := stage_sound R.hI hlen p.items s st (fun _ h => h) hW hst
  obtain ⟨sa, sb, m1, hWa, hdo, m2⟩ := hall it (List.mem_of_getElem? hi) (h.now R hM hi he hD hr)
  obtain ⟨hii, hop, heff⟩ := R.hI.op _ _ hi
  have hlt : i < ops.length := (List.getElem?_eq_some_iff.1 hop).1
  have hfa : Nat.testBit sa.fix i = false := by
    cases hf : Nat.testBit sa.fix i with
    | false => rfl
    | true => have := h.fix i (by rw [hM.fix, ← m1.fix]; exact hf); rw [hD] at this; cases this
  obtain ⟨m3, hWb, v, hv, hcase⟩ := doD_sound R.hI hlen hWa hi he hfa hdo
  have hbf := bf_closed R.hI h.closed i it hi hr
  have hvals : ∀ j x, sa.vals.get j = some x → st.vals.get j = some x := fun j x hj => m2.vals _ _ (m3.vals _ _ hj)
  have hvst : st.vals.get i = some v := m2.vals _ _ hv
  have hpend : ∀ bb, (i, bb) ∈ st.pend ↔ (i, bb) ∈ sb.pend := fun bb => by
    refine ⟨fun hm => ?_, fun hm => m2.pend _ hm⟩
    rcases m2.fresh i bb hm with g | g
    · exact g
    · rw [hv] at g; cases g
  have hb : ∀ i b, (i, b) ∈ st.pend → base + i < 1073741823 := fun i b hm => by have := (hWst.val i b hm).2; have := R.bnd; omega
  have hcl : ∀ (k : Nat) (kt : Item), p.items[k]? = some kt → D' k = true → ∀ ed ∈ kt.o.after.toList, Region.binds .any ed = true → D' ed.on = true := by
    intro k kt hk hDk ed hed hbd
    rw [hD'] at hDk ⊢
    by_cases hki : k = i
    · subst hki; rw [hi] at hk; cases hk; rw [hr ed hed hbd]; rfl
    · simp [hki] at hDk; rw [h.closed k kt hk hDk ed hed hbd]; rfl
  have hlt' : ∀ j, D' j = true → j < ops.length := fun j hj => by
    rw [hD'] at hj; simp at hj
    rcases hj with hj | rfl
    · exact h.lt j hj
    · exact hlt
  have hdn : ∀ (k : Nat) (kt : Item), p.items[k]? = some kt → kt.eff = true → (D' k = true ↔ Nat.testBit st.dn k = true) := by
    intro k kt hk hke
    rw [hD', ← h.dn k kt hk hke]
    have : k ≠ i := fun q => by subst q; rw [hi] at hk; cases hk; rw [he] at hke; cases hke
    simp [this]
  have hfx : ∀ j, Nat.testBit st.fix j = true → D' j = true := fun j hj => by rw [hD', h.fix j hj]; rfl
  have nopend : (∀ bb, (i, bb) ∉ st.pend) → ∀ id c, (withQ st.H base D' st.pend).m.get id = some c → (withQ st.H base D st.pend).m.get id = some c := by
    intro hno id c hc
    rcases withQ_cases _ id c hb hc with ⟨j, h1, h2, rfl⟩ | ⟨h1, h2⟩
    · rw [hD'] at h2
      have : j ≠ i := fun q => by subst q; exact hno _ h1
      simp [this] at h2
      exact withQ_mem _ j c hb hWst.uniq h1 h2
    · rw [withQ_out _ id hb fun j d hm hDj => h1 j d hm (by rw [hD', hDj]; rfl)]; exact h2
  unfold wpOpIn
  simp only [List.getElem?_toArray, hop]
  rcases hcase with ⟨hw, hval, ob, hblk, hpb⟩ | ⟨hw, rfl, hpb⟩
  · rw [h.wanted R hi hr hvals hw]
    simp only [if_true]
    refine op_ok (H' := H0) (G := withP sa.H base it.bf sa.pend) hK hS hrec hF h.step.rel (h.orel R hi hD hr hvals) (h.free i hlt hD) (.inr ⟨heff ▸ he, ?_, hval, ob, hblk, fun μ1 w1 hn => ?_⟩)
    · exact h.sub R hWst hbf (m1.H.trans hM.H.symm) fun q hq => m2.pend _ (m3.pend _ hq)
    · cases ob with
      | none =>
        obtain ⟨w2, e3, e4, e5⟩ := hn
        simp only [Result.ok.injEq, Next.value.injEq] at e3
        obtain ⟨e3, rfl⟩ := e3
        rw [e3]
        have hno : ∀ bb, (i, bb) ∉ st.pend := fun bb hm => by have := (hpb bb).1 ((hpend bb).1 hm); cases this
        obtain ⟨q1, q2, q3, q4⟩ := h.env R hi hD hD' (Mu.upto.refl _ _) (Ids.le.refl _) (fun _ _ h => h) hvst e4
        refine hnext μ S _ w1 ⟨hcl, hlt', hdn, hfx, ?_, h.nxt, fun j hj hDj => ?_, h.clean, q1, q2, q3, q4, h.mem⟩
        · exact (h.step.trans e5).trans (Step.less e5.rel (by rw [withQ_next, withQ_next]; exact Nat.le_refl _) (nopend hno))
        · rw [hD'] at hDj; simp at hDj; exact h.free j hj hDj.1
      | some bb =>
        obtain ⟨w2, pl, e3, e4, e5, e6, e7, e8, e9, e10, e11⟩ := hn
        simp only [Result.ok.injEq, Next.value.injEq] at e3
        obtain ⟨e3, rfl⟩ := e3
        rw [e3]
        have hmem : (i, bb) ∈ st.pend := (hpend bb).2 ((hpb bb).2 rfl)
        have hfree := h.free i hlt hD
        have hup := Mu.at_upto (S := S) μ pl hfree
        obtain ⟨q1, q2, q3, q4⟩ := h.env R hi hD hD' hup (Ids.le_and _ _) (fun _ _ h => h) hvst e4
        refine hnext _ _ _ w1 ⟨hcl, hlt', hdn, hfx, ?_, h.nxt, fun j hj hDj => ?_, h.clean, q1, q2, q3, q4, fun r hr => .inl (h.mem r hr)⟩
        · refine Step.snoc h.step hfree (by rw [h0]; exact Nat.le_add_right _ _) (by rw [withQ_next]; have := h.nxt; omega) (by rw [withQ_next, withQ_next]; exact Nat.le_refl _) (fun id c hc => ?_) e5 e6 e7 e8 e9 e10 e11
          rcases withQ_cases _ id c hb hc with ⟨j, h1, h2, rfl⟩ | ⟨h1, h2⟩
          · by_cases hji : j = i
            · subst hji; exact .inl ⟨rfl, hWst.uniq _ _ _ hmem h1⟩
            · rw [hD'] at h2; simp [hji] at h2
              exact .inr ⟨by omega, withQ_mem _ j c hb hWst.uniq h1 h2⟩
          · refine .inr ⟨h1 i bb hmem (by rw [hD']; simp), ?_⟩
            rw [withQ_out _ id hb fun j d hm hDj => h1 j d hm (by rw [hD', hDj]; rfl)]; exact h2
        · rw [hD'] at hDj; simp at hDj
          rintro (hs | hs)
          · exact h.free j hj hDj.1 hs
          · exact hDj.2 (by omega)
  · rw [h.wanted R hi hr hvals hw]
    simp only [Bool.false_eq_true, if_false]
    refine ⟨fun f _ => hF.fn f, ?_⟩
    have hno : ∀ bb, (i, bb) ∉ st.pend := fun bb hm => hpb bb ((hpend bb).1 hm)
    obtain ⟨q1, q2, q3, q4⟩ := h.env R hi hD hD' (Mu.upto.refl _ _) (Ids.le.refl _) (fun _ _ h => h) hvst VR.undef
    rw [conc_undef] at q1 q2 q3 q4
    refine hnext μ S _ w ⟨hcl, hlt', hdn, hfx, ?_, h.nxt, fun j hj hDj => ?_, h.clean, q1, q2, q3, q4, h.mem⟩
    · exact h.step.trans (Step.less h.step.rel (by rw [withQ_next, withQ_next]; exact Nat.le_refl _) (nopend hno))
    · rw [hD'] at hDj; simp at hDj; exact h.free j hj hDj.1
end
end Go.Eng
