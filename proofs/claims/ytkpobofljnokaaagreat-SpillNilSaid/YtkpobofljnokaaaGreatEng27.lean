/- The engine, twenty-seventh part: a region that draws its order, as the engine runs it. -/
import Derived.Test.YtkpobofljnokaaaGreatEng26
namespace Go.Eng
section
variable {K : Cfg} {ρ : Rho} {ops : List Oper} {p : Plan} {e e' : Env} {μ : Mu} {S : Ids} {H H' : AH} {w : World} {a : Act} {F : Fence} {rec : Rec} {Q : Exit → Act → World → Prop}

theorem putAll_sound {vals : PM AVal} : ∀ (l : List Item) (e e' : Env), putAll vals l e = some e' → e'.inr = e.inr ∧ e'.n = e.n ∧ e'.marks = e.marks ∧
    (∀ it ∈ l, ∀ t, it.o.dst = some t → t < e.n) ∧ ∀ t v, e'.m.get t = some v → (∃ it ∈ l, it.o.dst = some t ∧ vals.get it.i = some v) ∨ (e.m.get t = some v ∧ ∀ it ∈ l, it.o.dst ≠ some t)
  | [], e, e', h => by
    simp only [putAll, Option.some.injEq] at h
    subst h
    exact ⟨rfl, rfl, rfl, by simp, fun _ _ h => .inr ⟨h, by simp⟩⟩
  | x :: l, e, e', h => by
    unfold putAll at h
    split at h
    · rename_i v hv
      split at h
      · rename_i e1 hp
        obtain ⟨h1, h2, h3, h4, h5⟩ := putAll_sound l e1 e' h
        unfold Env.put at hp
        split at hp
        · rename_i hd
          cases hp
          refine ⟨h1, h2, h3, fun it hit t ht => ?_, fun t y hy => ?_⟩
          · cases hit with
            | head => rw [hd] at ht; cases ht
            | tail _ hit => exact h4 it hit t ht
          · rcases h5 t y hy with ⟨it, g1, g2⟩ | ⟨g1, g2⟩
            · exact .inl ⟨it, .tail _ g1, g2⟩
            · refine .inr ⟨g1, fun it hit => ?_⟩
              cases hit with
              | head => rw [hd]; simp
              | tail _ hit => exact g2 it hit
        · rename_i t0 hd
          split at hp
          · rename_i hb
            have hb' := Nat.le_of_ble_eq_true hb
            cases hp
            refine ⟨h1, h2, h3, fun it hit t ht => ?_, fun t y hy => ?_⟩
            · cases hit with
              | head => rw [hd] at ht; cases ht; exact hb'
              | tail _ hit => exact h4 it hit t ht
            · rcases h5 t y hy with ⟨it, g1, g2⟩ | ⟨g1, g2⟩
              · exact .inl ⟨it, .tail _ g1, g2⟩
              · rcases PM.get_set g1 with ⟨q1, q2⟩ | ⟨q1, q2⟩
                · cases q2; exact .inl ⟨x, .head _, by rw [hd, q1], hv⟩
                · refine .inr ⟨q2, fun it hit => ?_⟩
                  cases hit with
                  | head => rw [hd]; exact fun q => q1 (Option.some.inj q).symm
                  | tail _ hit => exact g2 it hit
          · cases hp
      · cases h
    · cases h

theorem drawn_ok (hK : COK K) (hS : SOK K ρ) (hrec : RecOK K ρ rec) {b : Bool} (hF : FOK F b) (hd : drawnB K rec ops e H = some (e', H')) (h : Rel ρ μ S H w) (he : ERel ρ μ S e a)
    (hQ : ∀ μ' S' a' w', Step ρ μ S H w μ' S' H' w' → ERel ρ μ' S' e' a' → Q .normal a' w') (id : Nat) : (Code.region id ops.toArray true).wpIn F 0 K.P Q a w ∧ e'.inr = e.inr := by
  unfold drawnB at hd
  split at hd
  · rename_i hb1 hb2
    have hb1' := Nat.le_of_ble_eq_true hb1
    have hb2' := Nat.le_of_ble_eq_true hb2
    split at hd
    · rename_i p hp
      unfold drawnP at hd
      split at hd
      · rename_i sf hall
        unfold endD at hd
        split at hd
        · rename_i e1 hput
          cases hd
          obtain ⟨p1, p2, p3, p4, p5⟩ := putAll_sound _ _ _ hput
          refine ⟨?_, p1⟩
          have R : RegOK ops p e H.next := by
            unfold planB at hp
            split at hp
            · rename_i its hits
              split at hp
              · rename_i hch
                split at hp
                · rename_i pr hpr
                  cases hp
                  have hI := itemsB_items hits
                  obtain ⟨q1, _, q3⟩ := prodB_sound its .e pr hpr (fun it hit t ht => Nat.lt_of_lt_of_le (p4 it hit t ht) (by omega))
                  refine ⟨hI, fun i it k kt hi hie hk hkt hke => chain_sound hI its [] none rfl (by simp) hch i it k kt (Nat.zero_le _) hi hie hk hkt hke, fun t it ht => ?_, q3, rfl, by omega, p4⟩
                  rcases q1 t it ht with q | q
                  · cases q
                  · exact q
                · cases hp
              · cases hp
            · cases hp
          have hW0 : WS K ops p e.m H.next ⟨.e, [], ⟨H.next + ops.length, H.m⟩, 0, 0⟩ := ⟨(fun _ _ _ _ _ hx => by cases hx), (fun _ _ _ hx => by cases hx), (fun _ _ hx => by cases hx)⟩
          obtain ⟨st, hst, hrest⟩ := allD_rest _ _ hall
          have hlen : ops.length < 1073741823 := by omega
          obtain ⟨hM, hWst, _⟩ := stage_sound R.hI hlen p.items _ st (fun _ h => h) hW0 hst
          refine wpIn_region_any hK.mixed ?_
          have hsd := Step.drawn h (w.drawn + 1)
          have hinv0 : Inv ρ ops p e H.next μ S H w (fun j => (Array.replicate ops.toArray.size false).getD j false) ⟨.e, [], ⟨H.next + ops.length, H.m⟩, 0, 0⟩ μ S { w with drawn := w.drawn + 1 } a := by
            have hfalse : ∀ j, (Array.replicate ops.toArray.size false).getD j false = false := fun j => by
              rw [Array.getD_eq_getD_getElem?, Array.getElem?_replicate]; split <;> rfl
            have hF : ∀ (q : Prop) (j : Nat), (Array.replicate ops.toArray.size false).getD j false = true → q := fun q j hj => by rw [hfalse] at hj; cases hj
            refine ⟨fun i it _ hD => hF _ _ hD, fun i hD => hF _ _ hD, fun i it _ _ => ⟨fun hD => hF _ _ hD, fun hf => by simp at hf⟩, fun i hf => by simp at hf, ?_, Nat.le_refl _, fun i _ _ hs => ?_, (fun _ _ hx => by cases hx),
              fun t v hv _ => he.env.get t v hv, fun i it _ hD => hF _ _ hD, he.env.size, he.marks, he.mem⟩
            · exact hsd.trans (Step.less hsd.rel (Nat.le_add_right _ _) fun _ _ h => h)
            · have := h.bnd _ hs; omega
          refine drawn_go (sf := sf) hK hS hrec hF R rfl ?_ ops.toArray.size _ (List.range ops.length) [] p.items _ st μ S _ a (by simp) (by simp) (fun j hj _ => List.mem_range.2 hj) rfl (fun k kt hk hke => by
            simp only [List.length_nil, Nat.zero_le, iff_true]
            rw [Array.getD_eq_getD_getElem?, Array.getElem?_replicate]; split <;> rfl) hW0 hst hrest (hinv0.stage R hW0 hWst hM)
          intro D μ1 S1 w1 a1 hD hWf hinv
          have hbb : ∀ i b, (i, b) ∈ sf.pend → H.next + i < 1073741823 := fun i b hm => by have := (hWf.val i b hm).2; omega
          refine hQ μ1 S1 a1 w1 (hinv.step.trans (Step.less hinv.step.rel (by rw [withP_eq, withQ_next, withQ_next]; exact Nat.le_refl _) fun id c hc => ?_)) ⟨⟨by rw [p2]; exact hinv.size, fun t v hv => ?_⟩, by rw [p3]; exact hinv.marks, by rw [p3]; exact hinv.mem⟩
          · rw [withP_eq] at hc
            rcases withQ_cases _ id c hbb hc with ⟨i, g1, g2, rfl⟩ | ⟨g1, g2⟩
            · exact withQ_mem _ i c hbb hWf.uniq g1 (hD i (hWf.val i c g1).2)
            · rw [withQ_out _ id hbb fun i b hm hDi he => ?_]
              · exact g2
              · subst he; rw [hinv.clean i b hm] at g2; cases g2
          · rcases p5 t v hv with ⟨it, g1, g2, g3⟩ | ⟨g1, g2⟩
            · have hit := R.at g1
              have hlt : it.i < ops.length := by rw [← R.hI.len]; exact (List.getElem?_eq_some_iff.1 hit).1
              obtain ⟨x, q1, q2⟩ := hinv.env2 _ it hit (hD _ hlt)
              rw [g3] at q1; cases q1
              exact q2 t g2
            · exact hinv.env1 t v g1 fun i it hi hdst => absurd hdst (g2 it (List.mem_of_getElem? hi))
        · cases hd
      · cases hd
    · cases hd
  · cases hd
end
end Go.Eng
