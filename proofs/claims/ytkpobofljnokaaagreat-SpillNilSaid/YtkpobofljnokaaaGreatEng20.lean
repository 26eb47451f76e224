/- The engine, twentieth part: maps from numbers, once more; what a plan says of a region's operations. -/
import Derived.Test.YtkpobofljnokaaaGreatEng19
namespace Go.Eng

theorem PM.get_setd_all {α : Type} (x : Option α) : ∀ (d : Nat) (t : PM α) (k j : Nat), k + 1 < 2 ^ d → (PM.setd x d t k).get j = if j = k then x else t.get j
  | 0, _, k, _, h => by simp at h
  | d + 1, t, k, j, h => by
    have ih := PM.get_setd_all x d
    have hp : 2 ^ (d + 1) = 2 * 2 ^ d := by rw [Nat.pow_succ, Nat.mul_comm]
    cases t with
    | e =>
      cases k with
      | zero =>
        cases j with
        | zero => simp [PM.setd, PM.get]
        | succ j' => simp only [PM.setd, PM.get]; split <;> simp
      | succ k' =>
        have hk2 : k' / 2 + 1 < 2 ^ d := by omega
        simp only [PM.setd]
        cases j with
        | zero => split <;> simp [PM.get]
        | succ j' =>
          have e1 := Nat.div_add_mod k' 2
          have e2 := Nat.div_add_mod j' 2
          have m1 := Nat.mod_lt k' (show 0 < 2 by decide)
          have m2 := Nat.mod_lt j' (show 0 < 2 by decide)
          split <;> rename_i hk <;> simp only [PM.get] <;> split <;> rename_i hj
          · have := Nat.eq_of_beq_eq_true hk; have := Nat.eq_of_beq_eq_true hj
            rw [ih _ _ _ hk2]
            by_cases hjk : j' / 2 = k' / 2
            · rw [if_pos hjk, if_pos (by omega)]
            · rw [if_neg hjk, if_neg (by omega)]; simp [PM.get]
          · have := Nat.eq_of_beq_eq_true hk; have := Nat.ne_of_beq_eq_false hj
            rw [if_neg (by omega)]
          · have := Nat.ne_of_beq_eq_false hk; have := Nat.eq_of_beq_eq_true hj
            rw [if_neg (by omega)]
          · have := Nat.ne_of_beq_eq_false hk; have := Nat.ne_of_beq_eq_false hj
            rw [ih _ _ _ hk2]
            by_cases hjk : j' / 2 = k' / 2
            · rw [if_pos hjk, if_pos (by omega)]
            · rw [if_neg hjk, if_neg (by omega)]; simp [PM.get]
    | n l o r =>
      cases k with
      | zero =>
        cases j with
        | zero => simp [PM.setd, PM.get]
        | succ j' => simp [PM.setd, PM.get]
      | succ k' =>
        have hk2 : k' / 2 + 1 < 2 ^ d := by omega
        simp only [PM.setd]
        cases j with
        | zero => split <;> simp [PM.get]
        | succ j' =>
          have e1 := Nat.div_add_mod k' 2
          have e2 := Nat.div_add_mod j' 2
          have m1 := Nat.mod_lt k' (show 0 < 2 by decide)
          have m2 := Nat.mod_lt j' (show 0 < 2 by decide)
          split <;> rename_i hk <;> simp only [PM.get] <;> split <;> rename_i hj
          · have := Nat.eq_of_beq_eq_true hk; have := Nat.eq_of_beq_eq_true hj
            rw [ih _ _ _ hk2]
            by_cases hjk : j' / 2 = k' / 2
            · rw [if_pos hjk, if_pos (by omega)]
            · rw [if_neg hjk, if_neg (by omega)]
          · have := Nat.eq_of_beq_eq_true hk; have := Nat.ne_of_beq_eq_false hj
            rw [if_neg (by omega)]
          · have := Nat.ne_of_beq_eq_false hk; have := Nat.eq_of_beq_eq_true hj
            rw [if_neg (by omega)]
          · have := Nat.ne_of_beq_eq_false hk; have := Nat.ne_of_beq_eq_false hj
            rw [ih _ _ _ hk2]
            by_cases hjk : j' / 2 = k' / 2
            · rw [if_pos hjk, if_pos (by omega)]
            · rw [if_neg hjk, if_neg (by omega)]

theorem PM.get_set_all {α : Type} {t : PM α} {k j : Nat} {x : Option α} (hk : k < 1073741823) : (t.set k x).get j = if j = k then x else t.get j := by
  unfold PM.set
  have : Nat.blt k 1073741823 = true := Nat.ble_eq_true_of_le hk
  rw [this]
  exact PM.get_setd_all x 32 t k j (by simp only [Nat.reducePow]; omega)

/-! ### The plan -/
theorem bit_test (i j : Nat) : Nat.testBit (bit i) j = decide (j = i) := by
  show Nat.testBit (1 <<< i) j = _
  rw [Nat.one_shiftLeft, Nat.testBit_two_pow]
  exact decide_eq_decide.2 eq_comm

theorem lor_test (a b j : Nat) : Nat.testBit (Nat.lor a b) j = (Nat.testBit a j || Nat.testBit b j) := Nat.testBit_or a b j
theorem land_test (a b j : Nat) : Nat.testBit (Nat.land a b) j = (Nat.testBit a j && Nat.testBit b j) := Nat.testBit_and a b j

theorem isAny_binds (e : Edge) : isAny e.ground = Region.binds .any e := by
  unfold isAny Region.binds
  cases e.ground <;> rfl

theorem befB_sound {bfs : PM Nat} : ∀ (l : List Edge) (acc b : Nat), befB bfs l acc = some b →
    (∀ j, Nat.testBit acc j = true → Nat.testBit b j = true) ∧
    (∀ e ∈ l, Region.binds .any e = true → Nat.testBit b e.on = true ∧ ∃ c, bfs.get e.on = some c ∧ ∀ j, Nat.testBit c j = true → Nat.testBit b j = true) ∧
    (∀ j, Nat.testBit b j = true → Nat.testBit acc j = true ∨ ∃ e ∈ l, Region.binds .any e = true ∧ (j = e.on ∨ ∃ c, bfs.get e.on = some c ∧ Nat.testBit c j = true))
  | [], acc, b, h => by
    simp only [befB, Option.some.injEq] at h
    subst h
    exact ⟨fun _ h => h, by simp, fun _ h => .inl h⟩
  | e :: l, acc, b, h => by
    unfold befB at h
    rw [isAny_binds] at h
    split at h
    · rename_i hb
      split at h
      · rename_i c hc
        obtain ⟨h1, h2, h3⟩ := befB_sound l _ b h
        simp only [lor_test, bit_test, Bool.or_eq_true, decide_eq_true_eq] at h1 h3
        refine ⟨fun j hj => h1 j (.inl hj), fun e' he' hb' => ?_, fun j hj => ?_⟩
        · cases he' with
          | head => exact ⟨h1 _ (.inr (.inl rfl)), c, hc, fun j hj => h1 j (.inr (.inr hj))⟩
          | tail _ he' => exact h2 e' he' hb'
        · rcases h3 j hj with (h4 | rfl | h4) | ⟨e', he', h4⟩
          · exact .inl h4
          · exact .inr ⟨e, .head _, hb, .inl rfl⟩
          · exact .inr ⟨e, .head _, hb, .inr ⟨c, hc, h4⟩⟩
          · exact .inr ⟨e', .tail _ he', h4⟩
      · cases h
    · rename_i hb
      obtain ⟨h1, h2, h3⟩ := befB_sound l _ b h
      refine ⟨h1, fun e' he' hb' => ?_, fun j hj => ?_⟩
      · cases he' with
        | head => rw [hb] at hb'; cases hb'
        | tail _ he' => exact h2 e' he' hb'
      · rcases h3 j hj with h4 | ⟨e', he', h4⟩
        · exact .inl h4
        · exact .inr ⟨e', .tail _ he', h4⟩

/-- What the items say of the operations. -/
structure Items (ops : List Oper) (its : List Item) : Prop where
  len : its.length = ops.length
  op : ∀ (i : Nat) (it : Item), its[i]? = some it → it.i = i ∧ ops[i]? = some it.o ∧ it.eff = isEff it.o
  edge : ∀ (i : Nat) (it : Item), its[i]? = some it → ∀ e ∈ it.o.after.toList, Region.binds .any e = true → Nat.testBit it.bf e.on = true ∧ e.on < i ∧ ∃ jt, its[e.on]? = some jt ∧ ∀ j, Nat.testBit jt.bf j = true → Nat.testBit it.bf j = true
  back : ∀ (i : Nat) (it : Item), its[i]? = some it → ∀ j, Nat.testBit it.bf j = true → ∃ e ∈ it.o.after.toList, Region.binds .any e = true ∧ (j = e.on ∨ ∃ jt, its[e.on]? = some jt ∧ Nat.testBit jt.bf j = true)

theorem itemsB_sound : ∀ (l : List Oper) (pre : List Item) (bfs : PM Nat) (its : List Item), itemsB l pre.length bfs = some its →
    (∀ j c, bfs.get j = some c → ∃ jt, pre[j]? = some jt ∧ jt.bf = c) →
    its.length = l.length ∧ ∀ (i : Nat) (it : Item), its[i]? = some it → it.i = pre.length + i ∧ l[i]? = some it.o ∧ it.eff = isEff it.o ∧
      (∀ e ∈ it.o.after.toList, Region.binds .any e = true → Nat.testBit it.bf e.on = true ∧ e.on < pre.length + i ∧ ∃ jt, (pre ++ its)[e.on]? = some jt ∧ ∀ j, Nat.testBit jt.bf j = true → Nat.testBit it.bf j = true) ∧
      (∀ j, Nat.testBit it.bf j = true → ∃ e ∈ it.o.after.toList, Region.binds .any e = true ∧ (j = e.on ∨ ∃ jt, (pre ++ its)[e.on]? = some jt ∧ Nat.testBit jt.bf j = true))
  | [], pre, bfs, its, h, _ => by
    simp only [itemsB, Option.some.injEq] at h
    subst h
    exact ⟨rfl, by simp⟩
  | o :: l, pre, bfs, its, h, hb => by
    unfold itemsB at h
    split at h
    · rename_i b hbef
      split at h
      · rename_i r hr
        cases h
        have hlen : pre.length + 1 = (pre ++ [(⟨pre.length, o, b, isEff o⟩ : Item)]).length := by simp
        rw [hlen] at hr
        obtain ⟨h1, h2⟩ := itemsB_sound l (pre ++ [⟨pre.length, o, b, isEff o⟩]) _ r hr (fun j c hj => by
          rcases PM.get_set hj with ⟨rfl, h3⟩ | ⟨hne, h3⟩
          · exact ⟨⟨pre.length, o, b, isEff o⟩, by simp, by simpa using h3⟩
          · obtain ⟨jt, h4, h5⟩ := hb j c h3
            have : j < pre.length := (List.getElem?_eq_some_iff.1 h4).1
            exact ⟨jt, by rw [List.getElem?_append_left this]; exact h4, h5⟩)
        obtain ⟨b1, b2, b3⟩ := befB_sound _ _ _ hbef
        refine ⟨by simp [h1], fun i it hit => ?_⟩
        cases i with
        | zero =>
          simp only [List.getElem?_cons_zero, Option.some.injEq] at hit
          subst hit
          have look : ∀ j c, bfs.get j = some c → j < pre.length ∧ ∃ jt, (pre ++ ⟨pre.length, o, b, isEff o⟩ :: r)[j]? = some jt ∧ jt.bf = c := by
            intro j c hj
            obtain ⟨jt, h4, h5⟩ := hb j c hj
            have : j < pre.length := (List.getElem?_eq_some_iff.1 h4).1
            exact ⟨this, jt, by rw [List.getElem?_append_left this]; exact h4, h5⟩
          refine ⟨rfl, by simp, rfl, fun e he hbe => ?_, fun j hj => ?_⟩
          · obtain ⟨c1, c, c2, c3⟩ := b2 e he hbe
            obtain ⟨c4, jt, c5, rfl⟩ := look _ _ c2
            exact ⟨c1, by omega, jt, c5, c3⟩
          · rcases b3 j hj with h4 | ⟨e, he, hbe, h4⟩
            · simp at h4
            · refine ⟨e, he, hbe, ?_⟩
              rcases h4 with h4 | ⟨c, c2, c3⟩
              · exact .inl h4
              · obtain ⟨_, jt, c5, rfl⟩ := look _ _ c2
                exact .inr ⟨jt, c5, c3⟩
        | succ i =>
          simp only [List.getElem?_cons_succ] at hit
          obtain ⟨a1, a2, a3, a4, a5⟩ := h2 i it hit
          rw [List.append_assoc, List.singleton_append] at a4 a5
          rw [← hlen] at a1 a4
          exact ⟨by omega, by simpa using a2, a3, fun e he hbe => by
            obtain ⟨q1, q2, q3⟩ := a4 e he hbe
            exact ⟨q1, by omega, q3⟩, a5⟩
      · cases h
    · cases h

theorem itemsB_items {ops : List Oper} {its : List Item} (h : itemsB ops 0 .e = some its) : Items ops its := by
  obtain ⟨h1, h2⟩ := itemsB_sound ops [] .e its h (fun j c hj => by cases hj)
  simp only [List.length_nil, Nat.zero_add, List.nil_append] at h2
  exact ⟨h1, fun i it hi => ⟨(h2 i it hi).1, (h2 i it hi).2.1, (h2 i it hi).2.2.1⟩, fun i it hi => (h2 i it hi).2.2.2.1, fun i it hi => (h2 i it hi).2.2.2.2⟩
end Go.Eng
