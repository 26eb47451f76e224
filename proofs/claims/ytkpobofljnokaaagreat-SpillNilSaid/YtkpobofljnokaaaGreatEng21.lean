/- The engine, twenty-first part: what a plan and its stages tell. -/
import Derived.Test.YtkpobofljnokaaaGreatEng20
namespace Go.Eng
section
variable {K : Cfg} {ρ : Rho} {ops : List Oper} {its : List Item} {p : Plan} {m : PM AVal} {base : Nat}

theorem Items.trans (hI : Items ops its) : ∀ (i : Nat) (it : Item), its[i]? = some it → ∀ j, Nat.testBit it.bf j = true → j < i ∧ ∃ jt, its[j]? = some jt ∧ ∀ k, Nat.testBit jt.bf k = true → Nat.testBit it.bf k = true := by
  intro i
  induction i using Nat.strongRecOn with
  | _ i ih =>
    intro it hi j hj
    obtain ⟨e, he, hb, h⟩ := hI.back i it hi j hj
    obtain ⟨h1, h2, jt, h3, h4⟩ := hI.edge i it hi e he hb
    rcases h with rfl | ⟨jt', h5, h6⟩
    · exact ⟨h2, jt, h3, h4⟩
    · rw [h3] at h5; cases h5
      obtain ⟨g1, kt, g2, g3⟩ := ih _ h2 jt h3 j h6
      exact ⟨by omega, kt, g2, fun k hk => h4 k (g3 k hk)⟩

theorem chain_sound (hI : Items ops its) : ∀ (l pre : List Item) (last : Option Nat), its = pre ++ l →
    (match last with
     | none => ∀ (k : Nat) (kt : Item), pre[k]? = some kt → kt.eff = false
     | some j => ∃ jt : Item, pre[j]? = some jt ∧ ∀ (k : Nat) (kt : Item), pre[k]? = some kt → kt.eff = true → k = j ∨ Nat.testBit jt.bf k = true) →
    chainB l last = true → ∀ (i : Nat) (it : Item) (k : Nat) (kt : Item), pre.length ≤ i → its[i]? = some it → it.eff = true → k < i → its[k]? = some kt → kt.eff = true → Nat.testBit it.bf k = true
  | [], pre, last, hl, _, _, i, it, k, kt, hi, hit, _, _, _, _ => by
    subst hl
    rw [List.append_nil] at hit
    have := (List.getElem?_eq_some_iff.1 hit).1
    omega
  | x :: l, pre, last, hl, hlast, hc, i, it, k, kt, hi, hit, he, hk, hkt, hke => by
    have hl' : its = (pre ++ [x]) ++ l := by rw [hl]; simp
    have hx : its[pre.length]? = some x := by rw [hl]; simp
    have hxi := (hI.op _ _ hx).1
    have hpre : ∀ (k : Nat) (kt : Item), (pre ++ [x])[k]? = some kt → (k < pre.length ∧ pre[k]? = some kt) ∨ (k = pre.length ∧ kt = x) := by
      intro k kt hk
      by_cases hlt : k < pre.length
      · rw [List.getElem?_append_left hlt] at hk; exact .inl ⟨hlt, hk⟩
      · rw [List.getElem?_append_right (by omega)] at hk
        have := (List.getElem?_eq_some_iff.1 hk).1
        simp at this
        have hz : k - pre.length = 0 := by omega
        rw [hz] at hk
        simp at hk
        exact .inr ⟨by omega, hk.symm⟩
    have hprek : ∀ (k : Nat) (kt : Item), k < pre.length → its[k]? = some kt → pre[k]? = some kt := by
      intro k kt hk h
      rw [hl, List.getElem?_append_left hk] at h; exact h
    unfold chainB at hc
    cases hxe : x.eff with
    | false =>
      rw [hxe] at hc
      have hne : i ≠ pre.length := fun e => by subst e; rw [hx] at hit; cases hit; rw [hxe] at he; cases he
      refine chain_sound hI l (pre ++ [x]) last hl' ?_ hc i it k kt (by simp; omega) hit he hk hkt hke
      cases last with
      | none =>
        intro k kt hk
        rcases hpre k kt hk with ⟨_, h⟩ | ⟨_, rfl⟩
        · exact hlast k kt h
        · exact hxe
      | some j =>
        obtain ⟨jt, h1, h2⟩ := hlast
        have hj : j < pre.length := (List.getElem?_eq_some_iff.1 h1).1
        refine ⟨jt, by rw [List.getElem?_append_left hj]; exact h1, fun k kt hk hke => ?_⟩
        rcases hpre k kt hk with ⟨_, h⟩ | ⟨_, rfl⟩
        · exact h2 k kt h hke
        · rw [hxe] at hke; cases hke
    | true =>
      rw [hxe] at hc
      have hbefore : ∀ (k : Nat) (kt : Item), pre[k]? = some kt → kt.eff = true → Nat.testBit x.bf k = true := by
        intro k kt hk hke
        cases last with
        | none => have := hlast k kt hk; rw [hke] at this; cases this
        | some j =>
          obtain ⟨jt, h1, h2⟩ := hlast
          simp only at hc
          split at hc
          · rename_i hb
            have hj : j < pre.length := (List.getElem?_eq_some_iff.1 h1).1
            obtain ⟨_, jt', q1, q2⟩ := hI.trans _ _ hx j hb
            have := hprek j jt' hj q1
            rw [h1] at this; cases this
            rcases h2 k kt hk hke with rfl | h3
            · exact hb
            · exact q2 _ h3
          · cases hc
      have hc' : chainB l (some x.i) = true := by
        cases last with
        | none => exact hc
        | some j => simp only at hc; split at hc <;> first | exact hc | cases hc
      by_cases hi' : i = pre.length
      · subst hi'
        rw [hx] at hit; cases hit
        exact hbefore k kt (hprek k kt hk hkt) hke
      · refine chain_sound hI l (pre ++ [x]) (some x.i) hl' ⟨x, by rw [hxi]; simp, fun k kt hk hke => ?_⟩ hc' i it k kt (by simp; omega) hit he hk hkt hke
        rcases hpre k kt hk with ⟨_, h⟩ | ⟨h, _⟩
        · exact .inr (hbefore k kt h hke)
        · exact .inl (by rw [hxi]; exact h)

theorem prodB_sound : ∀ (l : List Item) (q p : PM Item), prodB l q = some p → (∀ it ∈ l, ∀ t, it.o.dst = some t → t < 1073741823) →
    (∀ t it, p.get t = some it → q.get t = some it ∨ (it ∈ l ∧ it.o.dst = some t)) ∧ (∀ t it, q.get t = some it → p.get t = some it) ∧ (∀ it ∈ l, ∀ t, it.o.dst = some t → p.get t = some it)
  | [], q, p, h, _ => by
    simp only [prodB, Option.some.injEq] at h
    subst h
    exact ⟨fun _ _ h => .inl h, fun _ _ h => h, by simp⟩
  | x :: l, q, p, h, hd => by
    have hd' := fun it hit => hd it (.tail _ hit)
    unfold prodB at h
    split at h
    · rename_i hx
      obtain ⟨h1, h2, h3⟩ := prodB_sound l q p h hd'
      refine ⟨fun t it ht => ?_, h2, fun it hit t ht => ?_⟩
      · rcases h1 t it ht with h | ⟨h, h'⟩
        · exact .inl h
        · exact .inr ⟨.tail _ h, h'⟩
      · cases hit with
        | head => rw [hx] at ht; cases ht
        | tail _ hit => exact h3 it hit t ht
    · rename_i t hx
      split at h
      · cases h
      · rename_i hq
        have hb := hd x (.head _) t hx
        obtain ⟨h1, h2, h3⟩ := prodB_sound l _ p h hd'
        have hset : ∀ s, (q.set t (some x)).get s = if s = t then some x else q.get s := fun s => PM.get_set_all hb
        refine ⟨fun s it hs => ?_, fun s it hs => ?_, fun it hit s hs => ?_⟩
        · rcases h1 s it hs with h | ⟨h, h'⟩
          · rw [hset] at h
            split at h
            · rename_i e; cases h; subst e; exact .inr ⟨.head _, hx⟩
            · exact .inl h
          · exact .inr ⟨.tail _ h, h'⟩
        · refine h2 s it ?_
          rw [hset, if_neg (fun e => by subst e; rw [hq] at hs; cases hs)]; exact hs
        · cases hit with
          | head => rw [hx] at hs; cases hs; exact h2 _ _ (by rw [hset, if_pos rfl])
          | tail _ hit => exact h3 it hit s hs

theorem effMask_test : ∀ (l : List Item) (j : Nat), Nat.testBit (effMask l) j = true ↔ ∃ it ∈ l, it.eff = true ∧ it.i = j
  | [], j => by simp [effMask]
  | x :: l, j => by
    unfold effMask
    cases hx : x.eff with
    | true =>
      simp only [lor_test, bit_test, Bool.or_eq_true, decide_eq_true_eq, effMask_test l j]
      constructor
      · rintro (rfl | ⟨it, h1, h2⟩)
        · exact ⟨x, .head _, hx, rfl⟩
        · exact ⟨it, .tail _ h1, h2⟩
      · rintro ⟨it, h1, h2, h3⟩
        cases h1 with
        | head => exact .inl h3.symm
        | tail _ h1 => exact .inr ⟨it, h1, h2, h3⟩
    | false =>
      simp only [effMask_test l j]
      constructor
      · rintro ⟨it, h1, h2⟩; exact ⟨it, .tail _ h1, h2⟩
      · rintro ⟨it, h1, h2, h3⟩
        cases h1 with
        | head => rw [hx] at h2; cases h2
        | tail _ h1 => exact ⟨it, h1, h2, h3⟩

/-! ### Equal values -/
mutual
theorem aeq_sound : ∀ (x y : AVal), aeq x y = true → x = y := by
  intro x y h
  cases x <;> cases y <;> (try (simp [aeq] at h; done))
  case bool.bool a b => simp only [aeq, beq2_eq] at h; simp at h; rw [h]
  case int.int k a k' b => simp only [aeq, Bool.and_eq_true] at h; rw [keq_iff.1 h.1, ieq_iff.1 h.2]
  case sint.sint k t k' t' => simp only [aeq, Bool.and_eq_true] at h; rw [keq_iff.1 h.1, teq_eq _ _ h.2]
  case ref.ref a b a' b' => simp only [aeq, Bool.and_eq_true] at h; rw [Nat.eq_of_beq_eq_true h.1, Nat.eq_of_beq_eq_true h.2]
  case eptr.eptr a b z i c a' b' z' i' c' =>
    simp only [aeq, Bool.and_eq_true] at h
    rw [Nat.eq_of_beq_eq_true h.1.1.1.1, Nat.eq_of_beq_eq_true h.1.1.1.2, Nat.eq_of_beq_eq_true h.1.1.2, teq_eq _ _ h.1.2, Nat.eq_of_beq_eq_true h.2]
  case str.str a b => simp only [aeq] at h; rw [leq_iff.1 h]
  case ptr.ptr a b c d => simp only [aeq, Bool.and_eq_true] at h; rw [Nat.eq_of_beq_eq_true h.1, Nat.eq_of_beq_eq_true h.2]
  case nilPtr.nilPtr => rfl
  case slice.slice a b c q a' b' c' q' =>
    cases q <;> cases q' <;> simp [aeq] at h <;> simp [h]
  case nilSlice.nilSlice => rfl
  case map.map a b => simp only [aeq] at h; rw [Nat.eq_of_beq_eq_true h]
  case nilMap.nilMap => rfl
  case func.func f a b f' a' b' => simp only [aeq, Bool.and_eq_true] at h; rw [Nat.eq_of_beq_eq_true h.1.1, aeqs_sound _ _ h.1.2, aeqs_sound _ _ h.2]
  case yield.yield a b => simp only [aeq] at h; rw [Nat.eq_of_beq_eq_true h]
  case nilFunc.nilFunc => rfl
  case iface.iface t a t' a' => simp only [aeq, Bool.and_eq_true] at h; rw [Nat.eq_of_beq_eq_true h.1, aeq_sound _ _ h.2]
  case nilIface.nilIface => rfl
  case agg.agg a b => simp only [aeq] at h; rw [aeqs_sound _ _ h]
  case tuple.tuple a b => simp only [aeq] at h; rw [aeqs_sound _ _ h]
theorem aeqs_sound : ∀ (x y : List AVal), aeqs x y = true → x = y := by
  intro x y h
  cases x <;> cases y <;> (try (simp [aeqs] at h; done))
  · rfl
  · simp only [aeqs, Bool.and_eq_true] at h; rw [aeq_sound _ _ h.1, aeqs_sound _ _ h.2]
end
end
end Go.Eng
