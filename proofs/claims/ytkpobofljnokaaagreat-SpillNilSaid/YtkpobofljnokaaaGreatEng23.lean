/- The engine, twenty-third part: heaps with blocks that are still to be made; how they go on. -/
import Derived.Test.YtkpobofljnokaaaGreatEng22
namespace Go.Eng

def withQ (H : AH) (base : Nat) (q : Nat → Bool) : List (Nat × ABlk) → AH
  | [] => H
  | (i, b) :: l => match q i with
    | true => (withQ H base q l).put (base + i) b
    | false => withQ H base q l

theorem withP_eq (H : AH) (base bf : Nat) : ∀ l, withP H base bf l = withQ H base (Nat.testBit bf) l
  | [] => rfl
  | (i, b) :: l => by
    simp only [withP, withQ, withP_eq H base bf l]
    cases Nat.testBit bf i <;> rfl

theorem withQ_next (H : AH) (base : Nat) (q : Nat → Bool) : ∀ l, (withQ H base q l).next = H.next
  | [] => rfl
  | (i, b) :: l => by
    simp only [withQ]
    cases q i
    · exact withQ_next H base q l
    · exact withQ_next H base q l

section
variable {H : AH} {base : Nat} {q : Nat → Bool} {l : List (Nat × ABlk)}

theorem withQ_cases : ∀ (l : List (Nat × ABlk)) (id : Nat) (c : ABlk), (∀ i b, (i, b) ∈ l → base + i < 1073741823) → (withQ H base q l).m.get id = some c →
    (∃ i, (i, c) ∈ l ∧ q i = true ∧ id = base + i) ∨ ((∀ i b, (i, b) ∈ l → q i = true → id ≠ base + i) ∧ H.m.get id = some c)
  | [], id, c, _, h => .inr ⟨by simp, h⟩
  | (i, b) :: l, id, c, hb, h => by
    have hb' : ∀ i b, (i, b) ∈ l → base + i < 1073741823 := fun j d hj => hb j d (.tail _ hj)
    simp only [withQ] at h
    cases hq : q i with
    | true =>
      rw [hq] at h
      simp only [AH.put] at h
      rw [PM.get_set_all (hb i b (.head _))] at h
      split at h
      · rename_i e; cases h; exact .inl ⟨i, .head _, hq, e⟩
      · rename_i hne
        rcases withQ_cases l id c hb' h with ⟨j, h1, h2⟩ | ⟨h1, h2⟩
        · exact .inl ⟨j, .tail _ h1, h2⟩
        · refine .inr ⟨fun j d hj hqj => ?_, h2⟩
          cases hj with
          | head => exact hne
          | tail _ hj => exact h1 j d hj hqj
    | false =>
      rw [hq] at h
      rcases withQ_cases l id c hb' h with ⟨j, h1, h2⟩ | ⟨h1, h2⟩
      · exact .inl ⟨j, .tail _ h1, h2⟩
      · refine .inr ⟨fun j d hj hqj => ?_, h2⟩
        cases hj with
        | head => rw [hq] at hqj; cases hqj
        | tail _ hj => exact h1 j d hj hqj

theorem withQ_mem : ∀ (l : List (Nat × ABlk)) (i : Nat) (b : ABlk), (∀ i b, (i, b) ∈ l → base + i < 1073741823) → (∀ i b c, (i, b) ∈ l → (i, c) ∈ l → b = c) → (i, b) ∈ l → q i = true → (withQ H base q l).m.get (base + i) = some b
  | [], i, b, _, _, h, _ => by cases h
  | (j, d) :: l, i, b, hb, hu, h, hq => by
    have hb' : ∀ i b, (i, b) ∈ l → base + i < 1073741823 := fun k e hk => hb k e (.tail _ hk)
    have hu' : ∀ i b c, (i, b) ∈ l → (i, c) ∈ l → b = c := fun k e f he hf => hu k e f (.tail _ he) (.tail _ hf)
    simp only [withQ]
    by_cases hji : j = i
    · subst hji
      rw [hq]
      have := hu j b d h (.head _)
      subst this
      simp only [AH.put]
      rw [PM.get_set_all (hb j b (.head _)), if_pos rfl]
    · have hmem : (i, b) ∈ l := by
        cases h with
        | head => exact absurd rfl hji
        | tail _ h => exact h
      cases hqj : q j with
      | true =>
        simp only [AH.put]
        rw [PM.get_set_all (hb j d (.head _)), if_neg (by omega)]
        exact withQ_mem l i b hb' hu' hmem hq
      | false => exact withQ_mem l i b hb' hu' hmem hq

theorem withQ_out : ∀ (l : List (Nat × ABlk)) (id : Nat), (∀ i b, (i, b) ∈ l → base + i < 1073741823) → (∀ i b, (i, b) ∈ l → q i = true → id ≠ base + i) → (withQ H base q l).m.get id = H.m.get id
  | [], id, _, _ => rfl
  | (i, b) :: l, id, hb, h => by
    have hb' : ∀ i b, (i, b) ∈ l → base + i < 1073741823 := fun j d hj => hb j d (.tail _ hj)
    have ih := withQ_out l id hb' fun j d hj => h j d (.tail _ hj)
    simp only [withQ]
    cases hq : q i with
    | true =>
      simp only [AH.put]
      rw [PM.get_set_all (hb i b (.head _)), if_neg (h i b (.head _) hq)]
      exact ih
    | false => exact ih

theorem lessP_mem {bf : Nat} : ∀ (l : List (Nat × ABlk)) (i : Nat) (b : ABlk), (i, b) ∈ lessP bf l ↔ (i, b) ∈ l ∧ Nat.testBit bf i = false
  | [], i, b => by simp [lessP]
  | (j, d) :: l, i, b => by
    unfold lessP
    cases hj : Nat.testBit bf j with
    | true =>
      simp only [lessP_mem l i b, List.mem_cons, Prod.mk.injEq]
      constructor
      · rintro ⟨h1, h2⟩; exact ⟨.inr h1, h2⟩
      · rintro ⟨⟨rfl, _⟩ | h1, h2⟩
        · rw [hj] at h2; cases h2
        · exact ⟨h1, h2⟩
    | false =>
      simp only [List.mem_cons, Prod.mk.injEq, lessP_mem l i b]
      constructor
      · rintro (⟨rfl, rfl⟩ | ⟨h1, h2⟩)
        · exact ⟨.inl ⟨rfl, rfl⟩, hj⟩
        · exact ⟨.inr h1, h2⟩
      · rintro ⟨⟨rfl, rfl⟩ | h1, h2⟩
        · exact .inl ⟨rfl, rfl⟩
        · exact .inr ⟨h1, h2⟩

theorem cleanB_sound : ∀ (l : List (Nat × ABlk)), cleanB base H l = true → ∀ i b, (i, b) ∈ l → H.m.get (base + i) = none
  | [], _, _, _, h => by cases h
  | (j, d) :: l, hc, i, b, h => by
    unfold cleanB at hc
    split at hc
    · cases hc
    · rename_i hn
      cases h with
      | head => exact hn
      | tail _ h => exact cleanB_sound l hc i b h
end

section
variable {ρ : Rho} {μ μ' μ'' : Mu} {S S' S'' : Ids} {H H' H'' G : AH} {w w' w'' : World}

/-- The run knew of fewer blocks: the others are as they were. -/
theorem Step.frame (hB : Rel ρ μ S H w) (hsub : Sub G H) (hs : Step ρ μ S G w μ' S' H' w') (hn : H.next = G.next) (hn' : H'.next ≤ H''.next)
    (hget : ∀ id c, H''.m.get id = some c → H'.m.get id = some c ∨ (H.m.get id = some c ∧ G.m.get id = none)) : Step ρ μ S H w μ' S' H'' w' := by
  have himg : ∀ k, Img μ G k → Img μ H k := fun k ⟨id, b, h1, h2⟩ => ⟨id, b, hsub id b h1, h2⟩
  have himgM : ∀ k, ImgM μ G k → ImgM μ H k := fun k ⟨id, b, h1, h2⟩ => ⟨id, b, hsub id b h1, h2⟩
  -- what an unknown block may write, no known one touches; what it touches, no known one may write
  have hout : ∀ id c, H.m.get id = some c → G.m.get id = none → ∀ k, c.wr (μ id) k → ¬ Img μ G k := by
    rintro id c h1 h2 k h3 ⟨j, b, g1, g2⟩
    by_cases hj : id = j
    · subst hj; rw [h2] at g1; cases g1
    · exact hB.inj id j c b h1 (hsub j b g1) hj k h3 g2
  have hout2 : ∀ id c, H.m.get id = some c → G.m.get id = none → ∀ k, c.at (μ id) k → ¬ ImgM μ G k := by
    rintro id c h1 h2 k h3 ⟨j, b, g1, g2⟩
    by_cases hj : j = id
    · subst hj; rw [h2] at g1; cases g1
    · exact hB.inj j id b c (hsub j b g1) h1 hj k g2 h3
  have hlt : ∀ id c, H.m.get id = some c → ∀ k, c.at (μ id) k → k < w.heap.size := fun id c h1 k h2 => hB.img_lt ⟨id, c, h1, h2⟩
  refine ⟨⟨fun id hid => Nat.lt_of_lt_of_le (hs.rel.bnd id hid) hn', fun id c hc => ?_, fun i j b c hi hj hne k hb hc => ?_⟩, hs.up, hs.sub, fun id hid => hn ▸ hs.new id hid, Nat.le_trans (by rw [hn]; exact hs.next) hn',
    hs.os, hs.tape, hs.output, hs.size, fun k hk hni => hs.keep k hk fun h => hni (himgM k h), fun k hk => ?_, fun k hk => ?_⟩
  · rcases hget id c hc with h | ⟨h, hG⟩
    · exact hs.rel.blk id c h
    · obtain ⟨h1, h2⟩ := hB.blk id c h
      refine ⟨hs.sub id h1, ?_⟩
      rw [hs.up id h1]
      exact h2.keep (fun k hk => hs.keep _ (hlt id c h k hk) (hout2 id c h hG k hk)) hs.up hs.sub
  · rcases hget i b hi with h1 | ⟨h1, g1⟩ <;> rcases hget j c hj with h2 | ⟨h2, g2⟩
    · exact hs.rel.inj i j b c h1 h2 hne k hb hc
    · rw [hs.up j (hB.blk j c h2).1] at hc
      rcases hs.imgM k ⟨i, b, h1, hb⟩ with h | h
      · exact hout2 j c h2 g2 k hc h
      · have := hlt j c h2 k hc; omega
    · rw [hs.up i (hB.blk i b h1).1] at hb
      rcases hs.img k ⟨j, c, h2, hc⟩ with h | h
      · exact hout i b h1 g1 k hb h
      · have := hlt i b h1 k (.inl hb); omega
    · rw [hs.up i (hB.blk i b h1).1] at hb
      rw [hs.up j (hB.blk j c h2).1] at hc
      exact hB.inj i j b c h1 h2 hne k hb hc
  · obtain ⟨id, c, h1, h2⟩ := hk
    rcases hget id c h1 with h | ⟨h, hG⟩
    · rcases hs.img _ ⟨id, c, h, h2⟩ with h | h
      · exact .inl (himg _ h)
      · exact .inr h
    · rw [hs.up id (hB.blk id c h).1] at h2
      exact .inl ⟨id, c, h, h2⟩
  · obtain ⟨id, c, h1, h2⟩ := hk
    rcases hget id c h1 with h | ⟨h, hG⟩
    · rcases hs.imgM _ ⟨id, c, h, h2⟩ with h | h
      · exact .inl (himgM _ h)
      · exact .inr h
    · rw [hs.up id (hB.blk id c h).1] at h2
      exact .inl ⟨id, c, h, h2⟩

/-- A new block, at the end of a run, by a name that was kept for it. -/
theorem Step.snoc (st : Step ρ μ S H w μ' S' H' w') {b : ABlk} {p : Place} {i : Nat} (hi : ¬ S' i) (h0 : H.next ≤ i) (hin : i < H''.next) (hn : H'.next ≤ H''.next)
    (hH : ∀ id c, H''.m.get id = some c → (id = i ∧ b = c) ∨ (id ≠ i ∧ H'.m.get id = some c)) (hw : ∀ k, k < w'.heap.size → w''.heap[k]? = w'.heap[k]?) (hsz : w'.heap.size ≤ w''.heap.size)
    (ho : w''.os = w'.os) (ht : w''.tape = w'.tape) (hu : w''.output = w'.output) (hb : BRel ρ (μ'.at i p) (S'.and i) w'' p b) (hp : New μ' H' w' p b) :
    Step ρ μ S H w (μ'.at i p) (S'.and i) H'' w'' := by
  have hup := Mu.at_upto (S := S') μ' p hi
  refine ⟨st.rel.add hi hin hn hH (fun k hk => hw k (st.rel.img_lt hk)) hb (fun k hs hk => ?_) (fun k hs hk => ?_), st.up.trans hup st.sub, st.sub.trans (Ids.le_and _ _), fun id hid => ?_, Nat.le_trans st.next hn,
    ho.trans st.os, ht.trans st.tape, hu.trans st.output, Nat.le_trans st.size hsz, fun k hk hni => (hw k (Nat.lt_of_lt_of_le hk st.size)).trans (st.keep k hk hni), fun k hk => ?_, fun k hk => ?_⟩
  · have := hp.wr k hs; have := st.rel.img_lt hk; omega
  · rcases hp.rd k hs with h1 | h1
    · have := st.rel.img_lt hk.img; omega
    · exact h1.2 hk
  · rcases hid with hid | rfl
    · exact st.new id hid
    · exact .inr h0
  · obtain ⟨id, c, hc, hs⟩ := hk
    rcases hH id c hc with ⟨rfl, rfl⟩ | ⟨hne, hc⟩
    · rw [Mu.at_self] at hs
      rcases hs with hs | hs
      · exact .inr (Nat.le_trans st.size (hp.wr k hs))
      · rcases hp.rd k hs with h1 | h1
        · exact .inr (Nat.le_trans st.size h1)
        · exact st.img k h1.1
    · rw [Mu.at_ne μ' p hne] at hs; exact st.img _ ⟨id, c, hc, hs⟩
  · obtain ⟨id, c, hc, hs⟩ := hk
    rcases hH id c hc with ⟨rfl, rfl⟩ | ⟨hne, hc⟩
    · rw [Mu.at_self] at hs; exact .inr (Nat.le_trans st.size (hp.wr k hs))
    · rw [Mu.at_ne μ' p hne] at hs; exact st.imgM _ ⟨id, c, hc, hs⟩
end
end Go.Eng
