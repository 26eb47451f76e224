/- The engine, thirty-first part: a state told in other words: other names for new blocks, other symbols for its data. -/
import Derived.Test.YtkpobofljnokaaaGreatEng30
namespace Go.Eng

/-- How a state goes on, whatever its symbols stand for. -/
structure Mov (μ : Mu) (S : Ids) (H : AH) (w : World) (μ' : Mu) (S' : Ids) (H' : AH) (w' : World) : Prop where
  up : μ.upto S μ'
  sub : S.le S'
  new : ∀ id, S' id → S id ∨ H.next ≤ id
  next : H.next ≤ H'.next
  os : w'.os = w.os
  tape : w'.tape = w.tape
  output : w'.output = w.output
  size : w.heap.size ≤ w'.heap.size
  keep : ∀ k, k < w.heap.size → ¬ ImgM μ H k → w'.heap[k]? = w.heap[k]?
  img : ∀ k, Img μ' H' k → Img μ H k ∨ w.heap.size ≤ k
  imgM : ∀ k, ImgM μ' H' k → ImgM μ H k ∨ w.heap.size ≤ k

section
variable {K : Cfg} {ρ ρ1 ρ2 : Rho} {μ μ' μ'' μ1 μ2 : Mu} {S S' S'' S1 S2 : Ids} {H H' H'' H1 H2 : AH} {w w' w'' : World}

theorem Step.mov (h : Step ρ μ S H w μ' S' H' w') : Mov μ S H w μ' S' H' w' := ⟨h.up, h.sub, h.new, h.next, h.os, h.tape, h.output, h.size, h.keep, h.img, h.imgM⟩
theorem Mov.step (h : Mov μ S H w μ' S' H' w') (hr : Rel ρ μ' S' H' w') : Step ρ μ S H w μ' S' H' w' := ⟨hr, h.up, h.sub, h.new, h.next, h.os, h.tape, h.output, h.size, h.keep, h.img, h.imgM⟩
theorem Mov.refl : Mov μ S H w μ S H w := ⟨Mu.upto.refl _ _, Ids.le.refl _, fun _ h => .inl h, Nat.le_refl _, rfl, rfl, rfl, Nat.le_refl _, fun _ _ _ => rfl, fun _ h => .inl h, fun _ h => .inl h⟩
theorem Mov.trans (a : Mov μ S H w μ' S' H' w') (b : Mov μ' S' H' w' μ'' S'' H'' w'') : Mov μ S H w μ'' S'' H'' w'' where
  up := a.up.trans b.up a.sub
  sub := a.sub.trans b.sub
  new := fun id hid => by
    rcases b.new id hid with h | h
    · exact a.new id h
    · exact .inr (Nat.le_trans a.next h)
  next := Nat.le_trans a.next b.next
  os := b.os.trans a.os
  tape := b.tape.trans a.tape
  output := b.output.trans a.output
  size := Nat.le_trans a.size b.size
  keep := fun k hk hn => by
    rw [b.keep k (Nat.lt_of_lt_of_le hk a.size) fun hi => ?_, a.keep k hk hn]
    rcases a.imgM k hi with h | h
    · exact hn h
    · omega
  imgM := fun k hk => by
    rcases b.imgM k hk with h | h
    · exact a.imgM k h
    · exact .inr (Nat.le_trans a.size h)
  img := fun k hk => by
    rcases b.img k hk with h | h
    · exact a.img k h
    · exact .inr (Nat.le_trans a.size h)
end

/-! ### Canonical states: lists -/
def AH.of (next : Nat) (l : List (Nat × ABlk)) : AH := ⟨next, l.foldr (fun q m => m.set q.1 (some q.2)) .e⟩
def slotsOf (l : List (Nat × AVal)) : PM AVal := l.foldr (fun q m => m.set q.1 (some q.2)) .e

theorem foldr_get {α : Type} : ∀ {l : List (Nat × α)} {id : Nat} {b : α}, (l.foldr (fun q m => PM.set m q.1 (some q.2)) .e).get id = some b → (id, b) ∈ l
  | [], id, b, h => by simp [PM.get] at h
  | q :: l, id, b, h => by
    simp only [List.foldr_cons] at h
    rcases PM.get_set h with ⟨rfl, h1⟩ | ⟨_, h1⟩
    · cases h1; exact .head _
    · exact .tail _ (foldr_get h1)

/-- New names: each is an elder one's, or a slice of nothing. -/
structure Ren where
  base : Nat
  l : List (Nat × Nat)
  nils : List Nat

def Ren.assoc : List (Nat × Nat) → Nat → Option Nat
  | [], _ => none
  | (a, b) :: l, i => match Nat.beq a i with
    | true => some b
    | false => Ren.assoc l i

/-- Under which name it was known. -/
def Ren.get (r : Ren) (i : Nat) : Option Nat :=
  match Nat.blt i r.base with
  | true => some i
  | false => Ren.assoc r.l i

def sameId (o : Option Nat) (i : Nat) : Bool :=
  match o with
  | some j => Nat.beq j i
  | none => false

abbrev Pairs := List (Tm × Tm)

def capEq : ACap → ACap → Bool
  | .ex a, .ex b => Nat.beq a b
  | .el a, .el b => Nat.beq a b
  | _, _ => false

def onlyIf (b : Bool) (p : Pairs) : Option Pairs :=
  match b with
  | true => some p
  | false => none

def both2 : Option Pairs → Option Pairs → Option Pairs
  | some a, some b => some (a ++ b)
  | _, _ => none

/-- A value (first) in canonical words (second): which terms must stand for the same. -/
def camTm (k k' : IntKind) (a b : Tm) : Option Pairs := onlyIf (keq k k') [(a, b)]

mutual
def camV (r : Ren) : AVal → AVal → Option Pairs
  | .bool a, .bool b => onlyIf (beq2 a b) []
  | .int k a, .int k' b => onlyIf (keq k k' && ieq a b) []
  | .int k a, .sint k' b => camTm k k' (.lit a) b
  | .sint k a, .sint k' b => camTm k k' a b
  | .str a, .str b => onlyIf (leq a b) []
  | .ptr a o, .ptr b o' => onlyIf (sameId (r.get b) a && Nat.beq o o') []
  | .nilPtr, .nilPtr => some []
  | .slice a o l c, .slice b o' l' c' => onlyIf (sameId (r.get b) a && Nat.beq o o' && Nat.beq l l' && capEq c c') []
  | .nilSlice, .nilSlice => some []
  | .nilSlice, .ref b 0 => onlyIf (memN b r.nils) []
  | .map a, .map b => onlyIf (sameId (r.get b) a) []
  | .nilMap, .nilMap => some []
  | .func f a b, .func f' a' b' => match Nat.beq f f' with
    | true => both2 (camVs r a a') (camVs r b b')
    | false => none
  | .yield a, .yield b => onlyIf (sameId (r.get b) a) []
  | .nilFunc, .nilFunc => some []
  | .iface t v, .iface t' v' => match Nat.beq t t' with
    | true => camV r v v'
    | false => none
  | .nilIface, .nilIface => some []
  | .agg a, .agg b => camVs r a b
  | .tuple a, .tuple b => camVs r a b
  | .ref a j, .ref b j' => onlyIf (sameId (r.get b) a && Nat.beq j j') []
  | .eptr a j z i c, .eptr b j' z' i' c' => onlyIf (sameId (r.get b) a && Nat.beq j j' && Nat.beq z z' && Nat.beq c c') [(i, i')]
  | _, _ => none
def camVs (r : Ren) : List AVal → List AVal → Option Pairs
  | [], [] => some []
  | a :: l, b :: l' => both2 (camV r a b) (camVs r l l')
  | _, _ => none
end

def Agrees (ρ1 ρ2 : Rho) (p : Pairs) : Prop := ∀ q ∈ p, q.1.ev ρ1 = q.2.ev ρ2

theorem Agrees.left {ρ1 ρ2 : Rho} {a b : Pairs} (h : Agrees ρ1 ρ2 (a ++ b)) : Agrees ρ1 ρ2 a := fun q hq => h q (List.mem_append_left _ hq)
theorem Agrees.right {ρ1 ρ2 : Rho} {a b : Pairs} (h : Agrees ρ1 ρ2 (a ++ b)) : Agrees ρ1 ρ2 b := fun q hq => h q (List.mem_append_right _ hq)

theorem both2_some {a b : Option Pairs} {p : Pairs} (h : both2 a b = some p) : ∃ x y, a = some x ∧ b = some y ∧ p = x ++ y := by
  cases a with
  | none => cases h
  | some x =>
    cases b with
    | none => cases h
    | some y => simp only [both2, Option.some.injEq] at h; exact ⟨x, y, rfl, rfl, h.symm⟩
theorem onlyIf_some {b : Bool} {a p : Pairs} (h : onlyIf b a = some p) : b = true ∧ p = a := by
  cases b with
  | false => cases h
  | true => simp only [onlyIf, Option.some.injEq] at h; exact ⟨rfl, h.symm⟩
theorem sameId_eq {o : Option Nat} {i : Nat} (h : sameId o i = true) : o = some i := by
  cases o with
  | none => cases h
  | some j => rw [Nat.eq_of_beq_eq_true h]

/-- The new places, the new names. -/
def nilPlace : Place := ⟨0, 0, 0, [(none, 0, 0)], fun _ => False, fun _ => False⟩
def Ren.mu (r : Ren) (μ : Mu) : Mu := fun i => match r.get i with
  | some j => μ j
  | none => nilPlace
def Ren.ids (r : Ren) (S : Ids) : Ids := fun i => (∃ j, r.get i = some j ∧ S j) ∨ (r.get i = none ∧ i ∈ r.nils)

section
variable {ρ1 ρ2 : Rho} {μ : Mu} {S : Ids} {r : Ren}

theorem Ren.mu_some {i j : Nat} (h : r.get i = some j) : r.mu μ i = μ j := by simp [Ren.mu, h]
theorem Ren.ids_some {i j : Nat} (h : r.get i = some j) (hj : S j) : r.ids S i := .inl ⟨j, h, hj⟩

theorem memN_mem {n : Nat} {l : List Nat} (h : memN n l = true) : n ∈ l := by
  rw [memN_iff] at h
  simpa using h

theorem int_of {ρ1 ρ2 : Rho} {a b : Tm} (h : a.ev ρ1 = b.ev ρ2) : a.int ρ1 = b.int ρ2 := by simp [Tm.int, h]

mutual
theorem camV_sound (hn : ∀ i ∈ r.nils, r.get i = none) : ∀ (x y : AVal) (p : Pairs), camV r x y = some p → Agrees ρ1 ρ2 p → VR ρ1 μ S x → conc (r.mu μ) ρ2 y = conc μ ρ1 x ∧ VR ρ2 (r.mu μ) (r.ids S) y
  | x, y, p, h, ha, hv => by
    cases x <;> cases y <;> (try (simp [camV] at h; done))
    case bool.bool a b => obtain ⟨h1, _⟩ := onlyIf_some (by simpa only [camV] using h); rw [beq2_eq] at h1; simp at h1; subst h1; exact ⟨by simp [conc], VR.bool⟩
    case int.int k a k' b =>
      obtain ⟨h1, _⟩ := onlyIf_some (by simpa only [camV] using h)
      simp only [Bool.and_eq_true] at h1
      rw [keq_iff.1 h1.1, ieq_iff.1 h1.2]; exact ⟨by simp [conc], VR.int⟩
    case int.sint k a k' b =>
      obtain ⟨h1, rfl⟩ := onlyIf_some (by simpa only [camV, camTm] using h)
      have := int_of (ha _ (.head _))
      rw [int_lit] at this
      exact ⟨by simp [conc, keq_iff.1 h1, this], VR.sint⟩
    case sint.sint k a k' b =>
      obtain ⟨h1, rfl⟩ := onlyIf_some (by simpa only [camV, camTm] using h)
      have := int_of (ha _ (.head _))
      exact ⟨by simp [conc, keq_iff.1 h1, this], VR.sint⟩
    case str.str a b => obtain ⟨h1, _⟩ := onlyIf_some (by simpa only [camV] using h); rw [leq_iff.1 h1]; exact ⟨by simp [conc], VR.str⟩
    case ptr.ptr a o b o' =>
      obtain ⟨h1, _⟩ := onlyIf_some (by simpa only [camV] using h)
      simp only [Bool.and_eq_true] at h1
      have e := sameId_eq h1.1
      rw [← Nat.eq_of_beq_eq_true h1.2]
      exact ⟨by simp [conc, Ren.mu_some e], VR.ptr (Ren.ids_some e hv.of_ptr)⟩
    case nilPtr.nilPtr => exact ⟨by simp [conc], VR.nilPtr⟩
    case slice.slice a o l c b o' l' c' =>
      obtain ⟨h1, _⟩ := onlyIf_some (by simpa only [camV] using h)
      simp only [Bool.and_eq_true] at h1
      obtain ⟨⟨⟨h1, h2⟩, h3⟩, h4⟩ := h1
      have e := sameId_eq h1
      rw [← Nat.eq_of_beq_eq_true h2, ← Nat.eq_of_beq_eq_true h3]
      refine ⟨?_, VR.slice (Ren.ids_some e hv.of_slice)⟩
      cases c <;> cases c' <;> simp only [capEq] at h4 <;> first | (cases h4; done) | (rw [← Nat.eq_of_beq_eq_true h4]; simp [conc, Ren.mu_some e])
    case nilSlice.nilSlice => exact ⟨by simp [conc], VR.nilSlice⟩
    case nilSlice.ref b j =>
      cases j with
      | succ j => simp [camV] at h
      | zero =>
        obtain ⟨h1, _⟩ := onlyIf_some (by simpa only [camV] using h)
        have hm := memN_mem h1
        have e := hn b hm
        exact ⟨by simp [conc, Ren.mu, e, nilPlace, Place.val, hdr], VR.ref (.inr ⟨e, hm⟩)⟩
    case map.map a b =>
      obtain ⟨h1, _⟩ := onlyIf_some (by simpa only [camV] using h)
      have e := sameId_eq h1
      exact ⟨by simp [conc, Ren.mu_some e], VR.map (Ren.ids_some e hv.of_map)⟩
    case nilMap.nilMap => exact ⟨by simp [conc], VR.nilMap⟩
    case func.func f a b f' a' b' =>
      simp only [camV] at h
      split at h
      · rename_i hf
        obtain ⟨x, y, h1, h2, rfl⟩ := both2_some h
        obtain ⟨v1, v2⟩ := hv.of_func
        obtain ⟨g1, g2⟩ := camVs_sound hn a a' x h1 ha.left v1
        obtain ⟨g3, g4⟩ := camVs_sound hn b b' y h2 ha.right v2
        rw [← Nat.eq_of_beq_eq_true hf]
        exact ⟨by simp [conc, g1, g3], VR.func g2 g4⟩
      · cases h
    case yield.yield a b =>
      obtain ⟨h1, _⟩ := onlyIf_some (by simpa only [camV] using h)
      have e := sameId_eq h1
      exact ⟨by simp [conc, Ren.mu_some e], VR.yield (Ren.ids_some e hv.of_yield)⟩
    case nilFunc.nilFunc => exact ⟨by simp [conc], VR.nilFunc⟩
    case iface.iface t v t' v' =>
      simp only [camV] at h
      split at h
      · rename_i hf
        obtain ⟨g1, g2⟩ := camV_sound hn v v' p h ha hv.of_iface
        rw [← Nat.eq_of_beq_eq_true hf]
        exact ⟨by simp [conc, g1], VR.iface g2⟩
      · cases h
    case nilIface.nilIface => exact ⟨by simp [conc], VR.nilIface⟩
    case agg.agg a b =>
      obtain ⟨g1, g2⟩ := camVs_sound hn a b p (by simpa only [camV] using h) ha hv.of_agg
      exact ⟨by simp [conc, g1], VR.agg g2⟩
    case tuple.tuple a b =>
      obtain ⟨g1, g2⟩ := camVs_sound hn a b p (by simpa only [camV] using h) ha hv.of_tuple
      exact ⟨by simp [conc, g1], VR.tuple g2⟩
    case ref.ref a j b j' =>
      obtain ⟨h1, _⟩ := onlyIf_some (by simpa only [camV] using h)
      simp only [Bool.and_eq_true] at h1
      have e := sameId_eq h1.1
      rw [← Nat.eq_of_beq_eq_true h1.2]
      exact ⟨by simp [conc, Ren.mu_some e], VR.ref (Ren.ids_some e hv.of_ref)⟩
    case eptr.eptr a j z i c b j' z' i' c' =>
      obtain ⟨h1, rfl⟩ := onlyIf_some (by simpa only [camV] using h)
      simp only [Bool.and_eq_true] at h1
      obtain ⟨⟨⟨h1, h2⟩, h3⟩, h4⟩ := h1
      have e := sameId_eq h1
      have := int_of (ha _ (.head _))
      rw [← Nat.eq_of_beq_eq_true h2, ← Nat.eq_of_beq_eq_true h3, ← Nat.eq_of_beq_eq_true h4]
      exact ⟨by simp [conc, Ren.mu_some e, this], VR.eptr (Ren.ids_some e hv.of_eptr)⟩
theorem camVs_sound (hn : ∀ i ∈ r.nils, r.get i = none) : ∀ (x y : List AVal) (p : Pairs), camVs r x y = some p → Agrees ρ1 ρ2 p → VRs ρ1 μ S x → concs (r.mu μ) ρ2 y = concs μ ρ1 x ∧ VRs ρ2 (r.mu μ) (r.ids S) y
  | [], [], p, h, _, _ => ⟨rfl, VRs.nil⟩
  | a :: l, b :: l', p, h, ha, hv => by
    obtain ⟨x, y, h1, h2, rfl⟩ := both2_some (by simpa only [camVs] using h)
    obtain ⟨g1, g2⟩ := camV_sound hn a b x h1 ha.left (hv a (.head _))
    obtain ⟨g3, g4⟩ := camVs_sound hn l l' y h2 ha.right fun v hv' => hv v (.tail _ hv')
    exact ⟨by simp [concs, g1, g3], VRs.cons g2 g4⟩
  | [], _ :: _, p, h, _, _ => by simp [camVs] at h
  | _ :: _, [], p, h, _, _ => by simp [camVs] at h
end
end

/-! ### Blocks -/
def camEs (r : Ren) : List AEnt → List AEnt → Option Pairs
  | [], [] => some []
  | ⟨k, v, n⟩ :: l, ⟨k', v', n'⟩ :: l' => match Nat.beq n n' with
    | true => both2 (both2 (camV r k k') (camV r v v')) (camEs r l l')
    | false => none
  | _, _ => none

def camPs : List PComp → List PComp → Option Pairs
  | [], [] => some []
  | ⟨s, t, f⟩ :: l, ⟨s', t', f'⟩ :: l' => match shEqs s s', (f || !f') with
    | true, true => both2 (some [(t, t')]) (camPs l l')
    | _, _ => none
  | _, _ => none

def noneEq : Option Nat → Option Nat → Bool
  | none, none => true
  | _, _ => false

def lNs : List Nat → List Nat → Bool
  | [], [] => true
  | a :: l, b :: r => match Nat.beq a b with
    | true => lNs l r
    | false => false
  | _, _ => false

/-- A block (first) in canonical words. -/
def camB (r : Ren) : ABlk → ABlk → Option Pairs
  | .cells l w z, .cells l' w' z' => match beq2 w w', Nat.beq z z' with
    | true, true => camVs r l l'
    | _, _ => none
  | .map es c, .map es' c' => match Nat.beq c c' with
    | true => camEs r es es'
    | false => none
  | .miter (some m) a b c, .miter (some m') a' b' c' => onlyIf (sameId (r.get m') m && Nat.beq a a' && lNs b b' && Nat.beq c c') []
  | .siter s p, .siter s' p' => onlyIf (leq s s' && Nat.beq p p') []
  | .dfr a, .dfr b => onlyIf (beq2 a b) []
  | .pack l o, .pack l' o' => match beq2 o o' with
    | true => camPs l l'
    | false => none
  | .obj t d m, .obj t' d' m' => onlyIf (Nat.beq t t' && beq2 m m') [(d, d')]
  | _, _ => none

/-- A new block that stands for a nil slice. -/
def camNil : ABlk → Option Pairs
  | .pack [⟨_, t, _⟩] _ => some [(.op (.rows 0 0) [], t)]
  | _ => none

def camOne (r : Ren) (H : AH) (id : Nat) (b : ABlk) : Option Pairs :=
  match r.get id with
  | some j => match H.m.get j with
    | some b1 => camB r b1 b
    | none => none
  | none => match memN id r.nils with
    | true => camNil b
    | false => none

def camBs (r : Ren) (H : AH) : List (Nat × ABlk) → Option Pairs
  | [] => some []
  | (id, b) :: l => both2 (camOne r H id b) (camBs r H l)

/-- The names are fine: new ones from the base on, each another, and below the end. -/
def renOK (base next : Nat) : List (Nat × Nat) → Bool
  | [] => true
  | (a, b) :: l => Nat.ble base b && Nat.blt a next && !(memN b (l.map (·.2))) && renOK base next l
def nilsOK (base next : Nat) (l : List (Nat × Nat)) : List Nat → Bool
  | [] => true
  | a :: r => Nat.ble base a && Nat.blt a next && !(memN a (l.map (·.1))) && nilsOK base next l r

def Ren.ok (r : Ren) (next : Nat) : Bool := Nat.ble r.base next && renOK r.base next r.l && nilsOK r.base next r.l r.nils

section
variable {ρ1 ρ2 : Rho} {μ : Mu} {S : Ids} {r : Ren} {H : AH} {w : World}

theorem assoc_mem : ∀ {l : List (Nat × Nat)} {i j : Nat}, Ren.assoc l i = some j → (i, j) ∈ l
  | [], _, _, h => by cases h
  | (a, b) :: l, i, j, h => by
    unfold Ren.assoc at h
    split at h
    · rename_i hb; cases h; rw [Nat.eq_of_beq_eq_true hb]; exact .head _
    · exact .tail _ (assoc_mem h)
theorem assoc_none : ∀ {l : List (Nat × Nat)} {i : Nat}, i ∉ l.map (·.1) → Ren.assoc l i = none
  | [], _, _ => rfl
  | (a, b) :: l, i, h => by
    simp only [List.map_cons, List.mem_cons, not_or] at h
    unfold Ren.assoc
    have : Nat.beq a i = false := by
      cases hb : Nat.beq a i with
      | false => rfl
      | true => exact absurd (Nat.eq_of_beq_eq_true hb).symm h.1
    rw [this]; exact assoc_none h.2

theorem renOK_all {base next : Nat} : ∀ {l : List (Nat × Nat)}, renOK base next l = true → (∀ a b, (a, b) ∈ l → base ≤ b ∧ a < next)
  | [], _, a, b, h => by cases h
  | (x, y) :: l, h, a, b, hm => by
    simp only [renOK, Bool.and_eq_true] at h
    obtain ⟨⟨⟨h1, h2⟩, h3⟩, h4⟩ := h
    cases hm with
    | head => exact ⟨Nat.le_of_ble_eq_true h1, Nat.le_of_ble_eq_true h2⟩
    | tail _ hm => exact renOK_all h4 a b hm
theorem not_memN {n : Nat} {l : List Nat} (h : (!memN n l) = true) : n ∉ l := by
  simp only [Bool.not_eq_true', memN_iff] at h
  simpa using h
theorem renOK_inj {base next : Nat} : ∀ {l : List (Nat × Nat)}, renOK base next l = true → ∀ a b c, (a, c) ∈ l → (b, c) ∈ l → a = b ∨ ∃ d, (a, d) ∈ l ∧ False
  | [], _, a, b, c, h, _ => by cases h
  | (x, y) :: l, h, a, b, c, h1, h2 => by
    simp only [renOK, Bool.and_eq_true] at h
    obtain ⟨⟨⟨_, _⟩, h3⟩, h4⟩ := h
    have hy := not_memN h3
    cases h1 with
    | head =>
      cases h2 with
      | head => exact .inl rfl
      | tail _ h2 => exact absurd (List.mem_map.2 ⟨(b, y), h2, rfl⟩) hy
    | tail _ h1 =>
      cases h2 with
      | head => exact absurd (List.mem_map.2 ⟨(a, y), h1, rfl⟩) hy
      | tail _ h2 =>
        rcases renOK_inj h4 a b c h1 h2 with q | ⟨_, _, q⟩
        · exact .inl q
        · exact q.elim

theorem nilsOK_all {base next : Nat} {l : List (Nat × Nat)} : ∀ {r : List Nat}, nilsOK base next l r = true → ∀ a ∈ r, base ≤ a ∧ a < next ∧ a ∉ l.map (·.1)
  | [], _, a, h => by cases h
  | x :: r, h, a, hm => by
    simp only [nilsOK, Bool.and_eq_true] at h
    obtain ⟨⟨⟨h1, h2⟩, h3⟩, h4⟩ := h
    cases hm with
    | head => exact ⟨Nat.le_of_ble_eq_true h1, Nat.le_of_ble_eq_true h2, not_memN h3⟩
    | tail _ hm => exact nilsOK_all h4 a hm

structure RenR (r : Ren) (next : Nat) : Prop where
  base : r.base ≤ next
  lt : ∀ i j, r.get i = some j → i < next
  inj : ∀ i i' j, r.get i = some j → r.get i' = some j → i = i'
  low : ∀ i, i < r.base → r.get i = some i
  high : ∀ i j, r.base ≤ i → r.get i = some j → r.base ≤ j
  nil : ∀ i ∈ r.nils, r.get i = none ∧ i < next ∧ r.base ≤ i

theorem Ren.ok_sound {next : Nat} (h : r.ok next = true) : RenR r next := by
  simp only [Ren.ok, Bool.and_eq_true] at h
  obtain ⟨⟨h1, h2⟩, h3⟩ := h
  have hb := Nat.le_of_ble_eq_true h1
  have low : ∀ i, i < r.base → r.get i = some i := fun i hi => by
    unfold Ren.get
    rw [show Nat.blt i r.base = true from Nat.ble_eq_true_of_le hi]
  have get' : ∀ i j, r.get i = some j → (i < r.base ∧ j = i) ∨ (r.base ≤ i ∧ (i, j) ∈ r.l) := by
    intro i j h
    unfold Ren.get at h
    split at h
    · rename_i hlt; cases h; exact .inl ⟨Nat.le_of_ble_eq_true hlt, rfl⟩
    · rename_i hlt
      right
      refine ⟨Nat.le_of_not_lt fun q => ?_, assoc_mem h⟩
      rw [show Nat.blt i r.base = true from Nat.ble_eq_true_of_le q] at hlt; cases hlt
  refine ⟨hb, fun i j h => ?_, fun i i' j h h' => ?_, low, fun i j hi h => ?_, fun i hi => ?_⟩
  · rcases get' i j h with ⟨q, _⟩ | ⟨_, q⟩
    · omega
    · exact (renOK_all h2 i j q).2
  · rcases get' i j h with ⟨q1, q2⟩ | ⟨q1, q2⟩ <;> rcases get' i' j h' with ⟨q3, q4⟩ | ⟨q3, q4⟩
    · omega
    · have := (renOK_all h2 i' j q4).1; omega
    · have := (renOK_all h2 i j q2).1; omega
    · rcases renOK_inj h2 i i' j q2 q4 with q | ⟨_, _, q⟩
      · exact q
      · exact q.elim
  · rcases get' i j h with ⟨q, _⟩ | ⟨_, q⟩
    · omega
    · exact (renOK_all h2 i j q).1
  · obtain ⟨q1, q2, q3⟩ := nilsOK_all h3 i hi
    refine ⟨?_, q2, q1⟩
    unfold Ren.get
    have : Nat.blt i r.base = false := by
      cases hb : Nat.blt i r.base with
      | false => rfl
      | true => have : i < r.base := Nat.le_of_ble_eq_true hb; omega
    rw [this]; exact assoc_none q3

theorem camEs_sound (hn : ∀ i ∈ r.nils, r.get i = none) : ∀ (x y : List AEnt) (p : Pairs), camEs r x y = some p → Agrees ρ1 ρ2 p → (∀ e ∈ x, VR ρ1 μ S e.key ∧ VR ρ1 μ S e.val) →
    y.map (fun e => (⟨conc (r.mu μ) ρ2 e.key, conc (r.mu μ) ρ2 e.val, e.born⟩ : MapEntry)) = x.map (fun e => ⟨conc μ ρ1 e.key, conc μ ρ1 e.val, e.born⟩) ∧ ∀ e ∈ y, VR ρ2 (r.mu μ) (r.ids S) e.key ∧ VR ρ2 (r.mu μ) (r.ids S) e.val
  | [], [], p, _, _, _ => by simp
  | [], _ :: _, p, h, _, _ => by simp [camEs] at h
  | ⟨_, _, _⟩ :: _, [], p, h, _, _ => by simp [camEs] at h
  | ⟨k, v, n⟩ :: l, ⟨k', v', n'⟩ :: l', p, h, ha, hv => by
    simp only [camEs] at h
    split at h
    · rename_i hnn
      obtain ⟨x, y, h1, h2, rfl⟩ := both2_some h
      obtain ⟨x1, x2, h3, h4, rfl⟩ := both2_some h1
      obtain ⟨v1, v2⟩ := hv _ (.head _)
      obtain ⟨g1, g2⟩ := camV_sound hn _ _ _ h3 ha.left.left v1
      obtain ⟨g3, g4⟩ := camV_sound hn _ _ _ h4 ha.left.right v2
      obtain ⟨g5, g6⟩ := camEs_sound hn l l' y h2 ha.right fun e he => hv e (.tail _ he)
      refine ⟨by simp [g1, g3, g5, Nat.eq_of_beq_eq_true hnn], fun e he => ?_⟩
      cases he with
      | head => exact ⟨g2, g4⟩
      | tail _ he => exact g6 e he
    · cases h

theorem camPs_sound {p0 : Place} {own : Bool} : ∀ (x y : List PComp) (p : Pairs), camPs x y = some p → Agrees ρ1 ρ2 p → ∀ (j : Nat) (c : PComp), y[j]? = some c → ∃ c1, x[j]? = some c1 ∧ ∀ q, TRel ρ1 w p0 own c1 q → TRel ρ2 w p0 own c q
  | [], [], p, _, _, j, c, h => by simp at h
  | [], _ :: _, p, h, _, _, _, _ => by simp [camPs] at h
  | ⟨_, _, _⟩ :: _, [], p, h, _, _, _, _ => by simp [camPs] at h
  | ⟨s, t, f⟩ :: l, ⟨s', t', f'⟩ :: l', p, h, ha, j, c, hj => by
    simp only [camPs] at h
    split at h
    · rename_i h1 h2
      obtain ⟨x, y, e1, e2, rfl⟩ := both2_some h
      cases e1
      cases j with
      | zero =>
        simp at hj
        subst hj
        refine ⟨_, rfl, fun q hq => ?_⟩
        have := shEqs_eq _ _ h1
        subst this
        have he : t.ev ρ1 = t'.ev ρ2 := ha (t, t') (by simp)
        unfold TRel at hq ⊢
        simp only [he] at hq
        rcases hq with hq | ⟨b, o, cap, q1, q2, q3, q4⟩
        · exact .inl hq
        · refine .inr ⟨b, o, cap, q1, q2, fun hf => q3 ?_, q4⟩
          subst hf; simpa using h2
      | succ j => exact camPs_sound l l' y e2 ha.right j c (by simpa using hj)
    · cases h

/-- What a canonical block says. -/
theorem camB_sound (hn : ∀ i ∈ r.nils, r.get i = none) (ho : ρ2.o = ρ1.o) {b1 b2 : ABlk} {p : Pairs} {p0 : Place} (h : camB r b1 b2 = some p) (ha : Agrees ρ1 ρ2 p) (hb : BRel ρ1 μ S w p0 b1) :
    BRel ρ2 (r.mu μ) (r.ids S) w p0 b2 ∧ (∀ k, b2.wr p0 k → b1.wr p0 k) ∧ (∀ k, b2.rd p0 k → b1.rd p0 k) := by
  cases b1 <;> cases b2 <;> (try (simp [camB] at h; done))
  case cells.cells l wr z l' wr' z' =>
    simp only [camB] at h
    split at h
    · rename_i h1 h2
      rw [beq2_eq] at h1; simp at h1; subst h1
      have := Nat.eq_of_beq_eq_true h2
      subst this
      obtain ⟨g1, g2⟩ := camVs_sound hn l l' p h ha hb.1
      have hlen : l'.length = l.length := by rw [← concs_length (r.mu μ) ρ2 l', g1, concs_length]
      refine ⟨⟨g2, ?_⟩, fun k hk => hk, fun k hk => ⟨hk.1, ?_, hk.2.2⟩⟩
      · rcases hb.2 with ⟨h3, h4⟩ | ⟨cs, E, fz, k1, k2, k3, k4⟩
        · left; exact ⟨h3, List.length_eq_zero_iff.1 (by rw [hlen, h4]; rfl)⟩
        · refine .inr ⟨cs, E, fz, k1, fun i v hv => ?_, k3, k4⟩
          have e1 : (concs (r.mu μ) ρ2 l')[i]? = some (conc (r.mu μ) ρ2 v) := by rw [concs_eq, List.getElem?_map, hv]; rfl
          rw [g1, concs_eq, List.getElem?_map] at e1
          cases hl : l[i]? with
          | none => rw [hl] at e1; cases e1
          | some v1 =>
            rw [hl] at e1
            simp only [Option.map_some, Option.some.injEq] at e1
            rw [← e1]; exact k2 i v1 hl
      · intro e; exact hk.2.1 (List.length_eq_zero_iff.1 (by rw [hlen, e]; rfl))
    · cases h
  case map.map es c es' c' =>
    simp only [camB] at h
    split at h
    · rename_i h1
      have := Nat.eq_of_beq_eq_true h1
      subst this
      obtain ⟨q1, es2, q2, q3⟩ := hb
      obtain ⟨g1, g2⟩ := camEs_sound hn es es' p h ha q1
      exact ⟨⟨g2, es2, q2, q3.trans g1.symm⟩, fun k hk => hk, fun k hk => hk⟩
    · cases h
  case miter.miter m a b c m' a' b' c' =>
    cases m with
    | none => simp [camB] at h
    | some m =>
      cases m' with
      | none => simp [camB] at h
      | some m' =>
        obtain ⟨h1, _⟩ := onlyIf_some (by simpa only [camB] using h)
        simp only [Bool.and_eq_true] at h1
        obtain ⟨⟨⟨h1, h2⟩, h3⟩, h4⟩ := h1
        have e := sameId_eq h1
        have e3 : ∀ (x y : List Nat), lNs x y = true → x = y := by
          intro x
          induction x with
          | nil => intro y hy; cases y <;> simp [lNs] at hy ⊢
          | cons a x ih =>
            intro y hy
            cases y with
            | nil => simp [lNs] at hy
            | cons b y =>
              simp only [lNs] at hy
              split at hy
              · rename_i hab; rw [Nat.eq_of_beq_eq_true hab, ih y hy]
              · cases hy
        rw [← Nat.eq_of_beq_eq_true h2, ← e3 _ _ h3, ← Nat.eq_of_beq_eq_true h4]
        obtain ⟨q1, q2, q3⟩ := hb
        refine ⟨⟨q1, fun x hx => ?_, ?_⟩, fun k hk => hk, fun k hk => hk⟩
        · cases hx; exact Ren.ids_some e (q2 m rfl)
        · rw [q3]; simp [Ren.mu_some e]
  case siter.siter s p1 s' p2 =>
    obtain ⟨h1, _⟩ := onlyIf_some (by simpa only [camB] using h)
    simp only [Bool.and_eq_true] at h1
    rw [← leq_iff.1 h1.1, ← Nat.eq_of_beq_eq_true h1.2]
    exact ⟨hb, fun k hk => hk, fun k hk => hk⟩
  case dfr.dfr a b =>
    obtain ⟨h1, _⟩ := onlyIf_some (by simpa only [camB] using h)
    rw [beq2_eq] at h1; simp at h1; subst h1
    exact ⟨hb, fun k hk => hk, fun k hk => hk⟩
  case pack.pack l o l' o' =>
    simp only [camB] at h
    split at h
    · rename_i h1
      rw [beq2_eq] at h1; simp at h1; subst h1
      obtain ⟨q1, q2, q3⟩ := hb
      refine ⟨⟨q1, q2, fun j c hj => ?_⟩, fun k hk => hk, fun k hk => hk⟩
      obtain ⟨c1, g1, g2⟩ := camPs_sound (w := w) (p0 := p0) (own := o) l l' p h ha j c hj
      exact g2 _ (q3 j c1 g1)
    · cases h
  case obj.obj t d m t' d' m' =>
    obtain ⟨h1, rfl⟩ := onlyIf_some (by simpa only [camB] using h)
    simp only [Bool.and_eq_true] at h1
    obtain ⟨h1, h2⟩ := h1
    rw [beq2_eq] at h2; simp at h2; subst h2
    have := Nat.eq_of_beq_eq_true h1
    subst this
    obtain ⟨q1, q2⟩ := hb
    refine ⟨⟨q1, ?_⟩, fun k hk => hk, fun k hk => hk⟩
    rw [ho, ← ha (d, d') (.head _)]; exact q2

theorem camBs_mem : ∀ {l : List (Nat × ABlk)} {p : Pairs}, camBs r H l = some p → ∀ id b, (id, b) ∈ l → ∃ q, camOne r H id b = some q ∧ ∀ x ∈ q, x ∈ p
  | [], p, _, id, b, h => by cases h
  | (i, c) :: l, p, h, id, b, hm => by
    obtain ⟨x, y, h1, h2, rfl⟩ := both2_some (by simpa only [camBs] using h)
    cases hm with
    | head => exact ⟨x, h1, fun q hq => List.mem_append_left _ hq⟩
    | tail _ hm =>
      obtain ⟨q, g1, g2⟩ := camBs_mem h2 id b hm
      exact ⟨q, g1, fun z hz => List.mem_append_right _ (g2 z hz)⟩

/-- A canonical state says no more than the state that it is made of. -/
theorem canon_rel (ho : ρ2.o = ρ1.o) {next : Nat} {l : List (Nat × ABlk)} {p : Pairs} (hok : r.ok next = true) (hb : camBs r H l = some p) (ha : Agrees ρ1 ρ2 p) (h : Rel ρ1 μ S H w) :
    Rel ρ2 (r.mu μ) (r.ids S) (AH.of next l) w ∧ (∀ k, Img (r.mu μ) (AH.of next l) k → Img μ H k) ∧ (∀ k, ImgM (r.mu μ) (AH.of next l) k → ImgM μ H k) := by
  have R := Ren.ok_sound hok
  have hn : ∀ i ∈ r.nils, r.get i = none := fun i hi => (R.nil i hi).1
  -- each block: an elder one's, or a nil slice
  have key : ∀ id b, (AH.of next l).m.get id = some b → (∃ j b1, r.get id = some j ∧ H.m.get j = some b1 ∧ S j ∧ BRel ρ2 (r.mu μ) (r.ids S) w (μ j) b ∧ (∀ k, b.wr (μ j) k → b1.wr (μ j) k) ∧ (∀ k, b.rd (μ j) k → b1.rd (μ j) k)) ∨
      (r.get id = none ∧ id ∈ r.nils ∧ BRel ρ2 (r.mu μ) (r.ids S) w nilPlace b ∧ ∀ k, ¬ b.at nilPlace k) := by
    intro id b hg
    obtain ⟨q, h1, h2⟩ := camBs_mem hb id b (foldr_get hg)
    have haq : Agrees ρ1 ρ2 q := fun z hz => ha z (h2 z hz)
    unfold camOne at h1
    split at h1
    · rename_i j hj
      split at h1
      · rename_i b1 hb1
        obtain ⟨hS, hB⟩ := h.blk j b1 hb1
        obtain ⟨g1, g2, g3⟩ := camB_sound hn ho h1 haq hB
        exact .inl ⟨j, b1, hj, hb1, hS, g1, g2, g3⟩
      · cases h1
    · rename_i hj
      split at h1
      · rename_i hm
        unfold camNil at h1
        split at h1
        · rename_i sh t f own
          cases h1
          have he := haq _ (.head _)
          refine .inr ⟨hj, memN_mem hm, ⟨fun k hk => hk.elim, fun k hk => hk.elim, fun jj c hc => ?_⟩, fun k hk => ?_⟩
          · cases jj with
            | zero =>
              simp at hc; subst hc
              refine .inl ⟨rfl, ?_⟩
              rw [← he]; simp [Tm.ev, BOp.ev, rowsOf, Dat.rows]
            | succ jj => simp at hc
          · rcases hk with hk | hk
            · exact hk.2
            · exact hk
        · cases h1
      · cases h1
  have place : ∀ id j, r.get id = some j → (r.mu μ) id = μ j := fun id j hj => Ren.mu_some hj
  have placeN : ∀ id, r.get id = none → (r.mu μ) id = nilPlace := fun id hj => by simp [Ren.mu, hj]
  refine ⟨⟨fun id hid => ?_, fun id b hg => ?_, fun i j b c hi hj hne k hw hc => ?_⟩, fun k hk => ?_, fun k hk => ?_⟩
  · rcases hid with ⟨j, hj, _⟩ | ⟨_, hid⟩
    · exact R.lt id j hj
    · exact (R.nil id hid).2.1
  · rcases key id b hg with ⟨j, b1, h1, h2, h3, h4, _⟩ | ⟨h1, h2, h3, _⟩
    · exact ⟨.inl ⟨j, h1, h3⟩, by rw [place id j h1]; exact h4⟩
    · exact ⟨.inr ⟨h1, h2⟩, by rw [placeN id h1]; exact h3⟩
  · rcases key i b hi with ⟨i1, b1, h1, h2, _, _, h5, h6⟩ | ⟨h1, _, _, h4⟩
    · rcases key j c hj with ⟨j1, c1, g1, g2, _, _, g5, g6⟩ | ⟨g1, _, _, g4⟩
      · rw [place i i1 h1] at hw
        rw [place j j1 g1] at hc
        refine h.inj i1 j1 b1 c1 h2 g2 (fun e => hne (R.inj i j i1 h1 (e ▸ g1))) k (h5 k hw) ?_
        exact hc.elim (fun q => .inl (g5 k q)) fun q => .inr (g6 k q)
      · rw [placeN j g1] at hc; exact g4 k hc
    · rw [placeN i h1] at hw; exact h4 k (.inl hw)
  · obtain ⟨id, b, hg, hat⟩ := hk
    rcases key id b hg with ⟨j, b1, h1, h2, _, _, h5, h6⟩ | ⟨h1, _, _, h4⟩
    · rw [place id j h1] at hat
      exact ⟨j, b1, h2, hat.elim (fun q => .inl (h5 k q)) fun q => .inr (h6 k q)⟩
    · rw [placeN id h1] at hat; exact absurd hat (h4 k)
  · obtain ⟨id, b, hg, hat⟩ := hk
    rcases key id b hg with ⟨j, b1, h1, h2, _, _, h5, h6⟩ | ⟨h1, _, _, h4⟩
    · rw [place id j h1] at hat
      exact ⟨j, b1, h2, h5 k hat⟩
    · rw [placeN id h1] at hat; exact absurd (.inl hat) (h4 k)

theorem canon_mov {μ0 : Mu} {S0 : Ids} {H0 : AH} {w0 : World} {next : Nat} {l : List (Nat × ABlk)} (hok : r.ok next = true) (hb0 : H0.next ≤ r.base) (hbnd : ∀ id, S0 id → id < H0.next)
    (hi : ∀ k, Img (r.mu μ) (AH.of next l) k → Img μ H k) (hm : ∀ k, ImgM (r.mu μ) (AH.of next l) k → ImgM μ H k) (h : Mov μ0 S0 H0 w0 μ S H w) : Mov μ0 S0 H0 w0 (r.mu μ) (r.ids S) (AH.of next l) w := by
  have R := Ren.ok_sound hok
  refine ⟨fun id hid => ?_, fun id hid => ?_, fun id hid => ?_, Nat.le_trans hb0 R.base, h.os, h.tape, h.output, h.size, h.keep, fun k hk => h.img k (hi k hk), fun k hk => h.imgM k (hm k hk)⟩
  · have := hbnd id hid
    rw [Ren.mu_some (R.low id (by omega))]; exact h.up id hid
  · have := hbnd id hid
    exact .inl ⟨id, R.low id (by omega), h.sub id hid⟩
  · by_cases hlt : id < r.base
    · rcases hid with ⟨j, hj, hS⟩ | ⟨hj, _⟩
      · rw [R.low id hlt] at hj
        cases hj
        exact h.new id hS
      · rw [R.low id hlt] at hj; cases hj
    · exact .inr (by omega)
end
end Go.Eng
