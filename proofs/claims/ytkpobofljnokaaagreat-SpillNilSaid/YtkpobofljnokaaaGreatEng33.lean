/- The engine, thirty-third part: contracts: what is proved of a function at one small state holds wherever that state is found. -/
import Derived.Test.YtkpobofljnokaaaGreatEng32
namespace Go.Eng

/-! ### Terms put for symbols -/
mutual
def substT (τ : List (Nat × Tm)) : Tm → Tm
  | .lit n => .lit n
  | .sym i => match tauOf τ i with
    | some t => t
    | none => .lit 0
  | .op o l => .op o (substTs τ l)
  | .fn o l => .fn o (substTs τ l)
def substTs (τ : List (Nat × Tm)) : List Tm → List Tm
  | [] => []
  | t :: l => substT τ t :: substTs τ l
def tauOf : List (Nat × Tm) → Nat → Option Tm
  | [], _ => none
  | (j, t) :: l, i => match Nat.beq j i with
    | true => some t
    | false => tauOf l i
end

/-- What the contract's symbols stand for. -/
def Rho.sub (ρ : Rho) (τ : List (Nat × Tm)) : Rho := { ρ with s := fun i => match tauOf τ i with | some t => t.ev ρ | none => .n 0 }

mutual
theorem substT_ev (ρ : Rho) (τ : List (Nat × Tm)) : ∀ t : Tm, (substT τ t).ev ρ = t.ev (ρ.sub τ)
  | .lit n => by simp [substT, Tm.ev]
  | .sym i => by
    simp only [substT, Tm.ev, Rho.sub]
    cases tauOf τ i <;> simp [Tm.ev]
  | .op o l => by simp [substT, Tm.ev, substTs_ev ρ τ l]
  | .fn o l => by simp [substT, Tm.ev, substTs_ev ρ τ l]; rfl
theorem substTs_ev (ρ : Rho) (τ : List (Nat × Tm)) : ∀ l : List Tm, Tm.evs ρ (substTs τ l) = Tm.evs (ρ.sub τ) l
  | [] => by simp [substTs, Tm.evs]
  | t :: l => by simp [substTs, Tm.evs, substT_ev ρ τ t, substTs_ev ρ τ l]
end

def substF (τ : List (Nat × Tm)) : Fact → Fact
  | .lt a b => .lt (substT τ a) (substT τ b)
  | .le a b => .le (substT τ a) (substT τ b)
  | .eq a b => .eq (substT τ a) (substT τ b)
  | .ne a b => .ne (substT τ a) (substT τ b)
  | .rng k a => .rng k (substT τ a)

theorem substF_holds {ρ : Rho} {τ : List (Nat × Tm)} {f : Fact} (h : (substF τ f).holds ρ) : f.holds (ρ.sub τ) := by
  cases f <;> simp only [substF, Fact.holds, Tm.int, substT_ev] at h ⊢ <;> exact h

/-- Facts that numbers alone tell. -/
def plainF : Fact → Bool
  | .lt (.lit a) (.lit b) => !(ile b a)
  | .le (.lit a) (.lit b) => ile a b
  | .eq (.lit a) (.lit b) => ieq a b
  | .ne (.lit a) (.lit b) => !(ieq a b)
  | .rng k (.lit a) => ile k.min a && ile a k.max
  | .le a b => teq a b
  | .eq a b => teq a b
  | _ => false

theorem plainF_holds {ρ : Rho} {f : Fact} (h : plainF f = true) : f.holds ρ := by
  unfold plainF at h
  split at h
  · simp only [Bool.not_eq_true'] at h; have := ile_not.1 h; simpa [Fact.holds, int_lit] using this
  · have := ile_iff.1 h; simpa [Fact.holds, int_lit] using this
  · have := ieq_iff.1 h; simpa [Fact.holds, int_lit] using this
  · simp only [Bool.not_eq_true'] at h
    simp only [Fact.holds, int_lit]
    intro e; rw [ieq_iff.2 e] at h; cases h
  · simp only [Bool.and_eq_true] at h
    have h1 := ile_iff.1 h.1
    have h2 := ile_iff.1 h.2
    simpa [Fact.holds, int_lit] using And.intro h1 h2
  · simp only [Fact.holds]; rw [teq_eq _ _ h]; exact Int.le_refl _
  · simp only [Fact.holds]; rw [teq_eq _ _ h]
  · cases h

def factOK (g : List Fact) (f : Fact) : Bool := plainF f || known f g

def preOK (g : List Fact) (τ : List (Nat × Tm)) : List Fact → Bool
  | [] => true
  | f :: l => match factOK g (substF τ f) with
    | true => preOK g τ l
    | false => false

theorem preOK_sound {ρ : Rho} {g : List Fact} {τ : List (Nat × Tm)} (hS : AllHold ρ g) : ∀ {l : List Fact}, preOK g τ l = true → AllHold (ρ.sub τ) l
  | [], _ => fun _ h => by cases h
  | f :: l, h => by
    unfold preOK at h
    split at h
    · rename_i h1
      intro x hx
      cases hx with
      | head =>
        simp only [factOK, Bool.or_eq_true] at h1
        exact substF_holds (h1.elim plainF_holds fun q => hS.of q)
      | tail _ hx => exact preOK_sound hS h x hx
    · cases h

/-! ### A contract -/
structure Ctr where
  f : FuncId
  args : List AVal
  next : Nat
  blks : List (Nat × ABlk)
  pre : List Fact
  res : AVal
  next' : Nat
  blks' : List (Nat × ABlk)

/-- What the names of functions and of opaque things stand for, once and for all. -/
structure World0 where
  f : Nat → List Dat → Dat
  o : Nat → Dat → World → Place → Prop

def Rho.fits (ρ : Rho) (W : World0) : Prop := ρ.f = W.f ∧ ρ.o = W.o

def Ctr.Valid (C : Ctr) (P : Program) (W : World0) : Prop :=
  ∀ ρ : Rho, ρ.fits W → AllHold ρ C.pre → JobX P ρ (AH.of C.next C.blks) ρ (AH.of C.next' C.blks') (.call C.f C.args) (.val C.res)

/-! What is put for names and symbols where a contract is used: found by looking; each is checked then. -/
structure Bind where
  σ : List (Nat × Nat)
  τ : List (Nat × Tm)
  nils : List Nat

def Bind.name (B : Bind) (i j : Nat) : Bind :=
  match Ren.assoc B.σ i with
  | some _ => B
  | none => ⟨(i, j) :: B.σ, B.τ, B.nils⟩
def Bind.sym (B : Bind) (i : Nat) (t : Tm) : Bind :=
  match tauOf B.τ i with
  | some _ => B
  | none => ⟨B.σ, (i, t) :: B.τ, B.nils⟩
def Bind.nil (B : Bind) (i : Nat) : Bind :=
  match memN i B.nils with
  | true => B
  | false => ⟨B.σ, B.τ, i :: B.nils⟩
def Bind.term (B : Bind) : Tm → Tm → Bind
  | .sym i, t => B.sym i t
  | _, _ => B

mutual
def bindV (B : Bind) : AVal → AVal → Bind
  | .sint _ p, .int _ n => B.term p (.lit n)
  | .sint _ p, .sint _ t => B.term p t
  | .ptr b _, .ptr b' _ => B.name b b'
  | .slice b _ _ _, .slice b' _ _ _ => B.name b b'
  | .map r, .map r' => B.name r r'
  | .ref r _, .ref r' _ => B.name r r'
  | .ref r _, .nilSlice => B.nil r
  | .eptr r _ _ p _, .eptr r' _ _ t _ => (B.name r r').term p t
  | .iface _ v, .iface _ v' => bindV B v v'
  | .func _ a b, .func _ a' b' => bindVs (bindVs B a a') b b'
  | .agg a, .agg b => bindVs B a b
  | .tuple a, .tuple b => bindVs B a b
  | _, _ => B
def bindVs (B : Bind) : List AVal → List AVal → Bind
  | a :: l, b :: r => bindVs (bindV B a b) l r
  | _, _ => B
end

def bindPs (B : Bind) : List PComp → List PComp → Bind
  | p :: l, q :: r => bindPs (B.term p.t q.t) l r
  | _, _ => B
def bindB (B : Bind) : ABlk → ABlk → Bind
  | .cells l _ _, .cells r _ _ => bindVs B l r
  | .pack l _, .pack r _ => bindPs B l r
  | .obj _ t _, .obj _ u _ => B.term t u
  | _, _ => B
def bindNil (B : Bind) : ABlk → Bind
  | .pack (p :: _) _ => B.term p.t (.op (.rows 0 0) [])
  | _ => B
def bindBs (H : AH) (B : Bind) : List (Nat × ABlk) → Bind
  | [] => B
  | (i, b) :: l => match Ren.assoc B.σ i with
    | some j => match H.m.get j with
      | some b' => bindBs H (bindB B b b') l
      | none => B
    | none => bindBs H (bindNil B b) l

/-! The way back. -/
def backOf (l : List (Nat × Nat)) (i : Nat) : Nat :=
  match Ren.assoc l i with
  | some j => j
  | none => 0

mutual
def renV (β : List (Nat × Nat)) (τ : List (Nat × Tm)) : AVal → AVal
  | .sint k t => .sint k (substT τ t)
  | .ptr b o => .ptr (backOf β b) o
  | .slice b o l c => .slice (backOf β b) o l c
  | .map r => .map (backOf β r)
  | .func f a b => .func f (renVs β τ a) (renVs β τ b)
  | .yield l => .yield (backOf β l)
  | .iface t v => .iface t (renV β τ v)
  | .agg l => .agg (renVs β τ l)
  | .tuple l => .tuple (renVs β τ l)
  | .ref r j => .ref (backOf β r) j
  | .eptr r j z i c => .eptr (backOf β r) j z (substT τ i) c
  | v => v
def renVs (β : List (Nat × Nat)) (τ : List (Nat × Tm)) : List AVal → List AVal
  | [] => []
  | v :: l => renV β τ v :: renVs β τ l
end

def renB (β : List (Nat × Nat)) (τ : List (Nat × Tm)) : ABlk → ABlk
  | .cells l w z => .cells (renVs β τ l) w z
  | .map es c => .map (es.map fun e => ⟨renV β τ e.key, renV β τ e.val, e.born⟩) c
  | .pack l o => .pack (l.map fun c => ⟨c.sh, substT τ c.t, c.full⟩) o
  | .obj t d m => .obj t (substT τ d) m
  | b => b
def renBs (β : List (Nat × Nat)) (τ : List (Nat × Tm)) : List (Nat × ABlk) → List (Nat × ABlk)
  | [] => []
  | (i, b) :: l => (backOf β i, renB β τ b) :: renBs β τ l

/-- New names, from one on. -/
def newNames : Nat → Nat → Nat → List (Nat × Nat)
  | _, _, 0 => []
  | i, j, n + 1 => (i, j) :: newNames (i + 1) (j + 1) n
def nilNames : List Nat → Nat → List (Nat × Nat)
  | [], _ => []
  | i :: l, j => (i, j) :: nilNames l (j + 1)
def swapL : List (Nat × Nat) → List (Nat × Nat)
  | [] => []
  | (a, b) :: l => (b, a) :: swapL l

def subPairs (τ : List (Nat × Tm)) : Pairs → Bool
  | [] => true
  | (a, b) :: l => match teq a (substT τ b) with
    | true => subPairs τ l
    | false => false
def subPairs' (τ : List (Nat × Tm)) : Pairs → Bool
  | [] => true
  | (a, b) :: l => match teq (substT τ a) b with
    | true => subPairs' τ l
    | false => false

def okPairs (f : Pairs → Bool) : Option Pairs → Bool
  | some p => f p
  | none => false

/-- The heap behind a call: the contract's blocks in their places, all else as it was. -/
def dropAll (m : PM ABlk) : List (Nat × Nat) → PM ABlk
  | [] => m
  | (_, j) :: l => dropAll (m.set j none) l
def putAllB (m : PM ABlk) (l : List (Nat × ABlk)) : PM ABlk := l.foldr (fun q m => m.set q.1 (some q.2)) m

structure Used where
  r : Ren
  r2 : Ren
  v : AVal
  l : List (Nat × ABlk)
  next : Nat

def useOf (C : Ctr) (H : AH) (B : Bind) : Used :=
  let β := B.σ ++ newNames C.next H.next (C.next' - C.next) ++ nilNames B.nils (H.next + (C.next' - C.next))
  ⟨⟨0, B.σ, B.nils⟩, ⟨0, swapL β, []⟩, renV β B.τ C.res, renBs β B.τ C.blks', H.next + (C.next' - C.next) + B.nils.length⟩

def smallIds (n : Nat) : List (Nat × Nat) → Bool
  | [] => true
  | (_, j) :: l => match Nat.blt j n with
    | true => smallIds n l
    | false => false

/-- Each name of the result is one that the contract's state bound, or a new one. -/
def namesOK (H : AH) (σ : List (Nat × Nat)) (u : Used) : List (Nat × Nat) → Bool
  | [] => true
  | (j, i) :: l => (match Ren.assoc σ i with
    | some j' => Nat.beq j' j && Nat.blt j H.next
    | none => Nat.ble H.next j) && namesOK H σ u l

def useB (C : Ctr) (g : List Fact) (A : List AVal) (H : AH) (B : Bind) (u : Used) : Bool :=
  u.r.ok C.next && okPairs (subPairs B.τ) (camVs u.r A C.args) && okPairs (subPairs B.τ) (camBs u.r H C.blks) && preOK g B.τ C.pre &&
  u.r2.ok u.next && okPairs (subPairs' B.τ) (camV u.r2 C.res u.v) && okPairs (subPairs' B.τ) (camBs u.r2 (AH.of C.next' C.blks') u.l) && smallIds H.next B.σ && namesOK H B.σ u u.r2.l && Nat.ble H.next u.next && Nat.blt u.next 1000000000

def useR (C : Ctr) (g : List Fact) (A : List AVal) (H : AH) (B : Bind) (u : Used) : Option (AVal × AH) :=
  match useB C g A H B u with
  | true => some (u.v, ⟨u.next, putAllB (dropAll H.m B.σ) u.l⟩)
  | false => none

def useC (C : Ctr) (g : List Fact) (A : List AVal) (H : AH) (B : Bind) : Option (AVal × AH) := useR C g A H B (useOf C H B)

/-- A contract, as what is known of a function. -/
def Ctr.known (C : Ctr) : Known := fun g A H => useC C g A H (bindBs H (bindVs ⟨[], [], []⟩ C.args A) C.blks)

def knownOf : List Ctr → Known
  | [] => fun _ _ _ => none
  | C :: l => fun g A H => match C.known g A H with
    | some r => some r
    | none => knownOf l g A H

/-! ### That it holds -/
section
variable {K : Cfg} {P : Program} {ρ : Rho} {μ : Mu} {S : Ids} {H : AH} {w : World} {C : Ctr} {W : World0} {A : List AVal} {B : Bind} {u : Used}

theorem okPairs_some {f : Pairs → Bool} {o : Option Pairs} (h : okPairs f o = true) : ∃ p, o = some p ∧ f p = true := by
  cases o with
  | none => cases h
  | some p => exact ⟨p, rfl, h⟩

theorem subPairs_sound {τ : List (Nat × Tm)} : ∀ {p : Pairs}, subPairs τ p = true → Agrees ρ (ρ.sub τ) p
  | [], _ => fun _ h => by cases h
  | (a, b) :: l, h => by
    unfold subPairs at h
    split at h
    · rename_i h1
      intro q hq
      cases hq with
      | head => show a.ev ρ = _; rw [teq_eq _ _ h1, substT_ev]
      | tail _ hq => exact subPairs_sound h q hq
    · cases h
theorem subPairs'_sound {τ : List (Nat × Tm)} : ∀ {p : Pairs}, subPairs' τ p = true → Agrees (ρ.sub τ) ρ p
  | [], _ => fun _ h => by cases h
  | (a, b) :: l, h => by
    unfold subPairs' at h
    split at h
    · rename_i h1
      intro q hq
      cases hq with
      | head => show _ = b.ev ρ; rw [← teq_eq _ _ h1, substT_ev]
      | tail _ hq => exact subPairs'_sound h q hq
    · cases h

theorem smallIds_all {n : Nat} : ∀ {l : List (Nat × Nat)}, smallIds n l = true → ∀ i j, (i, j) ∈ l → j < n
  | [], _, i, j, h => by cases h
  | (a, b) :: l, h, i, j, hm => by
    unfold smallIds at h
    split at h
    · rename_i h1
      cases hm with
      | head => exact Nat.le_of_ble_eq_true h1
      | tail _ hm => exact smallIds_all h i j hm
    · cases h

theorem namesOK_all {σ : List (Nat × Nat)} : ∀ {l : List (Nat × Nat)}, namesOK H σ u l = true → ∀ j i, (j, i) ∈ l → (Ren.assoc σ i = some j ∧ j < H.next) ∨ (Ren.assoc σ i = none ∧ H.next ≤ j)
  | [], _, j, i, h => by cases h
  | (a, b) :: l, h, j, i, hm => by
    simp only [namesOK, Bool.and_eq_true] at h
    cases hm with
    | head =>
      obtain ⟨h1, _⟩ := h
      split at h1
      · rename_i j' hj
        simp only [Bool.and_eq_true] at h1
        left; exact ⟨by rw [hj, Nat.eq_of_beq_eq_true h1.1], Nat.le_of_ble_eq_true h1.2⟩
      · rename_i hj
        right; exact ⟨hj, Nat.le_of_ble_eq_true h1⟩
    | tail _ hm => exact namesOK_all h.2 j i hm

theorem dropAll_get : ∀ {l : List (Nat × Nat)} {m : PM ABlk} {id : Nat} {b : ABlk}, (dropAll m l).get id = some b → m.get id = some b ∧ ∀ i, (i, id) ∉ l
  | [], m, id, b, h => ⟨h, by simp⟩
  | (x, j) :: l, m, id, b, h => by
    obtain ⟨h1, h2⟩ := dropAll_get (l := l) h
    rcases PM.get_set h1 with ⟨_, h3⟩ | ⟨hne, h3⟩
    · cases h3
    · refine ⟨h3, fun i hi => ?_⟩
      cases hi with
      | head => exact hne rfl
      | tail _ hi => exact h2 i hi
theorem putAllB_get : ∀ {l : List (Nat × ABlk)} {m : PM ABlk} {id : Nat} {b : ABlk}, (∀ q ∈ l, q.1 < 1073741823) → (putAllB m l).get id = some b → (putAllB .e l).get id = some b ∨ m.get id = some b
  | [], m, id, b, _, h => .inr h
  | q :: l, m, id, b, hl, h => by
    have hq := hl q (.head _)
    simp only [putAllB, List.foldr_cons] at h ⊢
    rw [PM.get_set_all hq] at h
    rw [PM.get_set_all hq]
    split at h
    · rename_i e; left; rw [if_pos e]; exact h
    · rename_i e
      rw [if_neg e]
      exact putAllB_get (l := l) (fun x hx => hl x (.tail _ hx)) h

theorem Ren.get0 {l : List (Nat × Nat)} {n : List Nat} (i : Nat) : (⟨0, l, n⟩ : Ren).get i = Ren.assoc l i := by
  have : Nat.blt i 0 = false := rfl
  simp [Ren.get, this]

/-- Beyond the names that are known, it doesn't matter what names stand for. -/
theorem Rel.upto {μ' : Mu} (h : Rel ρ μ S H w) (hu : μ.upto S μ') : Rel ρ μ' S H w :=
  ⟨h.bnd, fun id b hb => ⟨(h.blk id b hb).1, by rw [hu id (h.blk id b hb).1]; exact (h.blk id b hb).2.keep (fun _ _ => rfl) hu (Ids.le.refl _)⟩,
    fun i j b c hi hj hne k hb hc => by rw [hu i (h.blk i b hi).1] at hb; rw [hu j (h.blk j c hj).1] at hc; exact h.inj i j b c hi hj hne k hb hc⟩

theorem useR_sound (hC : C.Valid K.P W) (hf : ρ.fits W) (hS : AllHold ρ K.gam) (hr : u.r = ⟨0, B.σ, B.nils⟩) (hr2 : ∃ l, u.r2 = ⟨0, l, []⟩) {v : AVal} {H' : AH} (hu : useR C K.gam A H B u = some (v, H')) : JobOK K ρ H H' (.call C.f A) (.val v) := by
  unfold useR at hu
  split at hu
  · rename_i hb
    simp only [Option.some.injEq, Prod.mk.injEq] at hu
    obtain ⟨rfl, rfl⟩ := hu
    simp only [useB, Bool.and_eq_true] at hb
    obtain ⟨⟨⟨⟨⟨⟨⟨⟨⟨⟨b1, b2⟩, b3⟩, b4⟩, b5⟩, b6⟩, b7⟩, b8⟩, b9⟩, b10⟩, b11⟩ := hb
    obtain ⟨p1, c1, d1⟩ := okPairs_some b2
    obtain ⟨p2, c2, d2⟩ := okPairs_some b3
    obtain ⟨p3, c3, d3⟩ := okPairs_some b6
    obtain ⟨p4, c4, d4⟩ := okPairs_some b7
    have R1 := Ren.ok_sound b1
    have R2 := Ren.ok_sound b5
    obtain ⟨l2, hl2⟩ := hr2
    let ρs := ρ.sub B.τ
    intro μ S w hR hv Q hQ
    -- the small state
    obtain ⟨k1, k2, k3⟩ := canon_rel (ρ1 := ρ) (ρ2 := ρs) rfl b1 c2 (subPairs_sound d2) hR
    obtain ⟨g1, g2⟩ := camVs_sound (ρ1 := ρ) (ρ2 := ρs) (fun i hi => (R1.nil i hi).1) A C.args p1 c1 (subPairs_sound d1) hv
    have hj := hC ρs ⟨hf.1, hf.2⟩ (preOK_sound hS b4) (u.r.mu μ) (u.r.ids S) w k1 g2 Q
    rw [g1] at hj
    refine hj fun μ' S' w' hm hR' hv' => ?_
    -- the way back
    obtain ⟨m1, m2, m3⟩ := canon_rel (ρ1 := ρs) (ρ2 := ρ) rfl b5 c4 (subPairs'_sound d4) hR'
    obtain ⟨z1, z2⟩ := camV_sound (ρ1 := ρs) (ρ2 := ρ) (fun i hi => (R2.nil i hi).1) C.res u.v p3 c3 (subPairs'_sound d3) hv'
    -- the names
    have get2 : ∀ j i, u.r2.get j = some i → (u.r.get i = some j ∧ j < H.next) ∨ (u.r.get i = none ∧ H.next ≤ j) := by
      intro j i hji
      have hmem : (j, i) ∈ u.r2.l := by
        rw [hl2, Ren.get0] at hji
        rw [hl2]; exact assoc_mem hji
      rw [hr, Ren.get0]
      exact namesOK_all b9 j i hmem
    have S2lt : ∀ j, u.r2.ids S' j → j < u.next := fun j hj => m1.bnd j hj
    let μ2 : Mu := fun j => if H.next ≤ j then u.r2.mu μ' j else μ j
    let S2 : Ids := fun j => S j ∨ u.r2.ids S' j
    have hup1 : μ.upto S μ2 := fun j hj => by
      have := hR.bnd j hj
      simp only [μ2]; rw [if_neg (by omega)]
    have hup2 : (u.r2.mu μ').upto (u.r2.ids S') μ2 := by
      intro j hj
      simp only [μ2]
      split
      · rfl
      · rename_i hlt
        rcases hj with ⟨i, hi, hSi⟩ | ⟨_, hi⟩
        · rcases get2 j i hi with ⟨q1, q2⟩ | ⟨_, q2⟩
          · rw [Ren.mu_some hi]
            have hidS : u.r.ids S i ∨ ¬ u.r.ids S i := Classical.em _
            rcases hidS with hs | hs
            · rw [hm.up i hs, Ren.mu_some q1]
            · -- a name of the small state that wasn't known: it is new there; but it is below
              exfalso
              rcases hm.new i hSi with h1 | h1
              · exact hs h1
              · have := R1.lt i j q1
                have : C.next ≤ i := h1
                omega
          · omega
        · rw [hl2] at hi; cases hi
    have M1 : Rel ρ μ2 (u.r2.ids S') (AH.of u.next u.l) w' := m1.upto hup2
    have Z1 : conc μ2 ρ u.v = conc μ' (ρs) C.res := by rw [z2.eq hup2, z1]
    have Z2 : VR ρ μ2 S2 u.v := (z2.up hup2 (Ids.le.refl _)).up (Mu.upto.refl _ _) fun j hj => .inr hj
    have hnx : H.next ≤ u.next ∨ ¬ H.next ≤ u.next := Classical.em _
    have imgBig : ∀ k, Img μ2 (AH.of u.next u.l) k → Img (u.r2.mu μ') (AH.of u.next u.l) k := by
      rintro k ⟨id, b, h1, h2⟩
      rw [hup2 id (m1.blk id b h1).1] at h2
      exact ⟨id, b, h1, h2⟩
    have imgBigM : ∀ k, ImgM μ2 (AH.of u.next u.l) k → ImgM (u.r2.mu μ') (AH.of u.next u.l) k := by
      rintro k ⟨id, b, h1, h2⟩
      rw [hup2 id (m1.blk id b h1).1] at h2
      exact ⟨id, b, h1, h2⟩
    have img0 : ∀ k, Img μ2 (AH.of u.next u.l) k → Img μ H k ∨ w.heap.size ≤ k := fun k hk => (hm.img k (m2 k (imgBig k hk))).elim (fun h => .inl (k2 k h)) .inr
    have imgM0 : ∀ k, ImgM μ2 (AH.of u.next u.l) k → ImgM (u.r.mu μ) (AH.of C.next C.blks) k ∨ w.heap.size ≤ k := fun k hk => hm.imgM k (m3 k (imgBigM k hk))
    -- a block of the big heap that the contract doesn't know
    have others : ∀ id b, (dropAll H.m B.σ).get id = some b → H.m.get id = some b ∧ (∀ k, b.wr (μ id) k → ¬ Img (u.r.mu μ) (AH.of C.next C.blks) k) ∧ (∀ k, b.at (μ id) k → ¬ ImgM (u.r.mu μ) (AH.of C.next C.blks) k) := by
      intro id b hg
      obtain ⟨h1, h2⟩ := dropAll_get hg
      have key : ∀ i c, (AH.of C.next C.blks).m.get i = some c → (∃ j c1, u.r.get i = some j ∧ j ≠ id ∧ H.m.get j = some c1 ∧ (∀ k, c.wr ((u.r.mu μ) i) k → c1.wr (μ j) k) ∧ (∀ k, c.at ((u.r.mu μ) i) k → c1.at (μ j) k)) ∨ (∀ k, ¬ c.at ((u.r.mu μ) i) k) := by
        intro i c hc
        obtain ⟨q, e1, e2⟩ := camBs_mem c2 i c (foldr_get hc)
        unfold camOne at e1
        split at e1
        · rename_i j hji
          split at e1
          · rename_i c1 hc1
            obtain ⟨_, f2, f3⟩ := camB_sound (ρ1 := ρ) (ρ2 := ρs) (fun i hi => (R1.nil i hi).1) rfl e1 (fun z hz => subPairs_sound d2 z (e2 z hz)) (hR.blk j c1 hc1).2
            left
            refine ⟨j, c1, hji, fun e => ?_, hc1, ?_, ?_⟩
            · rw [hr, Ren.get0] at hji
              exact h2 i (e ▸ assoc_mem hji)
            · rw [Ren.mu_some hji]; exact f2
            · rw [Ren.mu_some hji]; exact fun k hk => hk.elim (fun q => .inl (f2 k q)) fun q => .inr (f3 k q)
          · cases e1
        · rename_i hji
          split at e1
          · right
            unfold camNil at e1
            split at e1
            · intro k hk
              have : (u.r.mu μ) i = nilPlace := by simp [Ren.mu, hji]
              rw [this] at hk
              rcases hk with hk | hk
              · exact hk.2
              · exact hk
            · cases e1
          · cases e1
      refine ⟨h1, ?_, ?_⟩
      · rintro k hk ⟨i, c, hc, hat⟩
        rcases key i c hc with ⟨j, c1, _, hne, hc1, _, f3⟩ | hno
        · exact hR.inj id j b c1 h1 hc1 (fun e => hne e.symm) k hk (f3 k hat)
        · exact hno k hat
      · rintro k hk ⟨i, c, hc, hwr⟩
        rcases key i c hc with ⟨j, c1, _, hne, hc1, f2, _⟩ | hno
        · exact hR.inj j id c1 b hc1 h1 hne k (f2 k hwr) hk
        · exact hno k (.inl hwr)
    have hltw : ∀ id b, H.m.get id = some b → ∀ k, b.at (μ id) k → k < w.heap.size := fun id b h1 k hk => hR.img_lt ⟨id, b, h1, hk⟩
    have hkeepO : ∀ id b, (dropAll H.m B.σ).get id = some b → ∀ k, b.at (μ id) k → w'.heap[k]? = w.heap[k]? := fun id b hg k hk =>
      hm.keep k (hltw id b (others id b hg).1 k hk) ((others id b hg).2.2 k hk)
    have hμS : ∀ id b, H.m.get id = some b → μ2 id = μ id := fun id b h1 => hup1 id (hR.blk id b h1).1
    have hnext : H.next ≤ u.next := Nat.le_of_ble_eq_true b10
    have hsmall : ∀ q ∈ u.l, q.1 < 1073741823 := by
      rintro ⟨j, b⟩ hq
      obtain ⟨q', e1, _⟩ := camBs_mem c4 j b hq
      unfold camOne at e1
      split at e1
      · rename_i i hi
        have h1 := R2.lt j i hi
        have h2 : u.next < 1000000000 := Nat.le_of_ble_eq_true b11
        show j < _
        omega
      · split at e1
        · rename_i hm2
          have := memN_mem hm2
          rw [hl2] at this; cases this
        · cases e1
    have hget : ∀ id b, (putAllB (dropAll H.m B.σ) u.l).get id = some b → (AH.of u.next u.l).m.get id = some b ∨ (dropAll H.m B.σ).get id = some b := fun id b h => putAllB_get hsmall h
    have imgS0 : ∀ k, Img μ2 (AH.of u.next u.l) k → Img (u.r.mu μ) (AH.of C.next C.blks) k ∨ w.heap.size ≤ k := fun k hk => hm.img k (m2 k (imgBig k hk))
    have hRel : Rel ρ μ2 S2 ⟨u.next, putAllB (dropAll H.m B.σ) u.l⟩ w' := by
      refine ⟨fun id hid => ?_, fun id b hg => ?_, fun i j b c hi hj hne k hb hc => ?_⟩
      · rcases hid with h | h
        · exact Nat.lt_of_lt_of_le (hR.bnd id h) hnext
        · exact S2lt id h
      · rcases hget id b hg with h | h
        · obtain ⟨e1, e2⟩ := M1.blk id b h
          exact ⟨.inr e1, e2.keep (fun _ _ => rfl) (Mu.upto.refl _ _) fun j hj => .inr hj⟩
        · obtain ⟨e1, _, _⟩ := others id b h
          obtain ⟨e2, e3⟩ := hR.blk id b e1
          refine ⟨.inl e2, ?_⟩
          rw [hμS id b e1]
          exact e3.keep (hkeepO id b h) hup1 fun j hj => .inl hj
      · rcases hget i b hi with h1 | h1 <;> rcases hget j c hj with h2 | h2
        · exact M1.inj i j b c h1 h2 hne k hb hc
        · obtain ⟨e1, _, e3⟩ := others j c h2
          rw [hμS j c e1] at hc
          rcases imgM0 k ⟨i, b, h1, hb⟩ with h | h
          · exact e3 k hc h
          · have := hltw j c e1 k hc; omega
        · obtain ⟨e1, e2, _⟩ := others i b h1
          rw [hμS i b e1] at hb
          rcases imgS0 k ⟨j, c, h2, hc⟩ with h | h
          · exact e2 k hb h
          · have := hltw i b e1 k (.inl hb); omega
        · obtain ⟨e1, _, _⟩ := others i b h1
          obtain ⟨e2, _, _⟩ := others j c h2
          rw [hμS i b e1] at hb
          rw [hμS j c e2] at hc
          exact hR.inj i j b c e1 e2 hne k hb hc
    have := hQ μ2 S2 w' ⟨hRel, hup1, fun j hj => .inl hj, fun j hj => ?_, hnext, hm.os, hm.tape, hm.output, hm.size, fun k hk hni => hm.keep k hk fun h => hni (k3 k h), fun k hk => ?_, fun k hk => ?_⟩ Z2
    · rw [Z1] at this; exact this
    · rcases hj with h | ⟨i, hi, hSi⟩ | ⟨_, hi⟩
      · exact .inl h
      · rcases get2 j i hi with ⟨q1, _⟩ | ⟨_, q2⟩
        · rcases hm.new i hSi with h1 | h1
          · rcases h1 with ⟨j', hj', hSj⟩ | ⟨hn, _⟩
            · rw [q1] at hj'; cases hj'; exact .inl hSj
            · rw [q1] at hn; cases hn
          · have h3 := R1.lt i j q1
            have : C.next ≤ i := h1
            omega
        · exact .inr q2
      · rw [hl2] at hi; cases hi
    · obtain ⟨id, b, hg, hat⟩ := hk
      rcases hget id b hg with h | h
      · exact img0 k ⟨id, b, h, hat⟩
      · obtain ⟨e1, _, _⟩ := others id b h
        rw [hμS id b e1] at hat
        exact .inl ⟨id, b, e1, hat⟩
    · obtain ⟨id, b, hg, hat⟩ := hk
      rcases hget id b hg with h | h
      · exact (imgM0 k ⟨id, b, h, hat⟩).elim (fun q => .inl (k3 k q)) .inr
      · obtain ⟨e1, _, _⟩ := others id b h
        rw [hμS id b e1] at hat
        exact .inl ⟨id, b, e1, hat⟩
  · cases hu

theorem known_sound (hC : C.Valid K.P W) (hf : ρ.fits W) (hS : AllHold ρ K.gam) {v : AVal} {H' : AH} (h : C.known K.gam A H = some (v, H')) : JobOK K ρ H H' (.call C.f A) (.val v) := by
  unfold Ctr.known useC at h
  exact useR_sound hC hf hS rfl ⟨_, rfl⟩ h

/-- A table of contracts. -/
def CtrsOK (P : Program) (W : World0) (s : List (FuncId × List Ctr)) : Prop := ∀ q ∈ s, ∀ C ∈ q.2, C.f = q.1 ∧ C.Valid P W

def sumTab : List (FuncId × List Ctr) → List (Nat × Known)
  | [] => []
  | (f, l) :: r => (f, knownOf l) :: sumTab r

theorem knownOf_some {g : List Fact} : ∀ {l : List Ctr} {x : AVal × AH}, knownOf l g A H = some x → ∃ C ∈ l, C.known g A H = some x
  | [], x, h => by cases h
  | C :: l, x, h => by
    unfold knownOf at h
    split at h
    · rename_i r hr; cases h; exact ⟨C, .head _, hr⟩
    · obtain ⟨C', h1, h2⟩ := knownOf_some h
      exact ⟨C', .tail _ h1, h2⟩

theorem sumTab_ok {s : List (FuncId × List Ctr)} (hs : CtrsOK K.P W s) (hk : K.sum = sumTab s) (hf : ρ.fits W) (hS : AllHold ρ K.gam) : SumOK K ρ := by
  intro f g hg args H v H' h
  rw [hk] at hg
  have key : ∀ (s : List (FuncId × List Ctr)), sumOf (sumTab s) f = some g → ∃ l, (f, l) ∈ s ∧ g = knownOf l := by
    intro s
    induction s with
    | nil => intro h; cases h
    | cons q s ih =>
      obtain ⟨f', l⟩ := q
      intro h
      simp only [sumTab, sumOf] at h
      split at h
      · rename_i hb; cases h; rw [← Nat.eq_of_beq_eq_true hb]; exact ⟨l, .head _, rfl⟩
      · obtain ⟨l', h1, h2⟩ := ih h
        exact ⟨l', .tail _ h1, h2⟩
  obtain ⟨l, hl, rfl⟩ := key s hg
  obtain ⟨C, hC, hx⟩ := knownOf_some h
  obtain ⟨e1, e2⟩ := hs _ hl C hC
  have := known_sound e2 hf hS hx
  rw [e1] at this; exact this
end
end Go.Eng
