/- The engine: what comes in: slices of integers, as data. -/
import Derived.Test.YtkpobofljnokaaaGreatEng33
import Derived.ChangeSlices
import Derived.WideShapes
import Derived.ChangeShapes
import Derived.Lib.SmallJoins
namespace Go.Eng
open Go.ChangeShapes Go.WideShapes Go.ChangeAt Go.RowKit

structure IntsIn (w : World) (k : IntKind) (q : Option Addr × Nat × Nat) (zs : List Int) : Prop where
  alt : (q = (none, 0, 0) ∧ zs = []) ∨ ∃ b o cap, q = (some ⟨b, o, none⟩, zs.length, cap) ∧ zs.length ≤ cap ∧ cap ≤ maxLen ∧
    (cap ≠ 0 → ∃ cs E fz, w.heap[b]? = some (.cells cs E fz) ∧ ∀ i n, zs[i]? = some n → cs[o + i]? = some (.int k n))
  wf : ∀ n ∈ zs, (Lit.int k n).wf = true

def rowsN (zs : List Int) : Dat := .a (zs.map fun n => [.n n])
def footOf (q : Option Addr × Nat × Nat) (k : Nat) : Prop := q.2.2 ≠ 0 ∧ ∃ a, q.1 = some a ∧ a.block = k
def placeN (q : Option Addr × Nat × Nat) : Place := ⟨0, 0, 0, [q], fun _ => False, footOf q⟩

theorem IntsIn.len {w : World} {k : IntKind} {q : Option Addr × Nat × Nat} {zs : List Int} (h : IntsIn w k q zs) : zs.length ≤ maxLen := by
  rcases h.alt with ⟨_, rfl⟩ | ⟨b, o, cap, _, h1, h2, _⟩
  · exact Nat.zero_le _
  · exact Nat.le_trans h1 h2

theorem IntsIn.trel {w : World} {k : IntKind} {q : Option Addr × Nat × Nat} {zs : List Int} (h : IntsIn w k q zs) {ρ : Rho} {t : Tm} (ht : t.ev ρ = rowsN zs) : TRel ρ w (placeN q) false ⟨[.num k], t, false⟩ q := by
  have hr : (t.ev ρ).rows = zs.map fun n => [.n n] := by rw [ht]; rfl
  have hrl : (t.ev ρ).rows.length = zs.length := by rw [hr]; simp
  rcases h.alt with ⟨rfl, rfl⟩ | ⟨b, o, cap, rfl, h1, h2, h3⟩
  · exact .inl ⟨rfl, by simpa using hr⟩
  · refine .inr ⟨b, o, cap, by rw [hrl], by rw [hrl]; exact h1, (fun h => by cases h), fun hc => ⟨(fun h => by cases h), fun _ => ⟨hc, _, rfl, rfl⟩, ?_⟩⟩
    obtain ⟨cs, E, fz, g1, g2⟩ := h3 hc
    refine ⟨cs, E, fz, g1, (fun h => by cases h), fun i r hi => ?_⟩
    rw [hr, List.getElem?_map] at hi
    cases hz : zs[i]? with
    | none => rw [hz] at hi; cases hi
    | some n =>
      rw [hz] at hi
      simp only [Option.map_some, Option.some.injEq] at hi
      subst hi
      simp only [RRel]
      exact ⟨_, _, _, rfl, by simpa using g2 i n hz, by simp [CRel, Dat.int], rfl⟩

theorem IntsIn.brel {w : World} {k : IntKind} {q : Option Addr × Nat × Nat} {zs : List Int} (h : IntsIn w k q zs) {ρ : Rho} {μ : Mu} {S : Ids} {t : Tm} (ht : t.ev ρ = rowsN zs) : BRel ρ μ S w (placeN q) (.pack [⟨[.num k], t, false⟩] false) := by
  refine ⟨fun k hk => hk.elim, fun x hx => ?_, fun j c hj => ?_⟩
  · obtain ⟨hc, a, ha, rfl⟩ := hx
    rcases h.alt with ⟨rfl, rfl⟩ | ⟨b, o, cap, rfl, h1, h2, h3⟩
    · cases ha
    · cases ha
      obtain ⟨cs, E, fz, g1, _⟩ := h3 hc
      exact (Array.getElem?_eq_some_iff.1 g1).1
  · cases j with
    | zero => simp at hj; subst hj; exact h.trel ht
    | succ j => simp at hj

section
variable {H : Type} {enc : TypeId × Value → H} {P : Program} {w : World} {base : Nat} {held : Bool}

theorem ints_of {t e : TypeId} {k : IntKind} {fuel : Nat} {a : Option Addr} {len cap : Nat} {x : DataW H × List MemPlace} (ht : P.underlying t = some (.slice e)) (he : P.underlying e = some (.int k)) (hc : P.cellsOf e = 1)
    (hs : ∀ b, a = some b → b.spot = none) (hf : DataW.trod enc P w base (fun _ => true) held fuel t [.slice a len cap] = some x) : ∃ zs, IntsIn w k (a, len, cap) zs := by
  rcases open_ints ht he hc hf with ⟨hcs, _⟩ | ⟨y, l, c, zs, hcs, _, hl, hm, hz, _, hcell, hwz⟩
  · simp at hcs
    obtain ⟨rfl, rfl, rfl⟩ := hcs
    exact ⟨[], .inl ⟨rfl, rfl⟩, by simp⟩
  · simp at hcs
    obtain ⟨rfl, rfl, rfl⟩ := hcs
    have hsp := hs y rfl
    obtain ⟨b, o, sp⟩ := y
    simp only at hsp
    subst hsp
    simp only [if_true] at hz
    refine ⟨zs.take len, .inr ⟨b, o, cap, ?_, ?_, hm, fun h0 => ?_⟩, fun n hn => hwz n (List.mem_of_mem_take hn)⟩
    · simp; omega
    · simp; omega
    · have c0 := hcell 0 (by omega)
      simp only [Addr.add, World.cell?] at c0
      split at c0
      · rename_i cs E fz hb
        refine ⟨cs, E, fz, by simpa using hb, fun i n hi => ?_⟩
        have hil : i < zs.length := by
          have := (List.getElem?_eq_some_iff.1 hi).1
          simp at this; omega
        have hi' : zs[i]? = some n := by
          rw [List.getElem?_take] at hi
          split at hi
          · exact hi
          · cases hi
        have ci := hcell i hil
        have hb' : w.heap[b]? = some (.cells cs E fz) := by simpa using hb
        rw [add_none] at ci
        simp only [World.cell?, hb'] at ci
        have hd : zs.getD i 0 = n := by rw [List.getD_eq_getElem?_getD, hi']; rfl
        rw [hd] at ci
        simpa using ci
      · cases c0

theorem spot_of {r : Reach} {b0 : Nat} {t e : TypeId} {a : Option Addr} {len cap : Nat} (ht : P.underlying t = some (.slice e)) (h : Cell.okWide P w r b0 t (.slice a len cap)) : ∀ b, a = some b → b.spot = none := by
  rintro b rfl
  simp only [Cell.okWide, ht, Cell.ok] at h
  exact h.2.2.2.1

theorem spot_of_val {r : Reach} {b0 : Nat} {t e : TypeId} {a : Option Addr} {len cap : Nat} (ht : P.underlying t = some (.slice e)) (h : Value.okWide P w r b0 t (.slice a len cap)) : ∀ b, a = some b → b.spot = none := by
  simp only [Value.okWide, ht] at h
  exact spot_of ht h

/-- A field's cell. -/
theorem field_ok {r : Reach} {b0 : Nat} {t : TypeId} {fs : Array Field} {cs : Array Value} {ts : List TypeId} (ht : P.underlying t = some (.struct fs)) (hts : P.cellTypes P.depth t = some ts) (h : Value.okWide P w r b0 t (.agg cs)) {i : Nat} {u : TypeId} {v : Value}
    (hi : ts[i]? = some u) (hv : cs[i]? = some v) : Cell.okWide P w r b0 u v := by
  simp only [Value.okWide, ht] at h
  obtain ⟨cs', e, _, ts', h1, _, h3⟩ := h
  cases e
  rw [hts] at h1
  cases h1
  obtain ⟨u', h4, h5⟩ := h3 i v hv
  rw [Nat.mod_eq_of_lt (List.getElem?_eq_some_iff.1 hi).1, hi] at h4
  cases h4
  exact h5
end

/-- What came in, and nothing else. -/
theorem rel_of {ρ : Rho} {μ : Mu} {w : World} {n : Nat} {l : List (Nat × ABlk)} (h : ∀ q ∈ l, q.1 < n ∧ BRel ρ μ (fun i => i < n) w (μ q.1) q.2 ∧ q.2.mut = false) : Rel ρ μ (fun i => i < n) (AH.of n l) w := by
  refine ⟨fun id h => h, fun id b hb => ?_, fun i j b c hi hj hne k hb hc => ?_⟩
  · obtain ⟨h1, h2, _⟩ := h _ (foldr_get hb)
    exact ⟨h1, h2⟩
  · have := ABlk.wr_mut hb
    rw [(h _ (foldr_get hi)).2.2] at this
    cases this

def rhoOf (f : Nat → List Dat → Dat) (l : List Dat) : Rho := ⟨fun i => l.getD i (.n 0), f, fun _ _ _ _ => False, fun _ _ _ _ _ h => h.elim, fun _ _ _ _ h => h.elim⟩

def isTrue : Option (Out × AH) → Bool
  | some (.val (.bool true), _) => true
  | _ => false
theorem isTrue_iff {o : Option (Out × AH)} (h : isTrue o = true) : ∃ H', o = some (.val (.bool true), H') := by
  unfold isTrue at h
  split at h
  · exact ⟨_, rfl⟩
  · cases h
end Go.Eng
