/- The engine, thirtieth part: a call that is given nothing to write: all that was is as it was. -/
import Derived.Test.YtkpobofljnokaaaGreatEng29
namespace Go.Eng
open Go.RowKit
section
variable {K : Cfg} {ρ : Rho} {μ μ' : Mu} {S S' : Ids} {H H' : AH} {w w' : World}

theorem Step.below (h : Step ρ μ S H w μ' S' H' w') (hro : ∀ id b, H.m.get id = some b → b.mut = false) : Below w.heap.size w w' :=
  ⟨h.os, h.tape, h.output, h.size, fun k hk => h.keep k hk fun ⟨id, b, h1, h2⟩ => by have := ABlk.wr_mut h2; rw [hro id b h1] at this; cases this⟩

theorem calls_below (hK : COK K) (hS : SOK K ρ) (hU : SumOK K ρ) {n : Nat} {f : FuncId} {args : List AVal} {v : AVal} (h : evk K n (.call f args) H = some (.val v, H')) (hR : Rel ρ μ S H w) (hv : VRs ρ μ S args)
    (hro : ∀ id b, H.m.get id = some b → b.mut = false) {R : Ending → World → Prop}
    (hRR : ∀ μ' S' w', Below w.heap.size w w' → Step ρ μ S H w μ' S' H' w' → VR ρ μ' S' v → R (.returned (conc μ' ρ v)) w') : Calls K.P f (concs μ ρ args).toArray w R :=
  calls_of_ev hK hS hU h hR hv fun μ' S' w' hs hv => hRR μ' S' w' (hs.below hro) hs hv
end
end Go.Eng
