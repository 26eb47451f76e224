import Derived.Test.YtkpobofljnokaaaGreatEng32
import Derived.Test.YtkpobofljnokaaaGreatProg
import Derived.KernelRfl
namespace Go.Eng
open Go.Proofs
noncomputable def tyTab : PM TypeInfo := tabB Tryz.prog.types.toList 0 .e
noncomputable def fnTab : PM Func := tabB Tryz.prog.funcs.toList 0 .e
noncomputable def Kg (g : List Fact) (s : List (Nat × Known)) : Cfg := ⟨Tryz.prog, tyTab, fnTab, [(132, .mapsClone), (73, .add64)], g, s⟩

theorem tab_get {α : Type} {l : Array α} {j : Nat} {v : α} (h : (tabB l.toList 0 .e).get j = some v) : l[j]? = some v := by
  rcases tabB_get _ _ _ _ _ h with ⟨_, h⟩ | h
  · simpa using h
  · cases h

theorem extOf_of (l : List (Nat × Ext)) (P : Nat → Ext → Prop) (h : ∀ q ∈ l, P q.1 q.2) : ∀ f e, extOf l f = some e → P f e := by
  induction l with
  | nil => intro f e h; cases h
  | cons q l ih =>
    intro f e hf
    unfold extOf at hf
    split at hf
    · rename_i hb
      cases hf
      have := Nat.eq_of_beq_eq_true hb
      subst this
      exact h _ (.head _)
    · exact ih (fun q hq => h q (.tail _ hq)) f e hf

section
variable (g : List Fact) (s : List (Nat × Known))
theorem K0_P : (Kg g s).P = Tryz.prog := rfl
theorem K0_ext : (Kg g s).ext = [(132, .mapsClone), (73, .add64)] := rfl

/-- A function of the outside. -/
def outB (P : Program) (f : Nat) : Bool :=
  match P.funcs[f]? with
  | some fn => !(fn.name == "runtime.NumGoroutine") && fn.body.isNone && (Extern.findNext fn).isNone
  | none => false

theorem out_of {P : Program} {f : Nat} {e : Ext} {fn : Func} (h : P.funcs[f]? = some fn) (hb : outB P f = true) (he : Extern.find fn = some (extFn e)) :
    ∃ fn, P.funcs[f]? = some fn ∧ (fn.name == "runtime.NumGoroutine") = false ∧ fn.body.isNone = true ∧ Extern.findNext fn = none ∧ Extern.find fn = some (extFn e) := by
  unfold outB at hb
  rw [h] at hb
  simp only [Bool.and_eq_true, Bool.not_eq_true'] at hb
  exact ⟨fn, h, hb.1.1, hb.1.2, by simpa using hb.2, he⟩

theorem o132 : outB Tryz.prog 132 = true := by kernel_rfl
theorem o73 : outB Tryz.prog 73 = true := by kernel_rfl

theorem K0_ty : (Kg g s).ty = tabB Tryz.prog.types.toList 0 .e := by kernel_rfl
theorem K0_fn : (Kg g s).fn = tabB Tryz.prog.funcs.toList 0 .e := by kernel_rfl
theorem e132 : Extern.find Tryz.f132 = some (extFn .mapsClone) := by kernel_rfl
theorem e73 : Extern.find Tryz.f73 = some (extFn .add64) := by kernel_rfl
theorem m0 : Tryz.prog.follows .mixedOrders = true := by kernel_rfl

theorem cokg : COK (Kg g s) where
  ty := fun t i h => by
    rw [K0_P]; rw [K0_ty] at h
    have := tab_get (l := Tryz.prog.types) h
    have hlt := (Array.getElem?_eq_some_iff.1 this).1
    unfold Tables.info?
    rw [if_pos hlt]; exact this
  fn := fun f fn h => by rw [K0_P]; rw [K0_fn] at h; exact tab_get h
  mixed := by rw [K0_P]; exact m0
  ext := by
    rw [K0_P, K0_ext]
    refine extOf_of _ (fun f e => ∃ fn, Tryz.prog.funcs[f]? = some fn ∧ (fn.name == "runtime.NumGoroutine") = false ∧ fn.body.isNone = true ∧ Extern.findNext fn = none ∧ Extern.find fn = some (extFn e)) fun q hq => ?_
    rcases List.mem_cons.1 hq with rfl | hq
    · exact out_of Tryz.func132 o132 e132
    rcases List.mem_cons.1 hq with rfl | hq
    · exact out_of Tryz.func73 o73 e73
    · cases hq
end

def Rho.set (ρ : Rho) (i : Nat) (d : Dat) : Rho := { ρ with s := fun j => if j = i then d else ρ.s j }
theorem Rho.set_self (ρ : Rho) (i : Nat) (d : Dat) : (ρ.set i d).s i = d := by simp [Rho.set]
theorem Rho.set_ne (ρ : Rho) {i j : Nat} (d : Dat) (h : j ≠ i) : (ρ.set i d).s j = ρ.s j := by simp [Rho.set, h]
theorem Rho.alike (ρ : Rho) {N i : Nat} (d : Dat) (h : N ≤ i) : Alike N ρ (ρ.set i d) := ⟨fun j hj => by rw [Rho.set_ne ρ d (by omega)], rfl, rfl⟩
theorem Rho.alike2 (ρ : Rho) {N i : Nat} (d d' : Dat) (h : N ≤ i) : Alike N (ρ.set i d) (ρ.set i d') := ⟨fun j hj => by rw [Rho.set_ne ρ d (by omega), Rho.set_ne ρ d' (by omega)], rfl, rfl⟩
end Go.Eng
