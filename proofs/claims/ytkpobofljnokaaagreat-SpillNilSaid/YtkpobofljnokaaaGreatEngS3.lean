import Derived.Test.YtkpobofljnokaaaGreatEngS2
namespace Go.Eng
open Go.Proofs Go.RowKit

section
variable {w : World} {cap seg n cls : Int} {qw qb : Option Addr × Nat × Nat} {zs bs : List Int}

def rho4 (cap seg n cls : Int) (zs bs : List Int) : Rho := rhoOf W0.f [.n cap, .n seg, .n n, rowsN zs, .n cls, rowsN bs]
def mu4 (qw qb : Option Addr × Nat × Nat) : Mu := fun i => match i with | 0 => placeN qw | _ => placeN qb

theorem rel4 (hw : IntsIn w .i64 qw zs) (hb : IntsIn w .u8 qb bs) : Rel (rho4 cap seg n cls zs bs) (mu4 qw qb) (fun i => i < 2) (AH.of 2 blks4) w := by
  refine rel_of fun q hq => ?_
  rcases List.mem_cons.1 hq with rfl | hq
  · exact ⟨by simp, hw.brel (by rw [ev_sym]; rfl), rfl⟩
  rcases List.mem_cons.1 hq with rfl | hq
  · exact ⟨by simp, hb.brel (by rw [ev_sym]; rfl), rfl⟩
  · cases hq

theorem go4 (hw : IntsIn w .i64 qw zs) (hb : IntsIn w .u8 qb bs) {g : List Fact} (hr : run4 g = true) (hg : AllHold (rho4 cap seg n cls zs bs) g) :
    Calls Tryz.prog 4 #[.int .i64 cap, .int .i64 seg, .slice qw.1 qw.2.1 qw.2.2, .int .u64 n, .agg #[.int .i64 cls, .slice qb.1 qb.2.1 qb.2.2]] w fun e w' => e = .returned (.bool true) ∧ Below w.heap.size w w' := by
  obtain ⟨H', hev⟩ := isTrue_iff hr
  have hU : SumOK (Kg g (sumTab ctrs)) (rho4 cap seg n cls zs bs) := sumTab_ok ctrs_ok rfl ⟨rfl, rfl⟩ hg
  have hv : VRs (rho4 cap seg n cls zs bs) (mu4 qw qb) (fun i => i < 2) args4 := by
    refine VRs.cons VR.sint (VRs.cons VR.sint (VRs.cons (VR.ref (by decide)) (VRs.cons VR.sint (VRs.cons (VR.agg (VRs.cons VR.sint (VRs.cons (VR.ref (by decide)) VRs.nil))) VRs.nil))))
  have := calls_below (R := fun e w' => e = .returned (.bool true) ∧ Below w.heap.size w w') (cokg _ _) hg hU hev (rel4 hw hb) hv (fun id b hb => by
    have := foldr_get hb
    rcases List.mem_cons.1 this with e | this
    · cases e; rfl
    rcases List.mem_cons.1 this with e | this
    · cases e; rfl
    · cases this) fun μ' S' w' hb _ _ => ⟨rfl, hb⟩
  have e : (concs (mu4 qw qb) (rho4 cap seg n cls zs bs) args4).toArray = #[.int .i64 cap, .int .i64 seg, .slice qw.1 qw.2.1 qw.2.2, .int .u64 n, .agg #[.int .i64 cls, .slice qb.1 qb.2.1 qb.2.2]] := by
    simp [args4, concs, conc, int_sym, rho4, rhoOf, Dat.int, mu4, placeN, Place.val, hdr]
  rw [e] at this
  exact this

theorem wf_iff {k : IntKind} {n : Int} : (Lit.int k n).wf = true ↔ k.min ≤ n ∧ n ≤ k.max := by
  simp [Lit.wf]

/-- Of whatever it is given. -/
theorem walk4 (hw : IntsIn w .i64 qw zs) (hb : IntsIn w .u8 qb bs) (hn : (Lit.int .u64 n).wf = true) :
    Calls Tryz.prog 4 #[.int .i64 cap, .int .i64 seg, .slice qw.1 qw.2.1 qw.2.2, .int .u64 n, .agg #[.int .i64 cls, .slice qb.1 qb.2.1 qb.2.2]] w fun e w' => e = .returned (.bool true) ∧ Below w.heap.size w w' := by
  have e0 : (Tm.sym 0).int (rho4 cap seg n cls zs bs) = cap := int_sym _ _
  have e1 : (Tm.sym 1).int (rho4 cap seg n cls zs bs) = seg := int_sym _ _
  have e2 : (Tm.sym 2).int (rho4 cap seg n cls zs bs) = n := int_sym _ _
  have e3 : L3.int (rho4 cap seg n cls zs bs) = zs.length := by
    rw [L3, int_len', ev_sym]
    show (((zs.map fun n => [Dat.n n]).length : Nat) : Int) = _
    simp
  have ef : (Tm.fn 1 [.sym 3]).int (rho4 cap seg n cls zs bs) = if rightD (rowsN zs) then 1 else 0 := by
    simp only [Tm.int, Tm.ev, Tm.evs]
    show (Dat.n (if rightD (rowsN zs) then 1 else 0)).int = _
    rfl
  have es : ∀ a b, (Tm.op .sub [a, b]).int (rho4 cap seg n cls zs bs) = a.int (rho4 cap seg n cls zs bs) - b.int (rho4 cap seg n cls zs bs) := fun a b => int_sub _ _
  have er : (Tm.op .len [.op (.rows 0 0) []]).int (rho4 cap seg n cls zs bs) = 0 := by
    rw [int_len']; simp [Tm.ev, BOp.ev, rowsOf, Dat.rows]
  have hlen := hw.len
  have hmx : maxLen = 9223372036854775807 := by decide
  rw [hmx] at hlen
  have hb0 : bound.holds (rho4 cap seg n cls zs bs) := by simp only [bound, Fact.holds, e3, int_lit]; omega
  have hn' := wf_iff.1 hn
  have u0 : IntKind.u64.min = 0 := by decide
  have u1 : IntKind.u64.max = 18446744073709551615 := by decide
  rw [u0, u1] at hn'
  have hnf : ∃ b, AllHold (rho4 cap seg n cls zs bs) (nF b) := by
    by_cases h : 1 < n
    · refine ⟨true, allHold_cons ?_ (allHold_cons ?_ (allHold_cons ?_ allHold_nil))⟩ <;> simp only [Fact.holds, e2, int_lit, es, u0, u1] <;> omega
    · refine ⟨false, allHold_cons ?_ (allHold_cons ?_ (allHold_cons ?_ allHold_nil))⟩ <;> simp only [Fact.holds, e2, int_lit, es, u0, u1] <;> omega
  obtain ⟨b, hnf⟩ := hnf
  cases hr : rightD (rowsN zs) with
  | false =>
    refine go4 hw hb (rBad b) (allHold_cons hb0 (allHold_cons ?_ hnf))
    simp only [Fact.holds, ef, hr, int_lit]; rfl
  | true =>
    have hl : 1 ≤ zs.length ∧ zs.length ≤ 8 := by
      unfold rightD at hr
      simp only [Bool.and_eq_true, decide_eq_true_eq] at hr
      have e : (rowsN zs).rows.length = zs.length := by simp [rowsN, Dat.rows]
      rw [e] at hr
      exact hr.1
    have hcap : ∀ l, AllHold (rho4 cap seg n cls zs bs) l → AllHold (rho4 cap seg n cls zs bs) (inCap l) := fun l h => by
      refine allHold_cons hb0 (allHold_cons ?_ (allHold_cons ?_ h))
      · simp only [Fact.holds, ef, hr, int_lit]; rfl
      · simp only [Fact.holds, e3, int_lit]; omega
    have hroom : ∀ l, AllHold (rho4 cap seg n cls zs bs) l → AllHold (rho4 cap seg n cls zs bs) (roomy l) := fun l h => by
      refine allHold_cons ?_ (allHold_cons ?_ (allHold_cons ?_ h)) <;> simp only [Fact.holds, int_add, er, e3, int_lit] <;> omega
    by_cases c1 : 1 ≤ cap
    · by_cases c2 : cap ≤ 1099511627776
      · by_cases c3 : 1 ≤ seg
        · refine go4 hw hb (rOK b) (hcap _ (allHold_cons ?_ (allHold_cons ?_ (allHold_cons ?_ (hroom _ hnf))))) <;> simp only [Fact.holds, e0, e1, int_lit] <;> omega
        · refine go4 hw hb (rSeg b) (hcap _ (allHold_cons ?_ (allHold_cons ?_ (allHold_cons ?_ (hroom _ hnf))))) <;> simp only [Fact.holds, e0, e1, int_lit] <;> omega
      · refine go4 hw hb (rBig b) (hcap _ (allHold_cons ?_ (allHold_cons ?_ hnf))) <;> simp only [Fact.holds, e0, int_lit] <;> omega
    · refine go4 hw hb (rLow b) (hcap _ (allHold_cons ?_ hnf)); simp only [Fact.holds, e0, int_lit]; omega
end
end Go.Eng

namespace Go.Proofs.YtkpobofljnokaaaGreat
open Go.ChangeShapes Go.WideShapes Go.ChangeAt Go.RowKit Go.Eng
set_option linter.unusedVariables false

theorem own : ownKnob Tryz.prog.godebug = none := by kernel_rfl
theorem laidOut : laidOutB Tryz.prog = true := by kernel_rfl
theorem span_cells : Tryz.prog.cellTypes Tryz.prog.depth 33 = some [3, 31] := by kernel_rfl

set_option maxRecDepth 100000 in
theorem spillNil_lifted (os : Os) (started : os.Started) (H : Type) (enc : TypeId × Value → H) :
    ReturnsInHanded {} Tryz.checked os 4 .any (Rows.spillNilSpec.pre6 enc Tryz.prog Tryz.f4 Rows.spillNilRow.domain false) (Rows.spillNilSpec.post enc Tryz.prog Tryz.f4 false true false false) := by
  refine returnsInHanded_of_change (C := Tryz.checked) own started (by kernel_rfl) Tryz.func4
    (ChangeSpec.witness6 (enc := enc) (C := Tryz.checked) false ⟨#[], #[.int .i64 0, .int .i64 0, .slice none 0 0, .int .u64 0, .agg #[.int .i64 0, .slice none 0 0]], []⟩ 8 (by kernel_rfl) (by kernel_rfl) (by kernel_rfl) (by kernel_rfl)) ?_
  intro W base args ds gs before hval0 hW hcnd _
  have hval : ∀ (j : Nat) t v, Tryz.f4.params[j]? = some t → args[j]? = some v → Value.okWide Tryz.prog W .any base t v := hval0
  have hW' := hW
  obtain ⟨p, q, hA0, hV, rfl, hfz, hnd⟩ := hW
  have hA : DataW.TrodAll enc Tryz.prog W 0 (fun _ => true) true Tryz.f4.params.toList args.toList ds p := hA0
  rw [Tryz.params4] at hA hval
  obtain ⟨v0, vs0, d0, ds0, p0, q0, hargs, rfl, rfl, h0, r0⟩ := trodAll_cons hA
  obtain ⟨v1, vs1, d1, ds1, p1, q1, rfl, rfl, rfl, h1, r1⟩ := trodAll_cons r0
  obtain ⟨v2, vs2, d2, ds2, p2, q2, rfl, rfl, rfl, h2, r2⟩ := trodAll_cons r1
  obtain ⟨v3, vs3, d3, ds3, p3, q3, rfl, rfl, rfl, h3, r3⟩ := trodAll_cons r2
  obtain ⟨v4, vs4, d4, ds4, p4, q4, rfl, rfl, rfl, h4, r4⟩ := trodAll_cons r3
  obtain ⟨rfl, rfl, rfl⟩ := trodAll_nil r4
  obtain rfl : args = #[v0, v1, v2, v3, v4] := by cases args; simp_all
  obtain ⟨rfl, rfl⟩ := trodVars_none hV
  obtain ⟨a0, rfl, rfl, rfl, w0⟩ := open_int Tryz.underlying3 (hval 0 3 v0 rfl rfl) h0
  obtain ⟨a1, rfl, rfl, rfl, w1⟩ := open_int Tryz.underlying3 (hval 1 3 v1 rfl rfl) h1
  obtain ⟨aw, lw, cw, rfl⟩ := okWide_slice Tryz.underlying27 (hval 2 27 v2 rfl rfl)
  obtain ⟨a3, rfl, rfl, rfl, w3⟩ := open_int Tryz.underlying35 (hval 3 35 v3 rfl rfl) h3
  have k2 := h2
  have k4 := h4
  have lt2 : ∀ x ∈ p2, x.block < W.heap.size := by obtain ⟨m, hm⟩ := k2; exact DataW.trod_lt m _ _ _ hm
  have lt4 : ∀ x ∈ p4, x.block < W.heap.size := by obtain ⟨m, hm⟩ := k4; exact DataW.trod_lt m _ _ _ hm
  obtain ⟨zs, hzs⟩ : ∃ zs, IntsIn W .i64 (aw, lw, cw) zs := by
    obtain ⟨fuel, hf⟩ := h2
    exact ints_of Tryz.underlying27 Tryz.underlying3 (by kernel_rfl) (spot_of_val Tryz.underlying27 (hval 2 27 _ rfl rfl)) (by simpa [Value.cells] using hf)
  obtain ⟨c0, c1, y0, y1, m, rfl, rfl, rfl, hy0, hy1⟩ := Joins.open_agg2 Tryz.underlying33 (by kernel_rfl) (by kernel_rfl) (hval 4 33 v4 rfl rfl) h4
  have f0 := field_ok Tryz.underlying33 span_cells (hval 4 33 _ rfl rfl) (i := 0) (u := 3) (v := c0) rfl rfl
  have f1 := field_ok Tryz.underlying33 span_cells (hval 4 33 _ rfl rfl) (i := 1) (u := 31) (v := c1) rfl rfl
  obtain ⟨cls, rfl⟩ := okWide_int Tryz.underlying3 (v := c0) (by simp only [Value.okWide, Tryz.underlying3]; exact f0)
  obtain ⟨ab, lb, cb, rfl⟩ := okWide_slice Tryz.underlying31 (v := c1) (by simp only [Value.okWide, Tryz.underlying31]; exact f1)
  obtain ⟨bs, hbs⟩ := ints_of Tryz.underlying31 Tryz.underlying5 (by kernel_rfl) (spot_of Tryz.underlying31 f1) hy1
  clear hA0 hval0
  refine (walk4 (cap := a0) (seg := a1) (cls := cls) hzs hbs w3).mono fun e W' ⟨he, bel⟩ => ?_
  subst he
  exact ⟨_, rfl, _, _, _, [], _, [], hW', trodAll_mk1 (shut_bool Tryz.underlying4 _),
    (trodAll_cons_mk (shut_int Tryz.underlying3 w0) (trodAll_cons_mk (shut_int Tryz.underlying3 w1) (trodAll_cons_mk (Below.trod laidOut (by kernel_rfl) (of_decide_eq_true (by kernel_rfl)) k2 bel lt2) (trodAll_cons_mk (shut_int Tryz.underlying35 w3) (trodAll_cons_mk (Below.trod laidOut (by kernel_rfl) (of_decide_eq_true (by kernel_rfl)) k4 bel lt4) trodAll_mk0))))), rfl, bel.frame _, fun h => by cases h⟩

/-- SpillNil, of whatever it is given. -/
theorem spillNil_holds : Rows.SpillNilSaid :=
  OpenClaim.holds_of_wide 4 Tryz.f4 rfl rfl rfl rfl rfl rfl rfl ⟨rfl, rfl, rfl, rfl, rfl⟩ rfl rfl rfl rfl rfl (by kernel_rfl) Tryz.func4 (by kernel_rfl)
    (of_decide_eq_true (by kernel_rfl)) (by unfold Func.isWrapper; first | (rw [if_pos (by decide +kernel)]; kernel_rfl) | (rw [if_neg (by decide +kernel)]; exact ⟨rfl, rfl⟩))
    (fun os started H enc _ => spillNil_lifted os started H enc)
#print axioms spillNil_holds
end Go.Proofs.YtkpobofljnokaaaGreat
