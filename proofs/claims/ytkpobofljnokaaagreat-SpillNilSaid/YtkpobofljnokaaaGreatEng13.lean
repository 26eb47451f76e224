/- The engine, thirteenth part: appends of zeros; what an append comes to. -/
import Derived.Test.YtkpobofljnokaaaGreatEng12
namespace Go.Eng
section
variable {K : Cfg} {ρ : Rho} {μ : Mu} {S : Ids} {H H' G : AH} {w : World} {P : Program} {r : Operand → Option AVal} {a : Act} {v : AVal}

theorem append_zeros (hK : COK K) {t0 t1 ty e : TypeId} {k1 : IntKind} (hu0 : K.und t0 = some (.slice e)) (hu1 : K.und t1 = some (.int k1))
    {i : TypeInfo} {zv : AVal} {z : Nat} (hi : K.info e = some i) (hzv : zeroB K e = some zv) (hsz : i.size = z) (hzp : 0 < z) (hzl : zv.cells.length = z) (hby : i.bytes ≤ 65536)
    {n : Nat} (hn : n < 1000000) {base : Option Addr} {sLen sCap : Nat} (h : Rel ρ μ S H w) :
    AppRoom K ρ μ w z base sLen sCap n (zrep zv.cells n) (Builtin.append_ #[t0, t1] ty #[.slice base sLen sCap, .int .i64 (.ofNat n)]) ∧
    AppNew K ρ μ S H w z e base sLen sCap n (zrep zv.cells n) (Builtin.append_ #[t0, t1] ty #[.slice base sLen sCap, .int .i64 (.ofNat n)]) := by
  have hs : szB K e = some z := by simp [szB, hi, hsz]
  have wr : IntKind.i64.wrap (Int.ofNat n) = (n : Int) := IntWalk.i64_in _ ⟨by show (-9223372036854775808 : Int) ≤ (n : Int); omega, by show (n : Int) ≤ 9223372036854775807; omega⟩
  have p1 : ¬ ((n : Int) < 0) := by omega
  have p2 : ¬ ((n : Int) * (i.bytes : Int) > 2 ^ 48) := by
    have h1 : n * i.bytes ≤ 1000000 * 65536 := Nat.mul_le_mul (by omega) hby
    have h2 : ((n * i.bytes : Nat) : Int) ≤ 65536000000 := by omega
    rw [Int.natCast_mul] at h2
    omega
  have hz : ∀ w : World, (if n * z = 0 then (Pure.pure #[] : Sem (Array Value)) else do Pure.pure (Builtin.zeroCells (← zeroValue e).cells n)).run K.P w = .ok (concs μ ρ (zrep zv.cells n)).toArray w := by
    intro w
    by_cases h0 : n * z = 0
    · have : n = 0 := (Nat.mul_eq_zero.1 h0).resolve_right (by omega)
      subst this
      simp [zrep, concs]
    · simp only [if_neg h0, Sem.run_bind, run_zeroB (μ := μ) (ρ := ρ) hK hzv, Result.andThen_ok, Sem.run_pure, conc_cells, zeroCells_eq _ _ _ hzl]
  constructor
  · intro hroom w' hw1 hw2
    have hz' := hz w
    cases base with
    | none =>
      have := hw2 rfl
      subst this
      by_cases h0 : n * z = 0
      · simp only [Builtin.append_, List.getElem?_toArray, List.getElem?_cons_zero, List.getElem?_cons_succ, Sem.run_bind, run_und hK hu0, run_und hK hu1, Result.andThen_ok, run_szB hK hs, Sem.run_pure, if_true, run_asInt, wr, Sem.run_ite, if_neg p1, run_info hK hi, if_neg p2, Int.toNat_natCast, if_pos hroom, Bool.not_true, Bool.false_eq_true, if_false, h0]
      · simp only [if_neg h0, Sem.run_bind] at hz'
        simp only [Builtin.append_, List.getElem?_toArray, List.getElem?_cons_zero, List.getElem?_cons_succ, Sem.run_bind, run_und hK hu0, run_und hK hu1, Result.andThen_ok, run_szB hK hs, Sem.run_pure, if_true, run_asInt, wr, Sem.run_ite, if_neg p1, run_info hK hi, if_neg p2, Int.toNat_natCast, if_pos hroom, Bool.not_true, Bool.false_eq_true, if_false, if_neg h0, run_zeroB (μ := μ) (ρ := ρ) hK hzv]
    | some A =>
      have h1 := hw1 A rfl
      by_cases h0 : n * z = 0
      · simp only [h0, if_true, Sem.run_pure, Result.ok.injEq, and_true] at hz'
        have h1' : (storeCells (A.add (sLen * z)) (#[] : Array Value).toList).run K.P w = .ok () w' := by rw [hz']; exact h1
        simp only [Builtin.append_, List.getElem?_toArray, List.getElem?_cons_zero, List.getElem?_cons_succ, Sem.run_bind, run_und hK hu0, run_und hK hu1, Result.andThen_ok, run_szB hK hs, Sem.run_pure, if_true, run_asInt, wr, Sem.run_ite, if_neg p1, run_info hK hi, if_neg p2, Int.toNat_natCast, if_pos hroom, Bool.not_true, Bool.false_eq_true, if_false, h0, h1']
      · have h2 : Builtin.zeroCells (conc μ ρ zv).cells n = (concs μ ρ (zrep zv.cells n)).toArray := by rw [conc_cells, zeroCells_eq _ _ _ hzl]
        simp only [Builtin.append_, List.getElem?_toArray, List.getElem?_cons_zero, List.getElem?_cons_succ, Sem.run_bind, run_und hK hu0, run_und hK hu1, Result.andThen_ok, run_szB hK hs, Sem.run_pure, if_true, run_asInt, wr, Sem.run_ite, if_neg p1, run_info hK hi, if_neg p2, Int.toNat_natCast, if_pos hroom, Bool.not_true, Bool.false_eq_true, if_false, if_neg h0, run_zeroB (μ := μ) (ρ := ρ) hK hzv, h2, h1]
  · intro hno hsm old hold
    have hmax : IntKind.i64.max = 9223372036854775807 := by decide
    have c1 : ∀ (q : Prop), ¬ (((sLen + n : Nat) : Int) > IntKind.i64.max ∧ q) := fun q => by rw [hmax]; omega
    have c2 : ¬ (Builtin.nextslicecap (sLen + n) sCap * i.bytes > 2 ^ 48) := by
      have h1 := nextcap_le hno
      have h2 : Builtin.nextslicecap (sLen + n) sCap * i.bytes ≤ 6000000 * 65536 := Nat.mul_le_mul (by omega) hby
      omega
    have hf : (Question.appendCap (sLen + n) sCap e).forced = false := rfl
    have hc : sLen + n ≤ (Question.appendCap (sLen + n) sCap e).cut (w.tape w.drawn (Question.appendCap (sLen + n) sCap e)) := Nat.le_add_right _ _
    have hrd : Rel ρ μ S H { w with drawn := w.drawn + 1 } := h.heap rfl
    have hr2 := hold.run _ hrd
    generalize hcap : (Question.appendCap (sLen + n) sCap e).cut (w.tape w.drawn (Question.appendCap (sLen + n) sCap e)) = cap at hc
    have hjoin : (concs μ ρ (old ++ zrep zv.cells n)).toArray = (concs μ ρ old).toArray ++ (concs μ ρ (zrep zv.cells n)).toArray := by apply Array.ext'; simp [concs_eq]
    refine ⟨{ w with heap := w.heap.push (.cells ((concs μ ρ old).toArray ++ (concs μ ρ (zrep zv.cells n)).toArray ++ Builtin.zeroCells (conc μ ρ zv).cells (cap - (sLen + n))) e), drawn := w.drawn + 1 }, cap,
      Builtin.zeroCells (conc μ ρ zv).cells (cap - (sLen + n)), hc, ?_, by rw [hjoin], ?_, rfl, rfl, rfl⟩
    rotate_left 1
    · rw [zeroCells_size]; simp [concs_length, conc_cells, hzl]
    · by_cases h0 : n * z = 0
      · have hn0 : n = 0 := (Nat.mul_eq_zero.1 h0).resolve_right (by omega)
        have h2 : (concs μ ρ (zrep zv.cells n)).toArray = #[] := by rw [hn0]; simp [zrep, concs]
        simp only [h2, Builtin.append_, List.getElem?_toArray, List.getElem?_cons_zero, List.getElem?_cons_succ, Sem.run_bind, run_und hK hu0, run_und hK hu1, Result.andThen_ok, run_szB hK hs, Sem.run_pure, if_true, run_asInt, wr, Sem.run_ite, if_neg p1, run_info hK hi, if_neg p2, Int.toNat_natCast, if_neg hno, Bool.not_true, Bool.false_eq_true, if_false, h0, if_neg (c1 _), if_neg c2, run_choose, hf, hcap, run_askRoom, hr2, run_zeroB (μ := μ) (ρ := ρ) hK hzv, newRow, run_newObj]
      · have h2 : Builtin.zeroCells (conc μ ρ zv).cells n = (concs μ ρ (zrep zv.cells n)).toArray := by rw [conc_cells, zeroCells_eq _ _ _ hzl]
        simp only [Builtin.append_, List.getElem?_toArray, List.getElem?_cons_zero, List.getElem?_cons_succ, Sem.run_bind, run_und hK hu0, run_und hK hu1, Result.andThen_ok, run_szB hK hs, Sem.run_pure, if_true, run_asInt, wr, Sem.run_ite, if_neg p1, run_info hK hi, if_neg p2, Int.toNat_natCast, if_neg hno, Bool.not_true, Bool.false_eq_true, if_false, if_neg h0, if_neg (c1 _), if_neg c2, run_choose, hf, hcap, run_askRoom, hr2, run_zeroB (μ := μ) (ρ := ρ) hK hzv, h2, newRow, run_newObj]

/-- The new array of an append. -/
theorem Step.grown (h : Rel ρ μ S H w) (h0 : Rel ρ μ S H' w) {z e n cap : Nat} {cs : List AVal} {rest : Array Value} {w' : World} (hn : H.next = H'.next) (hsub : ∀ id b, H'.m.get id = some b → H.m.get id = some b)
    (hlen : cs.length = n * z) (hcap : n ≤ cap) (hr : rest.size = (cap - n) * z) (hcs : VRs ρ μ S cs)
    (hw : w'.heap = w.heap.push (.cells ((concs μ ρ cs).toArray ++ rest) e)) (ho : w'.os = w.os) (ht : w'.tape = w.tape) (hu : w'.output = w.output) :
    Step ρ μ S H w (μ.at H'.next (.of w.heap.size 0 cap)) (S.and H'.next) (H'.alloc (.cells cs true z)) w' ∧
    conc (μ.at H'.next (.of w.heap.size 0 cap)) ρ (.slice H'.next 0 n (.el 0)) = .slice (some ⟨w.heap.size, 0, none⟩) n cap := by
  have hid : ¬ S H'.next := fun q => Nat.lt_irrefl _ (h0.bnd _ q)
  have hup := Mu.at_upto (S := S) μ (.of w.heap.size 0 cap) hid
  have k1 : ∀ k, k < w.heap.size → w'.heap[k]? = w.heap[k]? := fun k hk => by rw [hw]; exact heap_push_old hk
  have k2 : w'.heap[w.heap.size]? = some (.cells ((concs μ ρ cs).toArray ++ rest) e (0, 0)) := by rw [hw]; simp
  have k3 : w.heap.size ≤ w'.heap.size := by rw [hw]; simp
  have hb : BRel ρ (μ.at H'.next (.of w.heap.size 0 cap)) (S.and H'.next) w' (.of w.heap.size 0 cap) (.cells cs true z) := by
    refine ⟨hcs.up hup (Ids.le_and _ _), .inr ⟨_, e, (0, 0), k2, fun i x hx => ?_, fun _ => .inl rfl, fun _ => ?_⟩⟩
    · rw [(hcs.get hx).eq hup, Nat.zero_add]
      have hi : i < cs.length := (List.getElem?_eq_some_iff.1 hx).1
      rw [Array.getElem?_append_left (by simpa [concs_length] using hi)]
      exact concs_getElem? cs i hx
    · simp only [Array.size_append, List.size_toArray, concs_length, hlen, hr, Nat.zero_add]
      rw [← Nat.add_mul]
      congr 1
      omega
  exact ⟨(Step.less h (Nat.le_of_eq hn) hsub).trans (Step.alloc h0 k1 k3 ho ht hu hb (New.plain rfl (Nat.le_refl _))), by simp [conc, Mu.at_self]⟩
end
end Go.Eng
