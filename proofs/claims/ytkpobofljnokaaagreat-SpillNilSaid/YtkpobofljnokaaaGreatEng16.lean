/- The engine, sixteenth part: ranges, functions of the outside, methods. -/
import Derived.Test.YtkpobofljnokaaaGreatEng15
namespace Go.Eng
section
variable {K : Cfg} {ρ : Rho} {μ : Mu} {S : Ids} {H H' G : AH} {w : World} {P : Program} {r : Operand → Option AVal} {a : Act} {v : AVal}

/-- A new block that is known whole. -/
theorem EOut.new (h : Rel ρ μ S H w) {s : Sem Value} {b : ABlk} {o : Obj} (hpl : b.plain = true) (hs : s.run K.P w = .ok (conc (μ.at H.next (.of w.heap.size 0 0)) ρ v) { w with heap := w.heap.push o })
    (hv : VR ρ (μ.at H.next (.of w.heap.size 0 0)) (S.and H.next) v)
    (hb : ∀ w' : World, w'.heap[w.heap.size]? = some o → BRel ρ (μ.at H.next (.of w.heap.size 0 0)) (S.and H.next) w' (.of w.heap.size 0 0) b) : EOut K ρ μ S H w v (H.alloc b) s :=
  ⟨_, _, _, hs, Step.alloc h (fun k hk => heap_push_old hk) (by simp) rfl rfl rfl (hb _ (by simp)) (New.plain hpl (Nat.le_refl _)), hv⟩

theorem range_run (hK : COK K) (h : Rel ρ μ S H w) {t : TypeId} {x : AVal} (hr : rangeB K H t x = some (v, H')) : EOut K ρ μ S H w v H' (Instr.range t (conc μ ρ x)) := by
  unfold rangeB at hr
  split at hr
  · rename_i s hu
    cases hr
    exact EOut.new h rfl (o := .stringIter (str8 s) 0) (by simp only [conc, Instr.range, Sem.run_bind, run_und hK hu, Result.andThen_ok, Sem.run_pure, run_newObj, Mu.at_self]) (VR.ptr (Ids.and_self _ _)) fun w' hw => ⟨rfl, hw⟩
  · rename_i kt et hu
    cases hr
    exact EOut.new h rfl (o := .mapIter none 0 #[] 0) (by simp only [conc, Instr.range, Sem.run_bind, run_und hK hu, Result.andThen_ok, Sem.run_pure, run_newObj, Mu.at_self]) (VR.ptr (Ids.and_self _ _)) fun w' hw => ⟨rfl, (fun _ h => by cases h), hw⟩
  · rename_i kt et r hu
    split at hr
    · rename_i es c hm
      cases hr
      obtain ⟨hg, es', g1, g2, g3, hS⟩ := mapAt_at h hm
      have hne : r ≠ H.next := fun e => Nat.lt_irrefl _ (h.bnd _ (e ▸ hS))
      refine EOut.new h rfl (o := .mapIter (some (μ r).blk) c #[] c) (by simp only [conc, Instr.range, Sem.run_bind, run_und hK hu, Result.andThen_ok, Go.MapKept.run_getObj_map g1, Sem.run_pure, run_newObj, Mu.at_self]) (VR.ptr (Ids.and_self _ _)) fun w' hw => ⟨rfl, fun q hq => ?_, ?_⟩
      · cases hq; exact .inl hS
      · simp only [Option.map_some, Mu.at_ne μ _ hne]; exact hw
    · cases hr
  · cases hr

theorem decode_ascii {s : List Nat} {p c : Nat} (hp : s[p]? = some c) (hc : c < 128) : Utf8.decode (str8 s) p = (c, 1) := by
  have hi : p < s.length := (List.getElem?_eq_some_iff.1 hp).1
  have hg : ((str8 s).get! (p + 0)).toNat = c := by
    have h1 : (str8 s).get! p = c.toUInt8 := by
      show ((s.map Nat.toUInt8).toArray)[p]! = _
      have := (List.getElem?_eq_some_iff.1 hp).2
      simp [hi, this]
    rw [Nat.add_zero, h1]
    simp only [Nat.toUInt8, UInt8.toNat_ofNat']
    exact Nat.mod_eq_of_lt (by omega)
  simp only [Utf8.decode, hg]
  rw [if_pos (by omega)]

theorem olds_sound {since : Nat} : ∀ {es : List AEnt}, olds since es = true → ∀ e ∈ es, e.born < since
  | [], _, _, h => by cases h
  | e :: l, h, x, hx => by
    unfold olds at h
    cases hb : Nat.blt e.born since with
    | false => simp [hb] at h
    | true =>
      simp only [hb] at h
      cases hx with
      | head => exact Nat.le_of_ble_eq_true hb
      | tail _ hx => exact olds_sound h x hx

theorem memN_iff {n : Nat} : ∀ {l : List Nat}, memN n l = l.contains n
  | [] => rfl
  | a :: l => by
    unfold memN
    cases hb : Nat.beq n a with
    | true => have := Nat.eq_of_beq_eq_true hb; simp [this]
    | false =>
      have hne : ¬ n = a := fun e => by subst e; simp at hb
      simp only [memN_iff (l := l), List.contains_cons]
      simp [hne]

theorem leftB_eq (seen : List Nat) : ∀ (es : List AEnt), leftB seen es = es.filter fun e => !seen.contains e.born
  | [] => rfl
  | e :: l => by
    unfold leftB
    rw [memN_iff, leftB_eq seen l, List.filter_cons]
    cases seen.contains e.born <;> simp

theorem next_run (h : Rel ρ μ S H w) {t : TypeId} {x : AVal} {b : Bool} (hx : VR ρ μ S x) (hr : nextB H x b = some (v, H')) : EOut K ρ μ S H w v H' (Instr.next (conc μ ρ x) b t) := by
  unfold nextB at hr
  split at hr
  · rename_i r
    have hS := hx.of_ptr
    split at hr
    · rename_i s p hg
      obtain ⟨_, hsh, hit⟩ := h.blk r _ hg
      have hp : conc μ ρ (.ptr r 0) = .pointer (some ⟨(μ r).blk, 0, none⟩) := by simp [conc, hsh]
      cases hn : nth s p with
      | none =>
        simp only [hn, Option.some.injEq, Prod.mk.injEq] at hr
        obtain ⟨rfl, rfl⟩ := hr
        refine EOut.refl h (VR.tuple (VRs.cons VR.bool VRs.nil)) ?_
        rw [nth_eq] at hn
        have hle : ¬ p < (str8 s).size := by rw [str8_size]; have := List.getElem?_eq_none_iff.1 hn; omega
        simp only [hp, Instr.next, Sem.run_bind, run_getObj hit (by simp), Result.andThen_ok, if_neg hle, Sem.run_pure]
        simp [conc, concs]
      | some c =>
        simp only [hn] at hr
        split at hr
        · rename_i hc
          have hc' := Nat.le_of_ble_eq_true hc
          cases hr
          rw [nth_eq] at hn
          have hlt : p < (str8 s).size := by rw [str8_size]; exact (List.getElem?_eq_some_iff.1 hn).1
          refine ⟨μ, S, { w with heap := w.heap.setIfInBounds (μ r).blk (.stringIter (str8 s) (p + 1)) }, ?_, Step.set h hg rfl rfl rfl rfl hit fun w' hw => ⟨hsh, hw⟩, VR.tuple (VRs.cons VR.bool (VRs.cons VR.int (VRs.cons VR.int VRs.nil)))⟩
          simp only [hp, Instr.next, Sem.run_bind, run_getObj hit (by simp), Result.andThen_ok, if_pos hlt, decode_ascii hn (by omega), run_setObj _ hit (by simp), Sem.run_pure]
          simp [conc, concs, goInt]
        · cases hr
    · rename_i since seen st hg
      cases hr
      obtain ⟨_, hsh, _, hit⟩ := h.blk r _ hg
      have hp : conc μ ρ (.ptr r 0) = .pointer (some ⟨(μ r).blk, 0, none⟩) := by simp [conc, hsh]
      refine EOut.refl h (VR.tuple (VRs.cons VR.bool VRs.nil)) ?_
      simp only [Option.map_none] at hit
      simp only [hp, Instr.next, Sem.run_bind, run_getObj hit (by simp), Result.andThen_ok, Sem.run_pure]
      simp [conc, concs]
    · rename_i mm since seen st hg
      obtain ⟨_, hsh, hm, hit⟩ := h.blk r _ hg
      have hp : conc μ ρ (.ptr r 0) = .pointer (some ⟨(μ r).blk, 0, none⟩) := by simp [conc, hsh]
      simp only [Option.map_some] at hit
      split at hr
      · rename_i es c hma
        obtain ⟨hg2, es', g1, g2, g3, hS2⟩ := mapAt_at h hma
        split at hr
        · rename_i hc1 hc2
          have hc1' := Nat.eq_of_beq_eq_true hc1
          have hc2' := Nat.eq_of_beq_eq_true hc2
          subst hc1'; subst hc2'
          have hleft : (es'.filter fun e => !seen.toArray.contains e.born).toList = (leftB seen es).map (entC μ ρ) := by
            rw [Array.toList_filter, g2, leftB_eq, List.filter_map]
            congr 1
            apply List.filter_congr
            intro e _
            simp [entC]
            exact decide_eq_decide.2 Iff.rfl
          have hstop : (olds st es = true) → (!seen.toArray.isEmpty && !es'.isEmpty && es'.all (·.born ≥ st)) = false := by
            intro ho
            cases hE : es with
            | nil =>
              have : es' = #[] := by apply Array.ext'; rw [g2, hE]; rfl
              simp [this]
            | cons e l =>
              have hb := olds_sound ho e (by rw [hE]; simp)
              have hmem : entC μ ρ e ∈ es'.toList := by rw [g2, hE]; simp
              have : es'.all (fun x => decide (x.born ≥ st)) = false := by
                rw [Bool.eq_false_iff]
                intro hall
                have := Array.all_eq_true_iff_forall_mem.1 hall (entC μ ρ e) (Array.mem_toList_iff.1 hmem)
                simp [entC] at this
                omega
              simp [this]
          have hcand : ∀ (l : List AEnt), leftB seen es = l → olds st es = true → (es'.filter fun e => !seen.toArray.contains e.born).filter (fun e => decide (e.born < st)) = (l.map (entC μ ρ)).toArray ∧
              (es'.filter fun e => !seen.toArray.contains e.born).filter (fun e => decide (e.born ≥ st)) = #[] := by
            intro l hl ho
            have hall : ∀ e ∈ l, e.born < st := fun e he => by
              rw [← hl, leftB_eq] at he
              exact olds_sound ho e (List.mem_filter.1 he).1
            constructor
            · apply Array.ext'
              rw [Array.toList_filter, hleft, hl]
              apply List.filter_eq_self.2
              intro x hx
              obtain ⟨e, he, rfl⟩ := List.mem_map.1 hx
              simp [entC, hall e he]
            · apply Array.ext'
              rw [Array.toList_filter, hleft, hl]
              apply List.filter_eq_nil_iff.2
              intro x hx
              obtain ⟨e, he, rfl⟩ := List.mem_map.1 hx
              have := hall e he
              simp [entC]; omega
          split at hr
          · rename_i ho hl
            cases hr
            obtain ⟨q1, q2⟩ := hcand _ hl ho
            refine EOut.refl h (VR.tuple (VRs.cons VR.bool VRs.nil)) ?_
            simp only [hp, Instr.next, Sem.run_bind, run_getObj hit (by simp), Result.andThen_ok, Go.MapKept.run_getObj_map g1, hstop ho, Bool.false_eq_true, if_false, q1, q2]
            simp [choose, Sem.run, Question.forced, conc, concs]
          · rename_i e ho hl
            cases hr
            obtain ⟨q1, q2⟩ := hcand _ hl ho
            have hem : e ∈ es := by
              have : e ∈ leftB seen es := by rw [hl]; simp
              rw [leftB_eq] at this
              exact (List.mem_filter.1 this).1
            obtain ⟨v1, v2⟩ := g3 e hem
            refine ⟨μ, S, { w with heap := w.heap.setIfInBounds (μ r).blk (.mapIter (some (μ mm).blk) st (seen.toArray.push e.born) st) }, ?_, Step.set h hg rfl rfl rfl rfl hit fun w' hw => ⟨hsh, hm, ?_⟩, VR.tuple (VRs.cons VR.bool (VRs.cons v1 (VRs.cons v2 VRs.nil)))⟩
            · simp only [hp, Instr.next, Sem.run_bind, run_getObj hit (by simp), Result.andThen_ok, Go.MapKept.run_getObj_map g1, hstop ho, Bool.false_eq_true, if_false, q1, q2]
              simp [choose, Sem.run, Question.forced, conc, concs, entC, run_setObj _ hit, Result.andThen]
            · simp only [Option.map_some]
              rw [hw]; simp
          · cases hr
        · cases hr
      · cases hr
    · cases hr
  · cases hr

/-! ### Functions of the outside -/
theorem ext_run (h : Rel ρ μ S H w) {e : Ext} {args : List AVal} (hr : extB H e args = some (v, H')) : EOut K ρ μ S H w v H' (extFn e (concs μ ρ args).toArray) := by
  unfold extB at hr
  split at hr
  · rename_i t r
    split at hr
    · rename_i es c hm
      cases hr
      obtain ⟨hg, es', g1, g2, g3, hS⟩ := mapAt_at h hm
      have hup := Mu.at_upto (S := S) μ (.of w.heap.size 0 0) (fun hs => Nat.lt_irrefl _ (h.bnd H.next hs))
      refine EOut.new h rfl (o := .map es' c) ?_ (VR.iface (VR.map (Ids.and_self _ _))) fun w' hw => ⟨fun e he => ⟨(g3 e he).1.up hup (Ids.le_and _ _), (g3 e he).2.up hup (Ids.le_and _ _)⟩, es', hw, ?_⟩
      · have e : Extern.MapsClone.clone #[.iface t (.map (some (μ r).blk))] = (getObj (μ r).blk >>= fun o => match o with
            | .map entries clock => (newObj (.map entries clock) >>= fun n => pure (.iface t (.map (some n))))
            | _ => stuck "maps.clone: a map expected") := rfl
        simp only [concs, conc, extFn, e, Sem.run_bind, Go.MapKept.run_getObj_map g1, Result.andThen_ok, run_newObj, Sem.run_pure, Mu.at_self]
      · rw [g2]
        exact List.map_congr_left fun e he => by simp only [entC]; rw [(g3 e he).1.eq hup, (g3 e he).2.eq hup]
    · cases hr
  · rename_i x y c
    split at hr
    · rename_i hc
      have hc' := Nat.le_of_ble_eq_true hc
      cases hr
      refine EOut.refl h (VR.tuple (VRs.cons VR.int (VRs.cons VR.int VRs.nil))) ?_
      have hno : ¬ (c > 1) := by omega
      have e : ∀ x y c : Value, Extern.MathBitsCarry.three "Add64" #[x, y, c] = (asInt c >>= fun a => do
          if a.toNat > 1 then unsupported (.noEntry ("extern/math/bits." ++ "Add64" ++ ": a carry that is neither 0 nor 1"))
          pure ((← asInt x).toNat, (← asInt y).toNat, a.toNat)) := fun _ _ _ => rfl
      have hm : Extern.MathBitsCarry.m64 = 18446744073709551616 := by decide
      have hc2 : ∀ n : Nat, (Int.ofNat n).toNat = n := fun _ => rfl
      simp only [concs, conc, extFn, e, Sem.run_bind, run_asInt, Result.andThen_ok, hc2, Sem.run_ite, if_neg hno, Sem.run_pure, Extern.MathBitsCarry.pair, hm]
    · cases hr
  · cases hr
end
end Go.Eng
