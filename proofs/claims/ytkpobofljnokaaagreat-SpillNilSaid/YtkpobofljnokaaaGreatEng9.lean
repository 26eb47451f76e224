/- The engine, ninth part: conversions; what is built and made. -/
import Derived.Test.YtkpobofljnokaaaGreatEng8
import Derived.IntWalk
namespace Go.Eng
section
variable {K : Cfg} {ρ : Rho} {μ : Mu} {S : Ids} {H G : AH} {w : World} {P : Program} {r : Operand → Option AVal} {a : Act} {v : AVal}

/-! ### A new row of cells -/
theorem heap_push_old {o : Obj} {k : Nat} (hk : k < w.heap.size) : (w.heap.push o)[k]? = w.heap[k]? := by
  rw [Array.getElem?_push, if_neg (by omega)]

theorem concs_getElem? (l : List AVal) (i : Nat) {x : AVal} (h : l[i]? = some x) : (concs μ ρ l).toArray[i]? = some (conc μ ρ x) := by
  simp [concs_get, h]

theorem NOut.row {id : Nat} (hid : ¬ S id) {l : List AVal} (hl : VRs ρ μ S l) {E : TypeId} {w' : World} {z cap : Nat}
    (hw : w'.heap = w.heap.push (.cells (concs μ ρ l).toArray E)) (ho : w'.os = w.os) (ht : w'.tape = w.tape) (hu : w'.output = w.output) (hz : z = 0)
    {rr : Result Value} (hr : rr = .ok (conc (μ.at id (.of w.heap.size 0 cap)) ρ v) w') (hv : VR ρ (μ.at id (.of w.heap.size 0 cap)) (S.and id) v) :
    NOut ρ μ S H w id v rr (some (.cells l true z)) := by
  have hup := Mu.at_upto (S := S) μ (.of w.heap.size 0 cap) hid
  refine ⟨w', (.of w.heap.size 0 cap), hr, hv, fun k hk => by rw [hw]; exact heap_push_old hk, by rw [hw]; simp, ho, ht, hu, ⟨hl.up hup (Ids.le_and _ _), .inr ⟨(concs μ ρ l).toArray, E, (0, 0), by rw [hw]; simp, fun i x hx => ?_, fun _ => .inl rfl, fun h => absurd hz h⟩⟩, New.plain rfl (Nat.le_refl _)⟩
  rw [(hl.get hx).eq hup, Nat.zero_add]
  exact concs_getElem? l i hx

theorem conc_at_ptr (id : Nat) (p : Place) (o : Nat) : conc (μ.at id p) ρ (.ptr id o) = .pointer (some ⟨p.blk, p.sh + o, none⟩) := by simp [conc, Mu.at_self]

theorem alloc_run (hK : COK K) {id : Nat} (hid : ¬ S id) {t : TypeId} {ob : Option ABlk} (hb : bAlloc (zeroB K t) = some ob) :
    NOut ρ μ S H w id (.ptr id 0) ((Instr.alloc t true (.tuple #[])).run K.P w) ob := by
  cases hz : zeroB K t with
  | none => simp [hz, bAlloc] at hb
  | some z =>
    simp only [hz, bAlloc, Option.some.injEq] at hb
    subst hb
    refine NOut.row (w' := { w with heap := w.heap.push (.cells (concs μ ρ z.cells).toArray t) }) (cap := 0) hid (zeroB_VR hz).cells rfl rfl rfl rfl rfl ?_ (VR.ptr (Ids.and_self _ _))
    simp [Instr.alloc, run_zeroB (μ := μ) (ρ := ρ) hK hz, newVar, newRow, conc_cells, conc, Mu.at_self]

theorem box_run {id : Nat} (hid : ¬ S id) {t : TypeId} {x : AVal} (hx : VR ρ μ S x) {ob : Option ABlk} (hb : bAlloc (some x) = some ob) :
    NOut ρ μ S H w id (.ptr id 0) ((Instr.box t (conc μ ρ x)).run P w) ob := by
  simp only [bAlloc, Option.some.injEq] at hb
  subst hb
  refine NOut.row (w' := { w with heap := w.heap.push (.cells (concs μ ρ x.cells).toArray t) }) (cap := 0) hid hx.cells rfl rfl rfl rfl rfl ?_ (VR.ptr (Ids.and_self _ _))
  simp [Instr.box, newVar, newRow, conc_cells, conc, Mu.at_self]

theorem makeMap_run (hK : COK K) (ho : ORel ρ μ S r a) {id : Nat} (_ : ¬ S id) {t : TypeId} {hnt : Option Operand} (hv : vMakeMap K id r t hnt = some v) :
    NOut ρ μ S H w id v ((Instr.makeMap t (hnt.map a.eval)).run K.P w) (some (.map [] 0)) := by
  have key : v = .map id ∧ (Instr.makeMap t (hnt.map a.eval)).run K.P w = .ok (.map (some w.heap.size)) { w with heap := w.heap.push (.map #[] 0) } := by
    cases hnt with
    | none => simp only [vMakeMap, Option.some.injEq] at hv; exact ⟨hv.symm, by simp [Instr.makeMap]⟩
    | some x =>
      simp only [vMakeMap] at hv
      split at hv
      · rename_i kt et k n hu hx
        cases hv
        obtain ⟨h1, _⟩ := ho x _ hx
        exact ⟨rfl, by simp [Instr.makeMap, run_und hK hu, h1, conc, run_asInt]⟩
      · cases hv
  obtain ⟨rfl, hr⟩ := key
  refine ⟨{ w with heap := w.heap.push (.map #[] 0) }, (.of w.heap.size 0 0), by rw [hr]; simp [conc, Mu.at_self], VR.map (Ids.and_self _ _), fun k hk => heap_push_old hk, by simp, rfl, rfl, rfl, ⟨by simp, #[], by simp, by simp⟩, New.plain rfl (Nat.le_refl _)⟩

/-! ### Zeros, many times -/
theorem zrep_length (z : List AVal) : ∀ n, (zrep z n).length = n * z.length
  | 0 => by simp [zrep]
  | n + 1 => by simp [zrep, zrep_length z n, Nat.succ_mul, Nat.add_comm]

theorem zrep_get (z : List AVal) : ∀ (n i : Nat), i < n * z.length → (zrep z n)[i]? = z[i % z.length]?
  | 0, i, h => by simp at h
  | n + 1, i, h => by
    have hz : 0 < z.length := by rcases Nat.eq_zero_or_pos z.length with h0 | h0 <;> first | exact h0 | (rw [h0] at h; omega)
    simp only [zrep]
    by_cases hi : i < z.length
    · rw [List.getElem?_append_left hi, Nat.mod_eq_of_lt hi]
    · have hi' : z.length ≤ i := by omega
      rw [List.getElem?_append_right hi', zrep_get z n (i - z.length) (by rw [Nat.succ_mul] at h; omega)]
      rw [← Nat.mod_eq_sub_mod hi']

theorem zrep_VR {z : List AVal} (h : VRs ρ μ S z) : ∀ n, VRs ρ μ S (zrep z n)
  | 0 => VRs.nil
  | n + 1 => h.append (zrep_VR h n)

theorem rep_eq (z : List AVal) (n s : Nat) (Z : Array Value) (hs : z.length = s) (hZ : n * s = 0 ∨ Z = (concs μ ρ z).toArray) :
    (Array.range (n * s)).map (fun i => Z[i % Z.size]!) = (concs μ ρ (zrep z n)).toArray := by
  subst hs
  apply Array.ext'
  rw [show (concs μ ρ (zrep z n)).toArray.toList = concs μ ρ (zrep z n) from rfl]
  apply List.ext_getElem?
  intro i
  rw [concs_get]
  by_cases hi : i < n * z.length
  · rcases hZ with h0 | rfl
    · omega
    · have hz : 0 < z.length := by rcases Nat.eq_zero_or_pos z.length with h0 | h0 <;> first | exact h0 | (rw [h0] at hi; omega)
      have hm : i % z.length < z.length := Nat.mod_lt _ hz
      rw [zrep_get z n i hi, List.getElem?_eq_getElem hm]
      simp [hi, hm, concs_eq]
  · have h1 : (zrep z n)[i]? = none := by rw [List.getElem?_eq_none]; rw [zrep_length]; omega
    rw [h1]
    simp; omega

/-! ### What is filled -/
theorem foldl_splice (off : Nat) : ∀ (L : List Value) (k : Nat) (arr : Array Value), off + k + L.length ≤ arr.size →
    ((L.zipIdx k).foldl (fun cs (q : Value × Nat) => cs.setIfInBounds (off + q.2) q.1) arr).toList = arr.toList.take (off + k) ++ L ++ arr.toList.drop (off + k + L.length)
  | [], k, arr, h => by simp
  | c :: L, k, arr, h => by
    simp only [List.zipIdx_cons, List.foldl_cons, List.length_cons] at h ⊢
    rw [foldl_splice off L (k + 1) _ (by simp; omega)]
    have hlt : off + k < arr.toList.length := by simp; omega
    simp only [Array.toList_setIfInBounds]
    have h1 : (arr.toList.set (off + k) c).take (off + (k + 1)) = arr.toList.take (off + k) ++ [c] := by
      rw [List.take_set, show off + (k + 1) = (off + k) + 1 by omega, List.take_succ_eq_append_getElem hlt]
      rw [List.set_append_right _ _ (by simp; omega)]
      have : off + k - (arr.toList.take (off + k)).length = 0 := by simp; omega
      rw [this]; rfl
    have h2 : (arr.toList.set (off + k) c).drop (off + (k + 1) + L.length) = arr.toList.drop (off + k + (L.length + 1)) := by
      rw [List.drop_set_of_lt (by omega)]
      congr 1; omega
    rw [h1, h2]
    simp

/-- The model's filling, and ours. -/
theorem fill_sound (place : Nat → Option (Nat × Nat)) : ∀ (ps : List (Nat × AVal)) (cs r : List AVal), fillB place cs ps = some r →
    Instr.fill place (concs μ ρ cs).toArray (ps.map fun q => (q.1, conc μ ρ q.2)) = some (concs μ ρ r).toArray
  | [], cs, r, h => by simp [fillB] at h; subst h; simp [Instr.fill]
  | (i, x) :: ps, cs, r, h => by
    simp only [fillB] at h
    cases hp : place i with
    | none => simp [hp] at h
    | some os =>
      obtain ⟨off, size⟩ := os
      simp only [hp] at h
      cases h1 : Nat.beq x.cells.length size with
      | false => simp [h1] at h
      | true =>
        cases h2 : Nat.ble (off + size) cs.length with
        | false => simp [h1, h2] at h
        | true =>
          simp only [h1, h2] at h
          have e1 := Nat.eq_of_beq_eq_true h1
          have e2 := Nat.le_of_ble_eq_true h2
          simp only [List.map_cons, Instr.fill, hp, conc_cells]
          rw [if_neg (by simp [concs_length]; omega)]
          rw [← fill_sound place ps _ r h]
          congr 1
          apply Array.ext'
          have := foldl_splice off (concs μ ρ x.cells) 0 (concs μ ρ cs).toArray (by simp [concs_length]; omega)
          simp only [Nat.add_zero] at this
          rw [← Array.foldl_toList]
          have hz : ((concs μ ρ x.cells).toArray.zipIdx).toList = (concs μ ρ x.cells).zipIdx 0 := by simp
          rw [hz]
          refine Eq.trans ?_ (this.trans ?_)
          · rfl
          · simp only [concs_eq, List.map_append, List.map_take, List.map_drop, List.length_map, e1]

theorem fillB_VR {place : Nat → Option (Nat × Nat)} : ∀ {ps : List (Nat × AVal)} {cs r : List AVal}, fillB place cs ps = some r → VRs ρ μ S cs → (∀ q ∈ ps, VR ρ μ S q.2) → VRs ρ μ S r
  | [], cs, r, h, h1, _ => by simp [fillB] at h; subst h; exact h1
  | (i, x) :: ps, cs, r, h, h1, h2 => by
    simp only [fillB] at h
    split at h
    · cases h
    · split at h
      · refine fillB_VR h ?_ fun q hq => h2 q (.tail _ hq)
        exact ((h1.take _).append (h2 (i, x) (.head _)).cells).append (h1.drop _)
      · cases h

theorem partsB_sound (ho : ORel ρ μ S r a) : ∀ {l : List (Nat × Operand)} {ps : List (Nat × AVal)}, partsB r l = some ps →
    (l.map fun q => (q.1, a.eval q.2)) = ps.map (fun q => (q.1, conc μ ρ q.2)) ∧ ∀ q ∈ ps, VR ρ μ S q.2
  | [], ps, h => by simp [partsB] at h; subst h; simp
  | (i, x) :: l, ps, h => by
    simp only [partsB] at h
    cases hx : r x with
    | none => simp [hx] at h
    | some y =>
      cases hl : partsB r l with
      | none => simp [hx, hl] at h
      | some ps' =>
        simp only [hx, hl, Option.some.injEq] at h
        subst h
        obtain ⟨h1, h2⟩ := partsB_sound ho hl
        obtain ⟨h3, h4⟩ := ho x y hx
        refine ⟨by simp [h1, h3], fun q hq => ?_⟩
        cases hq with
        | head => exact h4
        | tail _ hq => exact h2 q hq

theorem placesB_run (hK : COK K) : ∀ {fs : List Field} {pl : List (Nat × Nat)}, placesB K fs = some pl →
    (fs.mapM (fun f => do pure (f.offset, ← sizeOf f.type) : Field → Sem (Nat × Nat))).run K.P w = .ok pl w
  | [], pl, h => by simp [placesB] at h; subst h; simp
  | f :: fs, pl, h => by
    simp only [placesB] at h
    cases hs : szB K f.type with
    | none => simp [hs] at h
    | some s =>
      cases hl : placesB K fs with
      | none => simp [hs, hl] at h
      | some pl' =>
        simp only [hs, hl, Option.some.injEq] at h
        subst h
        simp only [List.mapM_cons, Sem.run_bind, run_szB hK hs, Result.andThen_ok, Sem.run_pure, placesB_run hK hl]

theorem build_run (hK : COK K) (ho : ORel ρ μ S r a) {t : TypeId} {ps : Array (Nat × Operand)} (hv : buildB K r t ps.toList = some v) :
    Pure1 ρ μ S K.P w v (Instr.build t (ps.map fun (i, x) => (i, a.eval x))) := by
  unfold buildB at hv
  cases hz : zeroB K t with
  | none => simp [hz] at hv
  | some z =>
    cases hp : partsB r ps.toList with
    | none => simp [hz, hp] at hv
    | some l =>
      simp only [hz, hp] at hv
      obtain ⟨h1, h2⟩ := partsB_sound ho hp
      have hps : (ps.map fun (i, x) => (i, a.eval x)).toList = l.map (fun q => (q.1, conc μ ρ q.2)) := by simpa using h1
      split at hv
      · rename_i fs hu
        cases hpl : placesB K fs.toList with
        | none => simp [hpl] at hv
        | some pl =>
          simp only [hpl] at hv
          cases hf : fillB (nth pl) z.cells l with
          | none => simp [hf] at hv
          | some cs =>
            simp only [hf, Option.some.injEq] at hv
            subst hv
            refine ⟨?_, VR.agg (fillB_VR hf (zeroB_VR hz).cells h2)⟩
            have hfill := fill_sound (μ := μ) (ρ := ρ) _ l z.cells cs hf
            have hpr := placesB_run (w := w) hK hpl
            have hnth : (fun i => nth pl i) = (fun i => pl.toArray[i]?) := by funext i; rw [nth_eq]; simp
            have hfill' : Instr.fill (fun i => pl.toArray[i]?) (conc μ ρ z).cells ((ps.map fun (i, x) => (i, a.eval x)).toList) = some (concs μ ρ cs).toArray := by
              rw [hps, conc_cells, ← hnth]; exact hfill
            have hmap : (fs.mapM (fun f => do pure (f.offset, ← sizeOf f.type) : Field → Sem (Nat × Nat))).run K.P w = .ok pl.toArray w := by
              have e : (fs.mapM (fun f => do pure (f.offset, ← sizeOf f.type) : Field → Sem (Nat × Nat))) = List.toArray <$> (fs.toList.mapM (fun f => do pure (f.offset, ← sizeOf f.type) : Field → Sem (Nat × Nat))) := by
                rw [← List.mapM_toArray]
              rw [e]
              simp only [Sem.run_map, hpr, Result.andThen_ok]
            simp only [Instr.build, Sem.run_bind, run_zeroB (μ := μ) (ρ := ρ) hK hz, Result.andThen_ok, run_und hK hu, hmap, hfill', Sem.run_pure, conc]
      · rename_i n e hu
        cases hs : szB K e with
        | none => simp [hs] at hv
        | some s =>
          simp only [hs] at hv
          cases hf : fillB (fun i => some (i * s, s)) z.cells l with
          | none => simp [hf] at hv
          | some cs =>
            simp only [hf, Option.some.injEq] at hv
            subst hv
            refine ⟨?_, VR.agg (fillB_VR hf (zeroB_VR hz).cells h2)⟩
            have hfill := fill_sound (μ := μ) (ρ := ρ) _ l z.cells cs hf
            have hfill' : Instr.fill (fun i => some (i * s, s)) (conc μ ρ z).cells ((ps.map fun (i, x) => (i, a.eval x)).toList) = some (concs μ ρ cs).toArray := by
              rw [hps, conc_cells]; exact hfill
            simp only [Instr.build, Sem.run_bind, run_zeroB (μ := μ) (ρ := ρ) hK hz, Result.andThen_ok, run_und hK hu, run_szB hK hs, hfill', Sem.run_pure, conc]
      · cases hv

theorem buildSlice_run (hK : COK K) (ho : ORel ρ μ S r a) {id : Nat} (hid : ¬ S id) {t : TypeId} {n : Nat} {ps : Array (Nat × Operand)} {ob : Option ABlk}
    (hb : bBuildSlice K t n (partsB r ps.toList) = some ob) :
    NOut ρ μ S H w id (.slice id 0 n (.ex n)) ((Instr.buildSlice t n (ps.map fun (i, x) => (i, a.eval x))).run K.P w) ob := by
  cases hp : partsB r ps.toList with
  | none => simp [hp, bBuildSlice] at hb
  | some l =>
    simp only [hp, bBuildSlice] at hb
    split at hb
    · rename_i e hu
      cases hs : szB K e with
      | none => simp [hs, bRowOf] at hb
      | some s =>
        cases hz : zeroB K e with
        | none => simp [hs, hz, bRowOf] at hb
        | some z =>
          simp only [hs, hz, bRowOf, rowB] at hb
          cases h1 : Nat.beq z.cells.length s with
          | false => simp [h1, bRow] at hb
          | true =>
            cases h2 : Nat.ble (n * s) 16777216 with
            | false => simp [h1, h2, bRow] at hb
            | true =>
              simp only [h1, h2] at hb
              have e1 := Nat.eq_of_beq_eq_true h1
              have e2 := Nat.le_of_ble_eq_true h2
              cases hf : fillB (fun i => some (i * s, s)) (zrep z.cells n) l with
              | none => simp [hf, bRow] at hb
              | some cs =>
                simp only [hf, bRow, Option.some.injEq] at hb
                subst hb
                obtain ⟨g1, g2⟩ := partsB_sound ho hp
                have hps : (ps.map fun (i, x) => (i, a.eval x)).toList = l.map (fun q => (q.1, conc μ ρ q.2)) := by simpa using g1
                have hfill := fill_sound (μ := μ) (ρ := ρ) _ l _ cs hf
                have hvs : VRs ρ μ S cs := fillB_VR hf (zrep_VR (zeroB_VR hz).cells n) g2
                refine NOut.row (w' := { w with heap := w.heap.push (.cells (concs μ ρ cs).toArray e) }) (cap := 0) hid hvs rfl rfl rfl rfl rfl ?_ (VR.slice (Ids.and_self _ _))
                have hno : ¬ (n * s > 2 ^ 24) := by omega
                have hrow : ∀ Z : Array Value, (n * s = 0 ∨ Z = (concs μ ρ z.cells).toArray) →
                    Instr.fill (fun i => some (i * s, s)) ((Array.range (n * s)).map (fun i => Z[i % Z.size]!)) ((ps.map fun (i, x) => (i, a.eval x)).toList) = some (concs μ ρ cs).toArray := by
                  intro Z hZ
                  rw [rep_eq (μ := μ) (ρ := ρ) z.cells n s Z e1 hZ, hps]
                  exact hfill
                by_cases h0 : n * s = 0
                · simp only [Instr.buildSlice, Sem.run_bind, run_und hK hu, Result.andThen_ok, run_szB hK hs, Sem.run_ite, Sem.run_pure, h0, if_true]
                  have := hrow #[] (.inl h0)
                  rw [h0] at this
                  rw [this]
                  simp [newRow, conc, Mu.at_self]
                · simp only [Instr.buildSlice, Sem.run_bind, run_und hK hu, Result.andThen_ok, run_szB hK hs, Sem.run_ite, if_neg hno, Sem.run_pure, if_neg h0, run_zeroB (μ := μ) (ρ := ρ) hK hz, conc_cells]
                  rw [hrow _ (.inr rfl)]
                  simp [newRow, conc, Mu.at_self]
    · cases hb

theorem makeSlice_run (hK : COK K) {id : Nat} (hid : ¬ S id) {t : TypeId} {x y : AVal} {ob : Option ABlk} (hv : vMakeSlice id (some x) (some y) = some v) (hb : bMakeSlice K t v = some ob) :
    NOut ρ μ S H w id v ((Instr.makeSlice t (conc μ ρ x) (conc μ ρ y)).run K.P w) ob := by
  unfold vMakeSlice at hv
  split at hv
  · rename_i l c h1 h2
    cases h1; cases h2
    cases hv
    simp only [bMakeSlice] at hb
    split at hb
    · rename_i e hu
      cases hi : K.info e with
      | none => simp [hi, bMade] at hb
      | some i =>
        cases hz : zeroB K e with
        | none => simp [hi, hz, bMade] at hb
        | some z =>
          simp only [hi, hz, bMade] at hb
          split at hb
          · rename_i h1 h2 h3 h4
            cases hb
            have e1 := Nat.eq_of_beq_eq_true h1
            have e2 := Nat.le_of_ble_eq_true h2
            have e3 : c < 1000000000 := Nat.le_of_ble_eq_true h3
            have e4 := Nat.le_of_ble_eq_true h4
            have hs : szB K e = some i.size := by simp [szB, hi]
            refine NOut.row (w' := { w with heap := w.heap.push (.cells (concs μ ρ (zrep z.cells c)).toArray e) }) (cap := 0) hid (zrep_VR (zeroB_VR hz).cells c) rfl rfl rfl rfl rfl ?_ (VR.slice (Ids.and_self _ _))
            have wr : ∀ q : Nat, q < 1000000000 → IntKind.i64.wrap (Int.ofNat q) = (q : Int) := by
              intro q hq
              exact IntWalk.i64_in _ ⟨by show (-9223372036854775808 : Int) ≤ (q : Int); omega, by show (q : Int) ≤ 9223372036854775807; omega⟩
            have wc := wr c e3
            have wl := wr l (by omega)
            have hbc : ((i.bytes : Int) * (c : Int)) ≤ 1000000000 := by
              have q : ((i.bytes * c : Nat) : Int) ≤ 1000000000 := by omega
              rw [Int.natCast_mul] at q
              exact q
            have t1 : (decide ((c : Int) < 0) || decide ((i.bytes : Int) * (c : Int) > 2 ^ 48)) = false := by
              rw [Bool.or_eq_false_iff]; exact ⟨decide_eq_false (by omega), decide_eq_false (by omega)⟩
            have t2 : decide ((l : Int) < 0) = false := decide_eq_false (by omega)
            have t3 : decide ((l : Int) > (c : Int)) = false := decide_eq_false (by omega)
            have hrow : ∀ Z : Array Value, (c * i.size = 0 ∨ Z = (concs μ ρ z.cells).toArray) → (Array.range (c * i.size)).map (fun j => Z[j % Z.size]!) = (concs μ ρ (zrep z.cells c)).toArray :=
              fun Z hZ => rep_eq z.cells c i.size Z e1 hZ
            by_cases h0 : c * i.size = 0
            · have h1 := hrow #[] (.inl h0)
              simp only [Instr.makeSlice, Sem.run_bind, run_und hK hu, Result.andThen_ok, conc, run_asInt, run_info hK hi, wc, wl, t1, t2, t3, Bool.or_false, Bool.false_eq_true, if_false, Sem.run_ite, run_askRoom, run_szB hK hs, Int.toNat_natCast, h0, if_true, Sem.run_pure]
              rw [h0] at h1
              rw [h1]
              simp [newRow, Mu.at_self]
            · have h1 := hrow _ (.inr rfl)
              simp only [Instr.makeSlice, Sem.run_bind, run_und hK hu, Result.andThen_ok, conc, run_asInt, run_info hK hi, wc, wl, t1, t2, t3, Bool.or_false, Bool.false_eq_true, if_false, Sem.run_ite, run_askRoom, run_szB hK hs, Int.toNat_natCast, if_neg h0, run_zeroB (μ := μ) (ρ := ρ) hK hz, conc_cells, Sem.run_pure]
              rw [h1]
              simp [newRow, Mu.at_self]
          · cases hb
    · cases hb
  · cases hv
end
end Go.Eng
