/- The engine, eleventh part: every operation that changes nothing; those that change the heap. -/
import Derived.Test.YtkpobofljnokaaaGreatEngA
namespace Go.Eng
section
variable {K : Cfg} {ρ : Rho} {μ : Mu} {S : Ids} {H G : AH} {w : World} {P : Program} {r : Operand → Option AVal} {a : Act} {v : AVal}

theorem VR.of_ptr {b o : Nat} (h : VR ρ μ S (.ptr b o)) : S b := by
  refine Classical.byContradiction fun hS => ?_
  have := h (μ.at b (.of ((μ b).blk + 1) (μ b).sh 0)) (Mu.at_upto μ _ hS)
  simp [conc, Mu.at_self] at this
theorem VR.of_slice {b o n : Nat} {c : ACap} (h : VR ρ μ S (.slice b o n c)) : S b := by
  refine Classical.byContradiction fun hS => ?_
  have := h (μ.at b (.of ((μ b).blk + 1) (μ b).sh 0)) (Mu.at_upto μ _ hS)
  cases c <;> simp [conc, Mu.at_self] at this
theorem VR.of_map {b : Nat} (h : VR ρ μ S (.map b)) : S b := by
  refine Classical.byContradiction fun hS => ?_
  have := h (μ.at b (.of ((μ b).blk + 1) (μ b).sh 0)) (Mu.at_upto μ _ hS)
  simp [conc, Mu.at_self] at this
theorem VR.of_yield {b : Nat} (h : VR ρ μ S (.yield b)) : S b := by
  refine Classical.byContradiction fun hS => ?_
  have := h (μ.at b (.of ((μ b).blk + 1) (μ b).sh 0)) (Mu.at_upto μ _ hS)
  simp [conc, Mu.at_self] at this

def NOutN (ρ : Rho) (μ : Mu) (S : Ids) (H : AH) (w : World) (id : Nat) (v : AVal) (r : Result Next) : Option ABlk → Prop
  | none => ∃ w', r = .ok (.value (conc μ ρ v)) w' ∧ VR ρ μ S v ∧ Step ρ μ S H w μ S H w'
  | some b => ∃ w' p, r = .ok (.value (conc (μ.at id p) ρ v)) w' ∧ VR ρ (μ.at id p) (S.and id) v ∧ (∀ k, k < w.heap.size → w'.heap[k]? = w.heap[k]?) ∧ w.heap.size ≤ w'.heap.size ∧
      w'.os = w.os ∧ w'.tape = w.tape ∧ w'.output = w.output ∧ BRel ρ (μ.at id p) (S.and id) w' p b ∧ New μ H w p b

theorem NOut.next {id : Nat} {s : Sem Value} {ob : Option ABlk} (h : NOut ρ μ S H w id v (s.run P w) ob) :
    NOutN ρ μ S H w id v ((do Pure.pure (Next.value (← s)) : Sem Next).run P w) ob := by
  cases ob with
  | none =>
    obtain ⟨w', h1, h2, h3⟩ := h
    exact ⟨w', by simp [h1], h2, h3⟩
  | some b =>
    obtain ⟨w', p, h1, h2⟩ := h
    exact ⟨w', p, by simp [h1], h2⟩

theorem NOutN.pure (h : Rel ρ μ S H w) {id : Nat} {s : Sem Value} (hp : Pure1 ρ μ S P w v s) : NOutN ρ μ S H w id v ((do Pure.pure (Next.value (← s)) : Sem Next).run P w) none :=
  (NOut.pure h hp).next

theorem optOpd_sound (ho : ORel ρ μ S r a) {x : Option Operand} {y : Option AVal} (h : optOpd r x = some y) : x.map a.eval = y.map (conc μ ρ) := by
  cases x with
  | none => simp only [optOpd, Option.some.injEq] at h; subst h; rfl
  | some x =>
    simp only [optOpd] at h
    cases hx : r x with
    | none => simp [hx] at h
    | some y' => simp only [hx, Option.some.injEq] at h; subst h; simp [(ho x y' hx).1]

theorem args_run (ho : ORel ρ μ S r a) {xs : Array Operand} {vs : List AVal} (h : optAll r xs.toList = some vs) : xs.map a.eval = (concs μ ρ vs).toArray ∧ VRs ρ μ S vs := by
  obtain ⟨h1, h2⟩ := ho.all h
  exact ⟨by apply Array.ext'; simpa using h1, h2⟩

theorem vcall_run (hK : COK K) (hS : SOK K ρ) (h : Rel ρ μ S H w) (hG : Sub G H) (ho : ORel ρ μ S r a) {c : Call} {ty : TypeId} (hv : vCall K G r c = some v) :
    (do let d ← resolve a.eval c ty; invoke d.target d.args : Sem Next).run K.P w = .ok (.value (conc μ ρ v)) w ∧ VR ρ μ S v := by
  obtain ⟨callee, args, argTypes⟩ := c
  unfold vCall at hv
  cases callee with
  | value f => cases hv
  | invoke x n => cases hv
  | builtin b =>
    simp only at hv
    cases ha : optAll r args.toList with
    | none => cases b <;> simp only [vBuiltin, ha, vFold] at hv <;> first | (cases hv; done) | (cases argTypes.toList <;> simp [vLen, vCap] at hv)
    | some vs =>
      obtain ⟨h1, h2⟩ := args_run ho ha
      obtain ⟨ks, hres⟩ : ∃ ks, (do let d ← resolve a.eval { callee := .builtin b, args := args, argTypes := argTypes } ty; invoke d.target d.args : Sem Next).run K.P w =
          (builtin b argTypes ty ks (concs μ ρ vs).toArray).run K.P w := by
        refine ⟨args.map (fun | .const _ => true | _ => false), ?_⟩
        simp only [resolve, invoke, Sem.run_bind, Sem.run_pure, Result.andThen_ok, h1]
        rfl
      rw [hres]
      cases b <;> simp only [vBuiltin, ha] at hv <;> try (cases hv; done)
      case cap =>
        unfold vCap at hv
        split at hv
        · rename_i t x ht hx
          cases hx
          have ht' : argTypes = #[t] := by apply Array.ext'; simpa using ht
          subst ht'
          obtain ⟨g1, g2⟩ := cap_run (w := w) (μ := μ) (ρ := ρ) (S := S) (ty := ty) hK hv
          refine ⟨?_, g2⟩
          rw [concs_one]
          simp only [builtin, Sem.run_bind]
          rw [g1]; rfl
        · cases hv
      case len =>
        unfold vLen at hv
        split at hv
        · rename_i t x ht hx
          cases hx
          have ht' : argTypes = #[t] := by apply Array.ext'; simpa using ht
          subst ht'
          obtain ⟨g1, g2⟩ := len_run (ty := ty) hK h hG hv
          refine ⟨?_, g2⟩
          rw [concs_one]
          simp only [builtin, Sem.run_bind]
          rw [g1]; rfl
        · cases hv
      case max =>
        unfold vFold at hv
        split at hv
        · rename_i x l hx
          cases hx
          obtain ⟨g1, g2⟩ := fold_run (P := K.P) (w := w) (μ := μ) (ρ := ρ) (S := S) (g := Builtin.max2) (fun x y v => max2_run hS) l x v (h2 x (.head _)) hv
          refine ⟨?_, g2⟩
          simp only [builtin, Builtin.max_, concs, Sem.run_bind]
          rw [g1]; rfl
        · cases hv
      case min =>
        unfold vFold at hv
        split at hv
        · rename_i x l hx
          cases hx
          obtain ⟨g1, g2⟩ := fold_run (P := K.P) (w := w) (μ := μ) (ρ := ρ) (S := S) (g := Builtin.min2) (fun x y v => min2_run hS) l x v (h2 x (.head _)) hv
          refine ⟨?_, g2⟩
          simp only [builtin, Builtin.min_, concs, Sem.run_bind]
          rw [g1]; rfl
        · cases hv

theorem val_run (hK : COK K) (hS : SOK K ρ) (h : Rel ρ μ S H w) (hG : Sub G H) (ho : ORel ρ μ S r a) {id : Nat} (hid : ¬ S id) {o : Oper} {ob : Option ABlk}
    (hv : valB K G id r o = some v) (hb : blkB K G id r o v = some ob) : NOutN ρ μ S H w id v ((execOp a.eval o).run K.P w) ob := by
  obtain ⟨dst, op, type, pos, after, guard⟩ := o
  cases op <;> simp only [valB] at hv <;> simp only [blkB] at hb <;> (try (cases hv; done)) <;> (try (simp only [Option.some.injEq] at hb; subst hb))
  case move x =>
    obtain ⟨h1, h2⟩ := ho x v hv
    exact ⟨w, by simp [execOp, h1], h2, Step.refl h⟩
  case assign x =>
    obtain ⟨h1, h2⟩ := ho x v hv
    exact ⟨w, by simp [execOp, h1], h2, Step.refl h⟩
  case pick c x y =>
    unfold vPick at hv
    split at hv
    · rename_i hc
      obtain ⟨g1, _⟩ := ho c _ hc
      obtain ⟨h1, h2⟩ := ho x v hv
      exact ⟨w, by simp [execOp, g1, h1, conc, asBool], h2, Step.refl h⟩
    · rename_i hc
      obtain ⟨g1, _⟩ := ho c _ hc
      obtain ⟨h1, h2⟩ := ho y v hv
      exact ⟨w, by simp [execOp, g1, h1, conc, asBool], h2, Step.refl h⟩
    · cases hv
  case alloc t =>
    simp only [Option.some.injEq] at hv
    subst hv
    exact (alloc_run hK hid hb).next
  case box t x =>
    simp only [Option.some.injEq] at hv
    subst hv
    cases hx : r x with
    | none => simp [hx, bAlloc] at hb
    | some y =>
      obtain ⟨h1, h2⟩ := ho x y hx
      rw [hx] at hb
      have := (box_run (P := K.P) (w := w) (H := H) (t := t) hid h2 hb).next
      simp only [execOp, h1]; exact this
  case build t ps =>
    have := NOutN.pure (id := id) h (build_run hK ho hv)
    simp only [execOp]; exact this
  case buildSlice t n ps =>
    simp only [Option.some.injEq] at hv
    subst hv
    have := (buildSlice_run (w := w) (H := H) hK ho hid hb).next
    simp only [execOp]; exact this
  case load t x =>
    cases hx : r x with
    | none => simp [hx, vLoad2, vLoad] at hv
    | some y =>
      obtain ⟨h1, h2⟩ := ho x y hx
      rw [hx] at hv hb
      unfold vLoad2 at hv
      unfold bLoad at hb
      split at hv
      · rename_i ri j z i o' e
        cases e
        simp only at hb
        have := (load_elem hK hS h hG hid hv hb).next
        simp only [execOp, h1]; exact this
      · rename_i hne
        split at hb
        · rename_i e; exact absurd e (hne _ _ _ _ _)
        · cases hb
          have := NOutN.pure (id := id) h (pure_load hK h hG hv)
          simp only [execOp, h1]; exact this
  case nilCheck x =>
    cases hx : r x with
    | none => simp [hx, vNil] at hv
    | some y =>
      obtain ⟨h1, h2⟩ := ho x y hx
      rw [hx] at hv
      obtain ⟨g1, g2⟩ := pure_nil (P := K.P) (w := w) h2 hv h1 (o := ⟨dst, .nilCheck x, type, pos, after, guard⟩) rfl
      exact ⟨w, g1, g2, Step.refl h⟩
  case binOp op t x y yt =>
    unfold vBin2 at hv
    split at hv
    · rename_i ri j hx hy
      obtain ⟨h1, h2⟩ := ho x _ hx
      obtain ⟨h3, h4⟩ := ho y _ hy
      split at hv
      · rename_i hu hs
        unfold isSliceD at hu
        split at hu
        · rename_i e hu'
          unfold someT at hs
          split at hs
          · rename_i c own hc
            have R := compAt_rel h hG hc
            have hlen : 0 < (c.t.ev ρ).rows.length := by
              simp only [Bool.or_eq_true] at hs
              rcases hs with hs | hs
              · have := AllHold.of hS hs; simp only [Fact.holds, int_lit, int_len] at this; omega
              · have := AllHold.of hS hs; simp only [Fact.holds, int_lit, int_len] at this; omega
            obtain ⟨b, o, cap, q1, _⟩ := R.hdr_some hlen
            have hcon : conc μ ρ (.ref ri j) = .slice (some ⟨b, o, none⟩) (c.t.ev ρ).rows.length cap := by rw [conc, q1]; rfl
            have hnil : conc μ ρ .nilSlice = .slice none 0 0 := by simp [conc]
            have hg : (eqGuard op t x y (conc μ ρ (.ref ri j)) (conc μ ρ .nilSlice)).run K.P w = .ok () w := by
              rw [hcon, hnil]; exact run_eqGuard rfl
            have hne : (Op.equal t (.slice (some ⟨b, o, none⟩) (c.t.ev ρ).rows.length cap) (.slice none 0 0)).run K.P w = .ok false w := by
              have gen : ∀ D, 0 < D → (Op.equalIn D t (.slice (some ⟨b, o, none⟩) (c.t.ev ρ).rows.length cap) (.slice none 0 0)).run K.P w = .ok false w := by
                intro D hD
                obtain ⟨D, rfl⟩ : ∃ D', D = D' + 1 := ⟨D - 1, by omega⟩
                simp [Op.equalIn, run_und hK hu']
              exact gen Op.maxDepth (by decide)
            split at hv
            · cases hv
              refine ⟨w, ?_, VR.bool, Step.refl h⟩
              simp only [execOp, h1, h3, Sem.run_bind, hg, Result.andThen_ok]
              rw [hcon, hnil, binOp_eql rfl]
              simp [hne, conc]
            · cases hv
              refine ⟨w, ?_, VR.bool, Step.refl h⟩
              simp only [execOp, h1, h3, Sem.run_bind, hg, Result.andThen_ok]
              rw [hcon, hnil, binOp_neq rfl]
              simp [hne, conc]
            · cases hv
          · cases hs
        · cases hu
      · cases hv
    cases hx : r x with
    | none => simp [hx, vBin] at hv
    | some x' =>
      cases hy : r y with
      | none => simp [hx, hy, vBin] at hv
      | some y' =>
        obtain ⟨h1, h2⟩ := ho x x' hx
        obtain ⟨h3, h4⟩ := ho y y' hy
        simp only [hx, hy, vBin] at hv
        have := NOutN.pure (id := id) h (binB_run (w := w) (X := x) (Y := y) (μ := μ) (S := S) hK hS hv)
        simp only [execOp, h1, h3]; exact this
  case unOp op t x =>
    cases hx : r x with
    | none => simp [hx, vUn] at hv
    | some x' =>
      obtain ⟨h1, h2⟩ := ho x x' hx
      simp only [hx, vUn] at hv
      have := NOutN.pure (id := id) h (unB_run (w := w) (P := K.P) (μ := μ) (ρ := ρ) (S := S) hS hv)
      simp only [execOp, h1]; exact this
  case convert s d x =>
    cases hx : r x with
    | none => simp [hx, vConv] at hv
    | some x' =>
      obtain ⟨h1, h2⟩ := ho x x' hx
      simp only [hx, vConv] at hv
      have := (conv_run (id := id) hK hS h hG h2 hv).next
      simp only [execOp, h1]; exact this
  case makeInterface t x =>
    cases hx : r x with
    | none => simp only [hx, vIface] at hv; split at hv <;> cases hv
    | some x' =>
      obtain ⟨h1, h2⟩ := ho x x' hx
      rw [hx] at hv
      have := NOutN.pure (id := id) h (pure_iface (w := w) hK h2 hv)
      simp only [execOp, h1]; exact this
  case makeFunc fn first cap =>
    unfold vMakeFunc at hv
    split at hv
    · rename_i f
      unfold vFunc at hv
      split at hv
      · rename_i l1 l2 e1 e2
        cases hv
        obtain ⟨g1, g2⟩ := args_run ho e1
        obtain ⟨g3, g4⟩ := args_run ho e2
        exact ⟨w, by simp [execOp, Instr.makeFunc, g1, g3, conc], VR.func g2 g4, Step.refl h⟩
      · cases hv
    · cases hv
  case makeMap t hnt =>
    have := (makeMap_run (w := w) (H := H) hK ho hid hv).next
    simp only [execOp]; exact this
  case makeSlice t x y =>
    unfold vMake at hv
    split at hv
    · rename_i c hm
      cases hv
      simp only [bMakeSlice2, hm, bOwn, Option.some.injEq] at hb
      subst hb
      cases hx : r x with
      | none => simp [hx, makeT] at hm
      | some x' =>
        cases hy : r y with
        | none => rw [hx, hy] at hm; unfold makeT at hm; split at hm <;> simp_all
        | some y' =>
          obtain ⟨h1, h2⟩ := ho x x' hx
          obtain ⟨h3, h4⟩ := ho y y' hy
          rw [hx, hy] at hm
          have := (made_run (w := w) (H := H) (μ := μ) (ρ := ρ) hK hS hid hm).next
          simp only [execOp, h1, h3]; exact this
    have hnr : ∀ a b, v ≠ .ref a b := by
      rintro a b rfl
      unfold vMakeSlice at hv
      split at hv <;> cases hv
    have hb : bMakeSlice K t v = some ob := by
      unfold bMakeSlice2 at hb
      split at hb
      · exact absurd rfl (hnr _ _)
      · exact hb
    cases hx : r x with
    | none => simp [hx, vMakeSlice] at hv
    | some x' =>
      cases hy : r y with
      | none => simp only [hx, hy] at hv; unfold vMakeSlice at hv; split at hv <;> simp_all
      | some y' =>
        obtain ⟨h1, h2⟩ := ho x x' hx
        obtain ⟨h3, h4⟩ := ho y y' hy
        rw [hx, hy] at hv
        have := (makeSlice_run (w := w) (H := H) (μ := μ) (ρ := ρ) hK hid hv hb).next
        simp only [execOp, h1, h3]; exact this
  case slice t x lo hi mx =>
    unfold vSlice2 at hv
    unfold bSlice2 at hb
    split at hv
    · rename_i ri j hx
      obtain ⟨h1, h2⟩ := ho x _ hx
      rw [hx] at hb
      simp only at hb
      unfold cutOf at hv hb
      split at hv
      · rename_i a1 a2 a3 e1 e2 e3
        simp only [e1, e2, e3] at hb
        unfold vCut at hv
        split at hv
        · rename_i c' hcut
          cases hv
          rw [hcut] at hb
          simp only [bCut, Option.some.injEq] at hb
          subst hb
          have := (cut_run (id := id) hK hS h hG hcut).next
          simp only [execOp, h1, optOpd_sound ho e1, optOpd_sound ho e2, optOpd_sound ho e3]; exact this
        · cases hv
      · cases hv
    rename_i hne
    split at hb
    · rename_i ri j hx
      exact absurd hx (hne ri j)
    unfold vSlice at hv
    split at hv
    · rename_i y a1 a2 a3 hx e1 e2 e3
      obtain ⟨h1, h2⟩ := ho x y hx
      have := (sliceB_run hK h hG hid h2 (fun b o e => VR.of_ptr (o := o) (e ▸ h2)) (fun b o n c e => VR.of_slice (o := o) (n := n) (c := c) (e ▸ h2)) hv hb).next
      simp only [execOp, h1, optOpd_sound ho e1, optOpd_sound ho e2, optOpd_sound ho e3]; exact this
    · cases hv
  case fieldAddr s x f =>
    cases hx : r x with
    | none => simp [hx, vFieldAddr] at hv
    | some y =>
      obtain ⟨h1, h2⟩ := ho x y hx
      rw [hx] at hv
      have := NOutN.pure (id := id) h (pure_fieldAddr (w := w) hK h2 hv (fun b o e => VR.of_ptr (o := o) (e ▸ h2)))
      simp only [execOp, h1]; exact this
  case field s x f =>
    cases hx : r x with
    | none => simp [hx, vField] at hv
    | some y =>
      obtain ⟨h1, h2⟩ := ho x y hx
      rw [hx] at hv
      have := NOutN.pure (id := id) h (pure_field (w := w) hK h2 hv)
      simp only [execOp, h1]; exact this
  case indexAddr t x ix =>
    unfold vIndexAddr2 at hv
    split at hv
    · rename_i ri j y hx hy
      obtain ⟨h1, h2⟩ := ho x _ hx
      obtain ⟨h3, h4⟩ := ho ix y hy
      have := NOutN.pure (id := id) h (idx_elem hK hS h hG hv)
      simp only [execOp, h1, h3]; exact this
    cases hi : r ix with
    | none => simp [hi, vIndexAddr] at hv
    | some i =>
      cases hx : r x with
      | none =>
        simp only [hx, hi] at hv
        unfold vIndexAddr at hv
        split at hv
        · unfold idxAddr at hv; split at hv <;> simp_all
        · cases hv
      | some y =>
        obtain ⟨h1, h2⟩ := ho x y hx
        obtain ⟨h3, h4⟩ := ho ix i hi
        rw [hx, hi] at hv
        have := NOutN.pure (id := id) h (pure_indexAddr (w := w) hK (fun b o e => VR.of_ptr (o := o) (e ▸ h2)) (fun b o n c e => VR.of_slice (o := o) (n := n) (c := c) (e ▸ h2)) hv)
        simp only [execOp, h1, h3]; exact this
  case index t x ix =>
    cases hi : r ix with
    | none => simp [hi, vIndex] at hv
    | some i =>
      cases hx : r x with
      | none =>
        simp only [hx, hi] at hv
        unfold vIndex at hv
        split at hv
        · unfold idxVal at hv; split at hv <;> simp_all
        · cases hv
      | some y =>
        obtain ⟨h1, h2⟩ := ho x y hx
        obtain ⟨h3, h4⟩ := ho ix i hi
        rw [hx, hi] at hv
        have := NOutN.pure (id := id) h (pure_index (w := w) hK h2 hv)
        simp only [execOp, h1, h3]; exact this
  case lookup t x k ok =>
    cases hx : r x with
    | none => simp [hx, vLookup] at hv
    | some x' =>
      cases hy : r k with
      | none => simp [hx, hy, vLookup] at hv
      | some y' =>
        obtain ⟨h1, h2⟩ := ho x x' hx
        obtain ⟨h3, h4⟩ := ho k y' hy
        simp only [hx, hy, vLookup] at hv
        have := NOutN.pure (id := id) h (pure_lookup hK h hG hv)
        simp only [execOp, h1, h3]; exact this
  case entry it =>
    cases hx : r it with
    | none => simp [hx, vEntry] at hv
    | some y =>
      obtain ⟨h1, h2⟩ := ho it y hx
      rw [hx] at hv
      have := NOutN.pure (id := id) h (entry_run (P := K.P) h hG hv)
      simp only [execOp, h1]; exact this
  case typeAssert x xt t ok =>
    cases hx : r x with
    | none => simp [hx, vAssert] at hv
    | some y =>
      obtain ⟨h1, h2⟩ := ho x y hx
      rw [hx] at hv
      have := NOutN.pure (id := id) h (pure_assert (w := w) (xt := xt) hK h2 hv)
      simp only [execOp, h1]; exact this
  case extract x i =>
    cases hx : r x with
    | none => simp [hx, vExtract] at hv
    | some y =>
      obtain ⟨h1, h2⟩ := ho x y hx
      rw [hx] at hv
      have := NOutN.pure (id := id) h (pure_extract (P := K.P) (w := w) h2 hv)
      simp only [execOp, h1]; exact this
  case call c =>
    obtain ⟨g1, g2⟩ := vcall_run (ty := type) hK hS h hG ho hv
    exact ⟨w, by simp only [execOp]; exact g1, g2, Step.refl h⟩
end
end Go.Eng
