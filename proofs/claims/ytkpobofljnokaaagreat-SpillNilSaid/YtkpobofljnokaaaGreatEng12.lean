/- The engine, twelfth part: writing: cells, appends. -/
import Derived.Test.YtkpobofljnokaaaGreatEng11
namespace Go.Eng
section
variable {K : Cfg} {ρ : Rho} {μ : Mu} {S : Ids} {H G : AH} {w : World} {P : Program} {r : Operand → Option AVal} {a : Act} {v : AVal}

theorem isCell_one {x : AVal} (h : x.isCell = true) : (conc μ ρ x).oneCell' = true := by
  cases x <;> simp [AVal.isCell] at h <;> (try rfl)
  rename_i c; cases c <;> rfl

/-- Cells stored one behind the other. -/
theorem run_storeCells (P : Program) {blk off : Nat} {E : TypeId} {fz : Nat × Nat} : ∀ (L : List Value) (i : Nat) (w : World) (cs : Array Value),
    w.heap[blk]? = some (.cells cs E fz) → Thawed cs.size fz → (∀ x ∈ L, x.oneCell' = true) → off + i + L.length ≤ cs.size →
    ∃ w' cs', (storeCells ⟨blk, off, none⟩ L i).run P w = .ok () w' ∧ w'.heap[blk]? = some (.cells cs' E fz) ∧ cs'.size = cs.size ∧
      cs'.toList = cs.toList.take (off + i) ++ L ++ cs.toList.drop (off + i + L.length) ∧
      (∀ k, k ≠ blk → w'.heap[k]? = w.heap[k]?) ∧ w'.heap.size = w.heap.size ∧ w'.os = w.os ∧ w'.tape = w.tape ∧ w'.output = w.output
  | [], i, w, cs, hb, _, _, _ => ⟨w, cs, by simp [storeCells], hb, rfl, by simp, fun _ _ => rfl, rfl, rfl, rfl, rfl⟩
  | x :: L, i, w, cs, hb, ht, hc, hl => by
    simp only [List.length_cons] at hl
    have hlt : off + i < cs.size := by omega
    have hcell : w.cell? ⟨blk, off + i, none⟩ = some cs[off + i] := by simp [World.cell?, hb, hlt]
    have hfz : w.frozen? ⟨blk, off + i, none⟩ = false := by simp only [World.frozen?, hb]; exact ht.free hlt
    have hst : (store ⟨blk, off + i, none⟩ x).run P w = .ok () (w.setCell ⟨blk, off + i, none⟩ x) := by
      rw [run_store P w _ x _ (hc x (.head _)), hcell]; simp [hfz]
    have hb' : (w.setCell ⟨blk, off + i, none⟩ x).heap[blk]? = some (.cells (cs.setIfInBounds (off + i) x) E fz) := by
      simp only [World.setCell, Array.getElem?_modify, hb, if_true, Option.map_some]; simp
    have ho' : ∀ k, k ≠ blk → (w.setCell ⟨blk, off + i, none⟩ x).heap[k]? = w.heap[k]? := fun k hk => by
      simp only [World.setCell, Array.getElem?_modify, if_neg (Ne.symm hk)]
    obtain ⟨w', cs', g1, g2, g3, g4, g5, g6, g7, g8, g9⟩ := run_storeCells P (blk := blk) (off := off) L (i + 1) (w.setCell ⟨blk, off + i, none⟩ x) (cs.setIfInBounds (off + i) x) hb' (by simpa using ht)
      (fun y hy => hc y (.tail _ hy)) (by rw [Array.size_setIfInBounds]; omega)
    refine ⟨w', cs', ?_, g2, by simpa using g3, ?_, fun k hk => (g5 k hk).trans (ho' k hk), by rw [g6]; simp [World.setCell], g7, g8, g9⟩
    · simp only [storeCells, add_none, Sem.run_bind, hst, Result.andThen_ok]
      exact g1
    · rw [g4]
      have hlt' : off + i < cs.toList.length := by simp; omega
      simp only [Array.toList_setIfInBounds]
      have h1 : (cs.toList.set (off + i) x).take (off + (i + 1)) = cs.toList.take (off + i) ++ [x] := by
        rw [List.take_set, show off + (i + 1) = (off + i) + 1 by omega, List.take_succ_eq_append_getElem hlt']
        rw [List.set_append_right _ _ (by simp; omega)]
        have : off + i - (cs.toList.take (off + i)).length = 0 := by simp; omega
        rw [this]; rfl
      have h2 : (cs.toList.set (off + i) x).drop (off + (i + 1) + L.length) = cs.toList.drop (off + i + (L.length + 1)) := by
        rw [List.drop_set_of_lt (by omega)]
        congr 1; omega
      rw [h1, h2]
      simp

theorem splice_sound {l vs r : List AVal} {o : Nat} (h : splice l o vs = some r) : o + vs.length ≤ l.length ∧ (∀ x ∈ vs, x.isCell = true) ∧ r = l.take o ++ vs ++ l.drop (o + vs.length) := by
  unfold splice at h
  split at h
  · rename_i h1 h2
    cases h
    exact ⟨Nat.le_of_ble_eq_true h1, allB_iff.1 h2, rfl⟩
  · cases h

/-- Known cells, of which some are written anew. -/
theorem splice_get {l vs : List AVal} {o sh : Nat} {cs cs' : Array Value} (hl : ∀ i v, l[i]? = some v → cs[sh + i]? = some (conc μ ρ v)) (ho : o + vs.length ≤ l.length)
    (hc : cs'.toList = cs.toList.take (sh + o) ++ concs μ ρ vs ++ cs.toList.drop (sh + o + vs.length)) (hsz : l = [] ∨ sh + l.length ≤ cs.size) :
    ∀ i v, (l.take o ++ vs ++ l.drop (o + vs.length))[i]? = some v → cs'[sh + i]? = some (conc μ ρ v) := by
  intro i v hv
  rw [← Array.getElem?_toList, hc]
  rcases hsz with rfl | hsz
  · simp at ho
    obtain ⟨rfl, h0⟩ := ho
    simp [h0] at hv
  have hlen : (cs.toList.take (sh + o)).length = sh + o := by simp; omega
  by_cases h1 : i < o
  · rw [List.append_assoc, List.getElem?_append_left (by simp; omega), List.getElem?_take_of_lt h1] at hv
    rw [List.append_assoc, List.getElem?_append_left (by omega), List.getElem?_take_of_lt (by omega), Array.getElem?_toList]
    exact hl i v hv
  · by_cases h2 : i < o + vs.length
    · have hto : (l.take o).length = o := by simp; omega
      rw [List.append_assoc, List.getElem?_append_right (by omega), List.getElem?_append_left (by omega), hto] at hv
      rw [List.append_assoc, List.getElem?_append_right (by omega), List.getElem?_append_left (by rw [concs_length]; omega), hlen, concs_get]
      rw [show sh + i - (sh + o) = i - o by omega, hv]; rfl
    · have hto : (l.take o ++ vs).length = o + vs.length := by simp; omega
      rw [List.getElem?_append_right (by omega), hto, List.getElem?_drop] at hv
      rw [List.getElem?_append_right (by rw [List.length_append, hlen, concs_length]; omega), List.length_append, hlen, concs_length, List.getElem?_drop, Array.getElem?_toList]
      rw [show o + vs.length + (i - (o + vs.length)) = i by omega] at hv
      rw [show sh + o + vs.length + (sh + i - (sh + o + vs.length)) = sh + i by omega]
      exact hl i v hv

theorem storeB_run (P : Program) (h : Rel ρ μ S H w) {b o : Nat} {vs : List AVal} {H' : AH} (hvs : VRs ρ μ S vs) (hs : storeB H b o vs = some H') :
    ∃ w', (storeCells ⟨(μ b).blk, (μ b).sh + o, none⟩ (concs μ ρ vs)).run P w = .ok () w' ∧ Step ρ μ S H w μ S H' w' := by
  unfold storeB at hs
  split at hs
  · rename_i l z hg
    cases hsp : splice l o vs with
    | none => simp [hsp] at hs
    | some l' =>
      simp only [hsp, Option.some.injEq] at hs
      subst hs
      obtain ⟨h1, h2, rfl⟩ := splice_sound hsp
      obtain ⟨hS, hvr, hcs⟩ := h.blk b _ hg
      rcases hcs with ⟨hf, _⟩ | ⟨cs, E, fz, g1, g2, g3, g4⟩
      · cases hf
      · have hsz : l = [] ∨ (μ b).sh + l.length ≤ cs.size := by
          rcases Nat.eq_zero_or_pos l.length with h0 | h0
          · exact .inl (List.length_eq_zero_iff.1 h0)
          · right
            have := g2 (l.length - 1) _ (List.getElem?_eq_getElem (by omega))
            have := (Array.getElem?_eq_some_iff.1 this).1
            omega
        by_cases hnil : vs = []
        · subst hnil
          refine ⟨w, by simp [concs, storeCells], ?_⟩
          refine Step.put h hg rfl rfl rfl rfl (fun _ _ => rfl) rfl rfl rfl rfl ⟨?_, .inr ⟨cs, E, fz, g1, ?_, g3, g4⟩⟩
          · simpa using hvr
          · simpa using g2
        have hbound : (μ b).sh + o + 0 + (concs μ ρ vs).length ≤ cs.size := by
          rw [concs_length]
          rcases hsz with rfl | hsz
          · simp at h1; exact absurd h1.2 hnil
          · omega
        obtain ⟨w', cs', f1, f2, f3, f4, f5, f6, f7, f8, f9⟩ := run_storeCells P (E := E) (fz := fz) (blk := (μ b).blk) (off := (μ b).sh + o) (concs μ ρ vs) 0 w cs g1 (g3 rfl)
          (fun x hx => by rw [concs_eq] at hx; obtain ⟨y, hy, rfl⟩ := List.mem_map.1 hx; exact isCell_one (h2 y hy)) hbound
        refine ⟨w', f1, Step.put h hg rfl rfl rfl rfl f5 f6 f7 f8 f9 ⟨((hvr.take _).append hvs).append (hvr.drop _), .inr ⟨cs', E, fz, f2, ?_, fun _ => by rw [f3]; exact g3 rfl, fun hz => by rw [f3]; exact g4 hz⟩⟩⟩
        refine splice_get g2 h1 ?_ hsz
        rw [f4, concs_length]; rfl
  · cases hs

/-! ### Appends -/
theorem zeroCells_eq (z : List AVal) (n s : Nat) (hs : z.length = s) : Builtin.zeroCells (concs μ ρ z).toArray n = (concs μ ρ (zrep z n)).toArray := by
  have hz : (concs μ ρ z).toArray.size = s := by simp [concs_length, hs]
  have := rep_eq (μ := μ) (ρ := ρ) z n s (concs μ ρ z).toArray hs (.inr rfl)
  unfold Builtin.zeroCells
  rw [hz]
  rw [hz] at this
  exact this

/-- The first cells of a slice that is known. -/
theorem run_firstCells (h : Rel ρ μ S H w) {b o n z : Nat} {c : ACap} {l : List AVal} {wr : Bool} {zz : Nat} (hg : H.m.get b = some (.cells l wr zz)) (hle : o + n * z ≤ l.length) (k : Nat) (P : Program) :
    (Builtin.firstCells z n (conc μ ρ (.slice b o k c))).run P w = .ok (concs μ ρ ((l.drop o).take (n * z))).toArray w := by
  have hcon : ∃ c', conc μ ρ (.slice b o k c) = .slice (some ⟨(μ b).blk, (μ b).sh + o, none⟩) k c' := by cases c <;> exact ⟨_, rfl⟩
  obtain ⟨c', hcon⟩ := hcon
  rw [hcon]
  have hlen : (concs μ ρ ((l.drop o).take (n * z))).length = n * z := by rw [concs_length]; simp; omega
  have := run_loadCells P (b := (μ b).blk) (o := (μ b).sh + o) (w := w) (concs μ ρ ((l.drop o).take (n * z))) 0 #[] fun j hj => by
    rw [hlen] at hj
    have hj' : o + j < l.length := by omega
    have hc := (h.cell hg (List.getElem?_eq_getElem hj')).1
    rw [show (μ b).sh + o + (0 + j) = (μ b).sh + (o + j) by omega, hc]
    congr 1
    have : (concs μ ρ ((l.drop o).take (n * z)))[j]? = some (conc μ ρ l[o + j]) := by
      rw [concs_eq, List.getElem?_map, take_drop_get hj, List.getElem?_eq_getElem hj']; rfl
    rw [List.getElem?_eq_getElem (by rw [hlen]; exact hj)] at this
    exact (Option.some.inj this).symm
  rw [hlen] at this
  simp only [Builtin.firstCells, loadCells, this, Array.empty_append]

/-- What is appended: how many, and the cells, read at any world that the heap still tells of. -/
structure Src (ρ : Rho) (μ : Mu) (S : Ids) (H : AH) (z : Nat) (cs : List AVal) (n : Nat) (s : Sem (Array Value)) (P : Program) : Prop where
  run : ∀ w, Rel ρ μ S H w → s.run P w = .ok (concs μ ρ cs).toArray w
  len : cs.length = n * z
  vrs : VRs ρ μ S cs

theorem srcB_sound (h : Rel ρ μ S H w) {z n : Nat} {x : AVal} {cs : List AVal} (hx : srcB H z x = some (cs, n)) (P : Program) :
    Src ρ μ S H z cs n (Builtin.firstCells z n (conc μ ρ x)) P ∧ ∀ w, (Builtin.lenOf (conc μ ρ x)).run P w = .ok n w := by
  unfold srcB at hx
  split at hx
  · cases hx
    exact ⟨⟨fun w _ => by simp [Builtin.firstCells, conc, concs], by simp, VRs.nil⟩, fun w => by simp [Builtin.lenOf, conc]⟩
  · rename_i b o k c
    have hcon : ∀ k, ∃ c', conc μ ρ (.slice b o k c) = .slice (some ⟨(μ b).blk, (μ b).sh + o, none⟩) k c' := fun k => by cases c <;> exact ⟨_, rfl⟩
    cases k with
    | zero =>
      simp only [Option.some.injEq, Prod.mk.injEq] at hx
      obtain ⟨rfl, rfl⟩ := hx
      obtain ⟨c', hcon⟩ := hcon 0
      exact ⟨⟨fun w _ => by rw [hcon]; simp [Builtin.firstCells, loadCells, loadCellsFrom, concs], by simp, VRs.nil⟩, fun w => by rw [hcon]; simp [Builtin.lenOf]⟩
    | succ k =>
      simp only at hx
      cases hc : cellsAt H b with
      | none => simp [hc] at hx
      | some q =>
        obtain ⟨l, wr, zz⟩ := q
        simp only [hc] at hx
        have hg : H.m.get b = some (.cells l wr zz) := cellsAt_get hc
        cases hle : Nat.ble (o + (k + 1) * z) l.length with
        | false => simp [hle] at hx
        | true =>
          have hle' := Nat.le_of_ble_eq_true hle
          simp only [hle, Option.some.injEq, Prod.mk.injEq] at hx
          obtain ⟨rfl, rfl⟩ := hx
          obtain ⟨c', hcon'⟩ := hcon (k + 1)
          exact ⟨⟨fun w hw => run_firstCells hw hg hle' (k + 1) P, by simp; omega, ((h.blk b _ hg).2.1.drop _).take _⟩, fun w => by rw [hcon']; simp [Builtin.lenOf]⟩
  · cases hx

theorem growBy_le (need : Nat) : ∀ (k c : Nat), c ≤ need + (need + 768) / 4 + 1 → Builtin.growBy need k c ≤ need + (need + 768) / 4 + 1
  | 0, c, h => h
  | k + 1, c, h => by
    unfold Builtin.growBy
    split
    · exact h
    · rename_i hlt
      exact growBy_le need k _ (by omega)

theorem nextcap_le {need cap : Nat} (h : ¬ need ≤ cap) : Builtin.nextslicecap need cap ≤ 2 * need + (need + 768) / 4 + 1 := by
  unfold Builtin.nextslicecap
  split
  · omega
  · split
    · omega
    · have := growBy_le need 4 cap (by omega); omega

theorem run_firstCells_src {z n k : Nat} {c : ACap} {b o : Nat} {l : List AVal} {wr : Bool} {zz : Nat} (hg : H.m.get b = some (.cells l wr zz)) (hvr : VRs ρ μ S l) (hle : o + n * z ≤ l.length) (P : Program) :
    Src ρ μ S H z ((l.drop o).take (n * z)) n (Builtin.firstCells z n (conc μ ρ (.slice b o k c))) P :=
  ⟨fun w hw => run_firstCells hw hg hle k P, by simp; omega, (hvr.drop _).take _⟩

/-- Where an append's array goes, if there is room; and what a new one holds. -/
def AppRoom (K : Cfg) (ρ : Rho) (μ : Mu) (w : World) (z : Nat) (base : Option Addr) (sLen sCap n : Nat) (cs : List AVal) (s : Sem Value) : Prop :=
  sLen + n ≤ sCap → ∀ w', (∀ a, base = some a → (storeCells (a.add (sLen * z)) (concs μ ρ cs)).run K.P w = .ok () w') → (base = none → w' = w) → s.run K.P w = .ok (.slice base (sLen + n) sCap) w'

def AppNew (K : Cfg) (ρ : Rho) (μ : Mu) (S : Ids) (H : AH) (w : World) (z e : Nat) (base : Option Addr) (sLen sCap n : Nat) (cs : List AVal) (s : Sem Value) : Prop :=
  ¬ (sLen + n ≤ sCap) → sLen + n < 2000000 → ∀ (old : List AVal), Src ρ μ S H z old sLen (Builtin.firstCells z sLen (.slice base sLen sCap)) K.P →
    ∃ w' cap rest, sLen + n ≤ cap ∧ s.run K.P w = .ok (.slice (some ⟨w.heap.size, 0, none⟩) (sLen + n) cap) w' ∧
      w'.heap = w.heap.push (.cells ((concs μ ρ (old ++ cs)).toArray ++ rest) e) ∧ rest.size = (cap - (sLen + n)) * z ∧ w'.os = w.os ∧ w'.tape = w.tape ∧ w'.output = w.output

theorem zeroCells_size (z : Array Value) (n : Nat) : (Builtin.zeroCells z n).size = n * z.size := by simp [Builtin.zeroCells]

set_option maxHeartbeats 4000000 in
theorem append_slice (hK : COK K) (h : Rel ρ μ S H w) {t0 t1 ty e : TypeId} {d1 : TypeDesc} (hd : isIntD d1 = false) (hu0 : K.und t0 = some (.slice e)) (hu1 : K.und t1 = some d1)
    {i : TypeInfo} {zv : AVal} {z : Nat} (hi : K.info e = some i) (hzv : zeroB K e = some zv) (hsz : i.size = z) (hzl : zv.cells.length = z) (hby : i.bytes ≤ 65536)
    {x : AVal} {cs : List AVal} {n : Nat} (hS : Src ρ μ S H z cs n (Builtin.firstCells z n (conc μ ρ x)) K.P) (hlen : ∀ w, (Builtin.lenOf (conc μ ρ x)).run K.P w = .ok n w) {base : Option Addr} {sLen sCap : Nat} :
    AppRoom K ρ μ w z base sLen sCap n cs (Builtin.append_ #[t0, t1] ty #[.slice base sLen sCap, conc μ ρ x]) ∧
    AppNew K ρ μ S H w z e base sLen sCap n cs (Builtin.append_ #[t0, t1] ty #[.slice base sLen sCap, conc μ ρ x]) := by
  have hs : szB K e = some z := by simp [szB, hi, hsz]
  have hu1' := fun w => run_und hK hu1 w
  constructor
  · intro hroom w' hw1 hw2
    have hrun := hS.run w h
    cases base with
    | none =>
      have := hw2 rfl
      subst this
      cases d1 <;> (try (simp [isIntD] at hd; done)) <;>
        simp only [Builtin.append_, List.getElem?_toArray, List.getElem?_cons_zero, List.getElem?_cons_succ, Sem.run_bind, run_und hK hu0, hu1', Result.andThen_ok, run_szB hK hs, Sem.run_pure, Bool.false_eq_true, if_false, hlen, Sem.run_ite, if_pos hroom, Bool.not_false, if_true, hrun]
    | some A =>
      have h1 := hw1 A rfl
      cases d1 <;> (try (simp [isIntD] at hd; done)) <;>
        simp only [Builtin.append_, List.getElem?_toArray, List.getElem?_cons_zero, List.getElem?_cons_succ, Sem.run_bind, run_und hK hu0, hu1', Result.andThen_ok, run_szB hK hs, Sem.run_pure, Bool.false_eq_true, if_false, hlen, Sem.run_ite, if_pos hroom, Bool.not_false, if_true, hrun, h1]
  · intro hno hsm old hold
    have hmax : IntKind.i64.max = 9223372036854775807 := by decide
    have c1 : ∀ (q : Prop), ¬ (((sLen + n : Nat) : Int) > IntKind.i64.max ∧ q) := fun q => by rw [hmax]; omega
    have c2 : ¬ (Builtin.nextslicecap (sLen + n) sCap * i.bytes > 2 ^ 48) := by
      have h1 := nextcap_le hno
      have h2 : Builtin.nextslicecap (sLen + n) sCap * i.bytes ≤ 6000000 * 65536 := Nat.mul_le_mul (by omega) hby
      omega
    have hf : (Question.appendCap (sLen + n) sCap e).forced = false := rfl
    have hc : sLen + n ≤ (Question.appendCap (sLen + n) sCap e).cut (w.tape w.drawn (Question.appendCap (sLen + n) sCap e)) := Nat.le_add_right _ _
    have hrd : Rel ρ μ S H { w with drawn := w.drawn + 1 } := h.heap rfl
    have hr1 := hS.run _ hrd
    have hr2 := hold.run _ hrd
    generalize hcap : (Question.appendCap (sLen + n) sCap e).cut (w.tape w.drawn (Question.appendCap (sLen + n) sCap e)) = cap at hc
    have hjoin : (concs μ ρ (old ++ cs)).toArray = (concs μ ρ old).toArray ++ (concs μ ρ cs).toArray := by apply Array.ext'; simp [concs_eq]
    refine ⟨{ w with heap := w.heap.push (.cells ((concs μ ρ old).toArray ++ (concs μ ρ cs).toArray ++ Builtin.zeroCells (conc μ ρ zv).cells (cap - (sLen + n))) e), drawn := w.drawn + 1 }, cap,
      Builtin.zeroCells (conc μ ρ zv).cells (cap - (sLen + n)), hc, ?_, by rw [hjoin], ?_, rfl, rfl, rfl⟩
    rotate_left 1
    · rw [zeroCells_size]; simp [concs_length, conc_cells, hzl]
    · cases d1 <;> (try (simp [isIntD] at hd; done)) <;>
        simp only [Builtin.append_, List.getElem?_toArray, List.getElem?_cons_zero, List.getElem?_cons_succ, Sem.run_bind, run_und hK hu0, hu1', Result.andThen_ok, run_szB hK hs, Sem.run_pure, Bool.false_eq_true, if_false, hlen, Sem.run_ite, if_neg hno, Bool.not_false, if_true, run_info hK hi, if_neg (c1 _), if_neg c2, run_choose, hf, hcap, run_askRoom, hr1, hr2, run_zeroB (μ := μ) (ρ := ρ) hK hzv, newRow, run_newObj]
end
end Go.Eng
