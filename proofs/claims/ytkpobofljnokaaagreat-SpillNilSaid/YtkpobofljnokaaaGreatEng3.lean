/- The engine, third part: what an abstract heap says of a world; how both go on. -/
import Derived.Test.YtkpobofljnokaaaGreatEng2
import Derived.MapKept
namespace Go.Eng

/-! ### Maps from numbers -/
theorem PM.get_setd {α : Type} (x : Option α) : ∀ (d : Nat) (t : PM α) (k j : Nat) (v : α), (PM.setd x d t k).get j = some v →
    (j = k ∧ x = some v) ∨ (j ≠ k ∧ t.get j = some v)
  | 0, _, _, _, _, h => by simp [PM.setd, PM.get] at h
  | d + 1, t, k, j, v, h => by
    have ih := PM.get_setd x d
    cases t with
    | e =>
      cases k with
      | zero =>
        cases j with
        | zero => exact .inl ⟨rfl, by simpa [PM.setd, PM.get] using h⟩
        | succ j' => simp only [PM.setd, PM.get] at h; split at h <;> simp at h
      | succ k' =>
        simp only [PM.setd] at h
        cases j with
        | zero => split at h <;> simp [PM.get] at h
        | succ j' =>
          have e1 := Nat.div_add_mod k' 2
          have e2 := Nat.div_add_mod j' 2
          have m1 := Nat.mod_lt k' (show 0 < 2 by decide)
          have m2 := Nat.mod_lt j' (show 0 < 2 by decide)
          split at h <;> rename_i hk <;> simp only [PM.get] at h <;> split at h <;> rename_i hj
          · rcases ih _ _ _ _ h with ⟨a, b⟩ | ⟨a, b⟩
            · refine .inl ⟨?_, b⟩
              have := Nat.eq_of_beq_eq_true hk; have := Nat.eq_of_beq_eq_true hj; omega
            · simp [PM.get] at b
          · simp at h
          · simp at h
          · rcases ih _ _ _ _ h with ⟨a, b⟩ | ⟨a, b⟩
            · refine .inl ⟨?_, b⟩
              have := Nat.ne_of_beq_eq_false hk; have := Nat.ne_of_beq_eq_false hj; omega
            · simp [PM.get] at b
    | n l o r =>
      cases k with
      | zero =>
        cases j with
        | zero => exact .inl ⟨rfl, by simpa [PM.setd, PM.get] using h⟩
        | succ j' => exact .inr ⟨by simp, by simpa [PM.setd, PM.get] using h⟩
      | succ k' =>
        simp only [PM.setd] at h
        cases j with
        | zero => exact .inr ⟨by simp, by split at h <;> simpa [PM.get] using h⟩
        | succ j' =>
          have e1 := Nat.div_add_mod k' 2
          have e2 := Nat.div_add_mod j' 2
          have m1 := Nat.mod_lt k' (show 0 < 2 by decide)
          have m2 := Nat.mod_lt j' (show 0 < 2 by decide)
          split at h <;> rename_i hk <;> simp only [PM.get] at h ⊢ <;> split at h <;> rename_i hj
          · rcases ih _ _ _ _ h with ⟨a, b⟩ | ⟨a, b⟩
            · refine .inl ⟨?_, b⟩
              have := Nat.eq_of_beq_eq_true hk; have := Nat.eq_of_beq_eq_true hj; omega
            · refine .inr ⟨fun q => a (by have : j' = k' := by omega
                                          rw [this]), b⟩
          · refine .inr ⟨fun q => ?_, h⟩
            have : j' = k' := by omega
            rw [this] at hj; rw [hj] at hk; cases hk
          · refine .inr ⟨fun q => ?_, h⟩
            have : j' = k' := by omega
            rw [this] at hj; rw [hj] at hk; cases hk
          · rcases ih _ _ _ _ h with ⟨a, b⟩ | ⟨a, b⟩
            · refine .inl ⟨?_, b⟩
              have := Nat.ne_of_beq_eq_false hk; have := Nat.ne_of_beq_eq_false hj; omega
            · refine .inr ⟨fun q => a (by have : j' = k' := by omega
                                          rw [this]), b⟩

theorem PM.get_set {α : Type} {t : PM α} {k j : Nat} {x : Option α} {v : α} (h : (t.set k x).get j = some v) :
    (j = k ∧ x = some v) ∨ (j ≠ k ∧ t.get j = some v) := by
  unfold PM.set at h
  split at h
  · exact PM.get_setd x 32 t k j v h
  · simp [PM.get] at h

theorem nth_eq {α : Type} : ∀ (l : List α) (i : Nat), nth l i = l[i]?
  | [], _ => by simp [nth]
  | a :: l, 0 => by simp [nth]
  | a :: l, i + 1 => by simp [nth, nth_eq l i]

theorem tabB_get {α : Type} : ∀ (l : List α) (i : Nat) (m : PM α) (j : Nat) (v : α), (tabB l i m).get j = some v →
    (i ≤ j ∧ l[j - i]? = some v) ∨ m.get j = some v
  | [], _, _, _, _, h => .inr h
  | a :: l, i, m, j, v, h => by
    rcases tabB_get l (i + 1) (m.set i (some a)) j v h with ⟨h1, h2⟩ | h1
    · refine .inl ⟨by omega, ?_⟩
      rw [show j - i = (j - (i + 1)) + 1 by omega]
      simpa using h2
    · rcases PM.get_set h1 with ⟨h2, h3⟩ | ⟨_, h3⟩
      · subst h2; exact .inl ⟨Nat.le_refl _, by simpa using h3⟩
      · exact .inr h3

/-! ### What a value stands for -/
abbrev Mu := Nat → Place

def str8 (s : List Nat) : ByteArray := ⟨(s.map Nat.toUInt8).toArray⟩

def hdr (q : Option Addr × Nat × Nat) : Value := .slice q.1 q.2.1 q.2.2

/-- The place of an element's cell. -/
def elemPtr (n : Nat) (q : Option Addr × Nat × Nat) : Value := .pointer (some ⟨(q.1.getD ⟨0, 0, none⟩).block, (q.1.getD ⟨0, 0, none⟩).off + n, none⟩)

def Place.val (p : Place) (j : Nat) : Option Addr × Nat × Nat := p.vals.getD j (none, 0, 0)

mutual
def conc (μ : Mu) (ρ : Rho) : AVal → Value
  | .bool b => .bool b
  | .int k n => .int k n
  | .sint k t => .int k (t.int ρ)
  | .str s => .string (str8 s)
  | .ptr b o => .pointer (some ⟨(μ b).blk, (μ b).sh + o, none⟩)
  | .nilPtr => .pointer none
  | .slice b o len (.ex c) => .slice (some ⟨(μ b).blk, (μ b).sh + o, none⟩) len c
  | .slice b o len (.el i) => .slice (some ⟨(μ b).blk, (μ b).sh + o, none⟩) len ((μ b).cap - i)
  | .nilSlice => .slice none 0 0
  | .map r => .map (some (μ r).blk)
  | .nilMap => .map none
  | .func f a b => .func (.func f) (concs μ ρ a).toArray (concs μ ρ b).toArray
  | .yield l => .func (.yield (μ l).blk) #[] #[]
  | .nilFunc => .nilFunc
  | .iface t v => .iface t (conc μ ρ v)
  | .nilIface => .nilIface
  | .agg l => .agg (concs μ ρ l).toArray
  | .tuple l => .tuple (concs μ ρ l).toArray
  | .ref r j => hdr ((μ r).val j)
  | .eptr r j z i c => elemPtr ((i.int ρ).toNat * z + c) ((μ r).val j)
def concs (μ : Mu) (ρ : Rho) : List AVal → List Value
  | [] => []
  | v :: l => conc μ ρ v :: concs μ ρ l
end

theorem concs_eq (μ : Mu) (ρ : Rho) : ∀ l, concs μ ρ l = l.map (conc μ ρ)
  | [] => by simp [concs]
  | v :: l => by simp [concs, concs_eq μ ρ l]

abbrev Ids := Nat → Prop

/-- Alike at some names. -/
def Mu.upto (S : Ids) (μ μ' : Mu) : Prop := ∀ id, S id → μ' id = μ id
def Ids.le (S T : Ids) : Prop := ∀ id, S id → T id
theorem Ids.le.refl (S : Ids) : S.le S := fun _ h => h
theorem Ids.le.trans {S T U : Ids} (h : S.le T) (k : T.le U) : S.le U := fun id hid => k id (h id hid)

theorem Mu.upto.refl (S : Ids) (μ : Mu) : μ.upto S μ := fun _ _ => rfl
theorem Mu.upto.trans {S T : Ids} {a b c : Mu} (h : a.upto S b) (k : b.upto T c) (hm : S.le T) : a.upto S c :=
  fun id hid => (k id (hm id hid)).trans (h id hid)
theorem Mu.upto.mono {S T : Ids} {a b : Mu} (h : a.upto S b) (hm : T.le S) : a.upto T b := fun id hid => h id (hm id hid)

/-- All blocks that a value names are of the given ones: what it stands for hangs on no other. -/
def VR (ρ : Rho) (μ : Mu) (S : Ids) (v : AVal) : Prop := ∀ μ', μ.upto S μ' → conc μ' ρ v = conc μ ρ v
def VRs (ρ : Rho) (μ : Mu) (S : Ids) (l : List AVal) : Prop := ∀ v ∈ l, VR ρ μ S v

section
variable {ρ : Rho} {μ μ' : Mu} {S T : Ids} {v : AVal} {l : List AVal}

theorem VR.up (h : VR ρ μ S v) (hu : μ.upto S μ') (hm : S.le T) : VR ρ μ' T v :=
  fun μ'' h'' => by rw [h μ'' (hu.trans h'' hm), h μ' hu]
theorem VR.eq (h : VR ρ μ S v) (hu : μ.upto S μ') : conc μ' ρ v = conc μ ρ v := h μ' hu
theorem VRs.up (h : VRs ρ μ S l) (hu : μ.upto S μ') (hm : S.le T) : VRs ρ μ' T l := fun v hv => (h v hv).up hu hm
theorem VRs.eq (h : VRs ρ μ S l) (hu : μ.upto S μ') : concs μ' ρ l = concs μ ρ l := by
  rw [concs_eq, concs_eq]; exact List.map_congr_left fun v hv => (h v hv).eq hu
theorem VRs.nil : VRs ρ μ S [] := fun _ h => by cases h
theorem VRs.cons (h : VR ρ μ S v) (hl : VRs ρ μ S l) : VRs ρ μ S (v :: l) := fun x hx => by
  cases hx with
  | head => exact h
  | tail _ hx => exact hl x hx
theorem VRs.append {r : List AVal} (h : VRs ρ μ S l) (hr : VRs ρ μ S r) : VRs ρ μ S (l ++ r) := fun x hx => by
  rcases List.mem_append.1 hx with hx | hx
  · exact h x hx
  · exact hr x hx
theorem VRs.sub {r : List AVal} (h : VRs ρ μ S l) (hr : ∀ x ∈ r, x ∈ l) : VRs ρ μ S r := fun x hx => h x (hr x hx)
theorem VRs.nth {i : Nat} (h : VRs ρ μ S l) (hi : Eng.nth l i = some v) : VR ρ μ S v := h v (List.mem_of_getElem? (by rw [← nth_eq]; exact hi))
theorem VRs.get {i : Nat} (h : VRs ρ μ S l) (hi : l[i]? = some v) : VR ρ μ S v := h v (List.mem_of_getElem? hi)
theorem VRs.take (h : VRs ρ μ S l) (k : Nat) : VRs ρ μ S (l.take k) := h.sub fun _ hx => List.mem_of_mem_take hx
theorem VRs.drop (h : VRs ρ μ S l) (k : Nat) : VRs ρ μ S (l.drop k) := h.sub fun _ hx => List.mem_of_mem_drop hx

theorem VR.bool {b : Bool} : VR ρ μ S (.bool b) := fun _ _ => by simp [conc]
theorem VR.int {k : IntKind} {x : Int} : VR ρ μ S (.int k x) := fun _ _ => by simp [conc]
theorem VR.sint {k : IntKind} {t : Tm} : VR ρ μ S (.sint k t) := fun _ _ => by simp [conc]
theorem VR.ref {r j : Nat} (h : S r) : VR ρ μ S (.ref r j) := fun _ hu => by simp [conc, hu r h]
theorem VR.eptr {r j z c : Nat} {i : Tm} (h : S r) : VR ρ μ S (.eptr r j z i c) := fun _ hu => by simp [conc, hu r h]
theorem VR.str {s : List Nat} : VR ρ μ S (.str s) := fun _ _ => by simp [conc]
theorem VR.nilPtr : VR ρ μ S .nilPtr := fun _ _ => by simp [conc]
theorem VR.nilSlice : VR ρ μ S .nilSlice := fun _ _ => by simp [conc]
theorem VR.nilMap : VR ρ μ S .nilMap := fun _ _ => by simp [conc]
theorem VR.nilFunc : VR ρ μ S .nilFunc := fun _ _ => by simp [conc]
theorem VR.nilIface : VR ρ μ S .nilIface := fun _ _ => by simp [conc]
theorem VR.ptr {b o : Nat} (h : S b) : VR ρ μ S (.ptr b o) := fun _ hu => by simp [conc, hu b h]
theorem VR.map {r : Nat} (h : S r) : VR ρ μ S (.map r) := fun _ hu => by simp [conc, hu r h]
theorem VR.yield {r : Nat} (h : S r) : VR ρ μ S (.yield r) := fun _ hu => by simp [conc, hu r h]
theorem VR.slice {b o k : Nat} {c : ACap} (h : S b) : VR ρ μ S (.slice b o k c) := fun _ hu => by cases c <;> simp [conc, hu b h]
theorem VR.iface {t : TypeId} (h : VR ρ μ S v) : VR ρ μ S (.iface t v) := fun _ hu => by simp [conc, h.eq hu]
theorem VR.agg (h : VRs ρ μ S l) : VR ρ μ S (.agg l) := fun _ hu => by simp [conc, h.eq hu]
theorem VR.tuple (h : VRs ρ μ S l) : VR ρ μ S (.tuple l) := fun _ hu => by simp [conc, h.eq hu]
theorem VR.func {f : FuncId} {r : List AVal} (h : VRs ρ μ S l) (hr : VRs ρ μ S r) : VR ρ μ S (.func f l r) := fun _ hu => by simp [conc, h.eq hu, hr.eq hu]
theorem VR.undef : VR ρ μ S .undef := VR.tuple VRs.nil

theorem VR.of_iface {t : TypeId} (h : VR ρ μ S (.iface t v)) : VR ρ μ S v := fun μ' hu => by have := h μ' hu; simpa [conc] using this
theorem VRs.of_map (h : ∀ μ', μ.upto S μ' → concs μ' ρ l = concs μ ρ l) : VRs ρ μ S l := fun v hv μ' hu => by
  have := h μ' hu
  rw [concs_eq, concs_eq] at this
  exact List.map_inj_left.1 this v hv
theorem VR.of_agg (h : VR ρ μ S (.agg l)) : VRs ρ μ S l := VRs.of_map fun μ' hu => by have := h μ' hu; simpa [conc] using this
theorem VR.of_tuple (h : VR ρ μ S (.tuple l)) : VRs ρ μ S l := VRs.of_map fun μ' hu => by have := h μ' hu; simpa [conc] using this
theorem VR.of_func {f : FuncId} {r : List AVal} (h : VR ρ μ S (.func f l r)) : VRs ρ μ S l ∧ VRs ρ μ S r :=
  ⟨VRs.of_map fun μ' hu => by have := h μ' hu; simp [conc] at this; exact this.1, VRs.of_map fun μ' hu => by have := h μ' hu; simp [conc] at this; exact this.2⟩

theorem VR.cells (h : VR ρ μ S v) : VRs ρ μ S v.cells := by
  cases v <;> first | exact h.of_agg | exact VRs.cons h VRs.nil
end

theorem conc_cells (μ : Mu) (ρ : Rho) (v : AVal) : (conc μ ρ v).cells = (concs μ ρ v.cells).toArray := by
  cases v
  case ref r j => simp [conc, hdr, AVal.cells, Value.cells, concs]
  case eptr r j z i c => simp [conc, elemPtr, AVal.cells, Value.cells, concs]
  case slice b o n c => cases c <;> simp [conc, AVal.cells, Value.cells, concs]
  all_goals simp [conc, AVal.cells, Value.cells, concs]

theorem concs_length (μ : Mu) (ρ : Rho) (l : List AVal) : (concs μ ρ l).length = l.length := by rw [concs_eq]; simp

/-! ### What a heap says of a world -/
def openOf : Bool → Option (List Deferred)
  | true => some []
  | false => none

/-- A mark that forbids no write to a block's cells. -/
def Thawed (n : Nat) (fz : Nat × Nat) : Prop := fz.1 = fz.2 ∨ n ≤ fz.1

theorem Thawed.free {n : Nat} {fz : Nat × Nat} (h : Thawed n fz) {o : Nat} (ho : o < n) : (decide (fz.1 ≤ o) && decide (o < fz.2)) = false := by
  simp only [Bool.and_eq_false_iff, decide_eq_false_iff_not]
  rcases h with h | h <;> omega

/-- What a block may write, what it reads. -/
def ABlk.wr (p : Place) (k : Nat) : ABlk → Prop
  | .cells _ wr _ => wr = true ∧ p.blk = k
  | .pack _ own => own = true ∧ p.own k
  | .obj _ _ m => m = true ∧ p.own k
  | _ => p.blk = k
def ABlk.rd (p : Place) (k : Nat) : ABlk → Prop
  | .cells l wr _ => wr = false ∧ l ≠ [] ∧ p.blk = k
  | .pack _ _ => p.foot k
  | .obj _ _ _ => p.foot k
  | _ => False
def ABlk.at (p : Place) (k : Nat) (b : ABlk) : Prop := b.wr p k ∨ b.rd p k

/-- A block that a run may write. -/
def ABlk.mut : ABlk → Bool
  | .cells _ wr _ => wr
  | .pack _ own => own
  | .obj _ _ m => m
  | _ => true
/-- One that lies in one place. -/
def ABlk.plain : ABlk → Bool
  | .pack _ _ => false
  | .obj _ _ _ => false
  | _ => true

theorem ABlk.wr_mut {b : ABlk} {p : Place} {k : Nat} (h : b.wr p k) : b.mut = true := by
  cases b <;> first | rfl | exact h.1
theorem ABlk.wr_plain {b : ABlk} {p : Place} {k : Nat} (hp : b.plain = true) (h : b.wr p k) : p.blk = k := by
  cases b <;> first | exact h.2 | exact h | cases hp
theorem ABlk.rd_plain {b : ABlk} {p : Place} {k : Nat} (hp : b.plain = true) (h : b.rd p k) : p.blk = k := by
  cases b <;> first | exact h.2.2 | exact h.elim | cases hp
theorem ABlk.at_plain {b : ABlk} {p : Place} {k : Nat} (hp : b.plain = true) (h : b.at p k) : p.blk = k := h.elim (ABlk.wr_plain hp) (ABlk.rd_plain hp)
theorem ABlk.wr_of {b : ABlk} {p : Place} (hp : b.plain = true) (hm : b.mut = true) : b.wr p p.blk := by
  cases b <;> first | exact ⟨hm, rfl⟩ | rfl | cases hp
theorem ABlk.no_rd {b : ABlk} {p : Place} {k : Nat} (hp : b.plain = true) (hm : b.mut = true) : ¬ b.rd p k := by
  cases b with
  | cells l wr z => rintro ⟨h, _⟩; have : wr = true := hm; rw [this] at h; cases h
  | pack l own => cases hp
  | obj t d m => cases hp
  | _ => exact fun h => h

/-! A cell's value, as its data say, where all that is read lies in the given blocks. -/
mutual
def CRel (w : World) (F : Nat → Prop) : Shp → Dat → Value → Prop
  | .num k, d, v => v = .int k d.int
  | .bool, d, v => v = .bool (decide (d.int = 1))
  | .sl row, d, v => (v = .slice none 0 0 ∧ d.rows = []) ∨ ∃ b o cap, v = .slice (some ⟨b, o, none⟩) d.rows.length cap ∧ d.rows.length ≤ cap ∧
      (cap ≠ 0 → F b ∧ ∃ cs E fz, w.heap[b]? = some (.cells cs E fz) ∧ ∀ i r, d.rows[i]? = some r → RRel w F row r (fun c => cs[o + i * row.length + c]?))
def RRel (w : World) (F : Nat → Prop) : List Shp → List Dat → (Nat → Option Value) → Prop
  | [], l, _ => l = []
  | s :: ss, l, g => ∃ x xs u, l = x :: xs ∧ g 0 = some u ∧ CRel w F s x u ∧ RRel w F ss xs (fun c => g (c + 1))
end

mutual
theorem CRel.keep {w w' : World} {F F' : Nat → Prop} (hw : ∀ k, F k → w'.heap[k]? = w.heap[k]?) (hF : ∀ k, F k → F' k) : ∀ (s : Shp) (d : Dat) (v : Value), CRel w F s d v → CRel w' F' s d v
  | .num k, d, v, h => by simpa [CRel] using h
  | .bool, d, v, h => by simpa [CRel] using h
  | .sl row, d, v, h => by
    simp only [CRel] at h ⊢
    rcases h with h | ⟨b, o, cap, h1, h2, h3⟩
    · exact .inl h
    · refine .inr ⟨b, o, cap, h1, h2, fun hc => ?_⟩
      obtain ⟨h4, cs, E, fz, h5, h6⟩ := h3 hc
      exact ⟨hF b h4, cs, E, fz, (hw b h4).trans h5, fun i r hi => RRel.keep hw hF row r _ (h6 i r hi)⟩
theorem RRel.keep {w w' : World} {F F' : Nat → Prop} (hw : ∀ k, F k → w'.heap[k]? = w.heap[k]?) (hF : ∀ k, F k → F' k) : ∀ (s : List Shp) (l : List Dat) (g : Nat → Option Value), RRel w F s l g → RRel w' F' s l g
  | [], l, g, h => by simpa [RRel] using h
  | s :: ss, l, g, h => by
    simp only [RRel] at h ⊢
    obtain ⟨x, xs, u, h1, h2, h3, h4⟩ := h
    exact ⟨x, xs, u, h1, h2, CRel.keep hw hF s x u h3, RRel.keep hw hF ss xs _ h4⟩
end

/-- A slice that is known by its data, in its place. -/
def TRel (ρ : Rho) (w : World) (p : Place) (own : Bool) (c : PComp) (q : Option Addr × Nat × Nat) : Prop :=
  (q = (none, 0, 0) ∧ (c.t.ev ρ).rows = []) ∨ ∃ b o cap, q = (some ⟨b, o, none⟩, (c.t.ev ρ).rows.length, cap) ∧ (c.t.ev ρ).rows.length ≤ cap ∧ (c.full = true → cap = (c.t.ev ρ).rows.length) ∧
    (cap ≠ 0 → (own = true → p.own b) ∧ (own = false → p.foot b) ∧ ∃ cs E fz, w.heap[b]? = some (.cells cs E fz) ∧ (own = true → Thawed cs.size fz ∧ cs.size = o + cap * c.sh.length) ∧
      ∀ i r, (c.t.ev ρ).rows[i]? = some r → RRel w p.foot c.sh r (fun x => cs[o + i * c.sh.length + x]?))

theorem TRel.keep {ρ : Rho} {w w' : World} {p : Place} {own : Bool} {c : PComp} {q : Option Addr × Nat × Nat} (h : TRel ρ w p own c q) (hw : ∀ k, p.foot k → w'.heap[k]? = w.heap[k]?)
    (ho : own = true → ∀ k, p.own k → w'.heap[k]? = w.heap[k]?) : TRel ρ w' p own c q := by
  rcases h with h | ⟨b, o, cap, h1, h2, h3, h4⟩
  · exact .inl h
  · refine .inr ⟨b, o, cap, h1, h2, h3, fun hc => ?_⟩
    obtain ⟨g1, g2, cs, E, fz, g3, g4, g5⟩ := h4 hc
    refine ⟨g1, g2, cs, E, fz, ?_, g4, fun i r hr => RRel.keep hw (fun _ h => h) _ _ _ (g5 i r hr)⟩
    cases own with
    | true => exact (ho rfl b (g1 rfl)).trans g3
    | false => exact (hw b (g2 rfl)).trans g3

def BRel (ρ : Rho) (μ : Mu) (S : Ids) (w : World) (p : Place) : ABlk → Prop
  | .cells l wr z => VRs ρ μ S l ∧ ((wr = false ∧ l = []) ∨ ∃ cs E fz, w.heap[p.blk]? = some (.cells cs E fz) ∧ (∀ i v, l[i]? = some v → cs[p.sh + i]? = some (conc μ ρ v)) ∧
      (wr = true → Thawed cs.size fz) ∧ (z ≠ 0 → cs.size = p.sh + p.cap * z))
  | .map es c => (∀ e ∈ es, VR ρ μ S e.key ∧ VR ρ μ S e.val) ∧ ∃ es', w.heap[p.blk]? = some (.map es' c) ∧ es'.toList = es.map (fun e => (⟨conc μ ρ e.key, conc μ ρ e.val, e.born⟩ : MapEntry))
  | .miter m since seen st => p.sh = 0 ∧ (∀ r, m = some r → S r) ∧ w.heap[p.blk]? = some (.mapIter (m.map fun r => (μ r).blk) since seen.toArray st)
  | .siter s pos => p.sh = 0 ∧ w.heap[p.blk]? = some (.stringIter (str8 s) pos)
  | .loop st pend k tm ps asg body d => S d ∧ (∀ t v, tm.get t = some v → VR ρ μ S v) ∧ ∃ fn tmps, w.heap[p.blk]? = some (.loop ⟨st, pend, fn, tmps, ps.toArray, asg, body, (μ d).blk⟩) ∧
      k ≤ tmps.size ∧ ∀ t v, tm.get t = some v → tmps[t]? = some (conc μ ρ v)
  | .dfr o => w.heap[p.blk]? = some (.deferred (openOf o))
  | .pack l own => (∀ k, p.own k → own = true ∧ k < w.heap.size ∧ ¬ p.foot k) ∧ (∀ k, p.foot k → k < w.heap.size) ∧ ∀ j c, l[j]? = some c → TRel ρ w p own c (p.val j)
  | .obj tag t m => (∀ k, p.own k → m = true ∧ ¬ p.foot k) ∧ ρ.o tag (t.ev ρ) w p

structure Rel (ρ : Rho) (μ : Mu) (S : Ids) (H : AH) (w : World) : Prop where
  bnd : ∀ id, S id → id < H.next
  blk : ∀ id b, H.m.get id = some b → S id ∧ BRel ρ μ S w (μ id) b
  inj : ∀ i j b c, H.m.get i = some b → H.m.get j = some c → i ≠ j → ∀ k, b.wr (μ i) k → ¬ c.at (μ j) k

def Img (μ : Mu) (H : AH) (k : Nat) : Prop := ∃ id b, H.m.get id = some b ∧ b.at (μ id) k
def ImgM (μ : Mu) (H : AH) (k : Nat) : Prop := ∃ id b, H.m.get id = some b ∧ b.wr (μ id) k

theorem ImgM.img {μ : Mu} {H : AH} {k : Nat} (h : ImgM μ H k) : Img μ H k := let ⟨id, b, h1, h2⟩ := h; ⟨id, b, h1, .inl h2⟩

/-- What a new block lies in: new places; what it reads may be what was read. -/
structure New (μ : Mu) (H : AH) (w : World) (p : Place) (b : ABlk) : Prop where
  wr : ∀ k, b.wr p k → w.heap.size ≤ k
  rd : ∀ k, b.rd p k → w.heap.size ≤ k ∨ (Img μ H k ∧ ¬ ImgM μ H k)

theorem New.plain {μ : Mu} {H : AH} {w : World} {p : Place} {b : ABlk} (hb : b.plain = true) (hp : w.heap.size ≤ p.blk) : New μ H w p b :=
  ⟨fun _ h => ABlk.wr_plain hb h ▸ hp, fun _ h => .inl (ABlk.rd_plain hb h ▸ hp)⟩
theorem New.none {μ : Mu} {H : AH} {w : World} {p : Place} {z : Nat} : New μ H w p (.cells [] false z) where
  wr := fun _ h => by cases h.1
  rd := fun _ h => absurd rfl h.2.1

structure Step (ρ : Rho) (μ : Mu) (S : Ids) (H : AH) (w : World) (μ' : Mu) (S' : Ids) (H' : AH) (w' : World) : Prop where
  rel : Rel ρ μ' S' H' w'
  up : μ.upto S μ'
  sub : S.le S'
  new : ∀ id, S' id → S id ∨ H.next ≤ id
  next : H.next ≤ H'.next
  os : w'.os = w.os
  tape : w'.tape = w.tape
  output : w'.output = w.output
  size : w.heap.size ≤ w'.heap.size
  keep : ∀ k, k < w.heap.size → ¬ ImgM μ H k → w'.heap[k]? = w.heap[k]?
  img : ∀ k, Img μ' H' k → Img μ H k ∨ w.heap.size ≤ k
  imgM : ∀ k, ImgM μ' H' k → ImgM μ H k ∨ w.heap.size ≤ k

section
variable {ρ : Rho} {μ μ' μ'' : Mu} {S S' S'' T : Ids} {H H' H'' : AH} {w w' w'' : World}

theorem Step.refl (h : Rel ρ μ S H w) : Step ρ μ S H w μ S H w :=
  ⟨h, Mu.upto.refl _ _, Ids.le.refl _, fun _ h => .inl h, Nat.le_refl _, rfl, rfl, rfl, Nat.le_refl _, fun _ _ _ => rfl, fun _ h => .inl h, fun _ h => .inl h⟩

theorem Step.trans (a : Step ρ μ S H w μ' S' H' w') (b : Step ρ μ' S' H' w' μ'' S'' H'' w'') : Step ρ μ S H w μ'' S'' H'' w'' where
  rel := b.rel
  up := a.up.trans b.up a.sub
  sub := a.sub.trans b.sub
  new := fun id hid => by
    rcases b.new id hid with h | h
    · exact a.new id h
    · exact .inr (Nat.le_trans a.next h)
  next := Nat.le_trans a.next b.next
  os := b.os.trans a.os
  tape := b.tape.trans a.tape
  output := b.output.trans a.output
  size := Nat.le_trans a.size b.size
  keep := fun k hk hn => by
    rw [b.keep k (Nat.lt_of_lt_of_le hk a.size) fun hi => ?_, a.keep k hk hn]
    rcases a.imgM k hi with h | h
    · exact hn h
    · omega
  imgM := fun k hk => by
    rcases b.imgM k hk with h | h
    · exact a.imgM k h
    · exact .inr (Nat.le_trans a.size h)
  img := fun k hk => by
    rcases b.img k hk with h | h
    · exact a.img k h
    · exact .inr (Nat.le_trans a.size h)

theorem heap_lt {k : Nat} {o : Obj} (h : w.heap[k]? = some o) : k < w.heap.size := (Array.getElem?_eq_some_iff.1 h).1
theorem heap_lt_of {k : Nat} (hk : k < w.heap.size) (h : w'.heap[k]? = w.heap[k]?) : k < w'.heap.size := by
  rw [Array.getElem?_eq_getElem hk] at h
  exact heap_lt h

theorem BRel.keep {p : Place} {b : ABlk} (h : BRel ρ μ S w p b) (hw : ∀ k, b.at p k → w'.heap[k]? = w.heap[k]?) (hu : μ.upto S μ') (hm : S.le T) :
    BRel ρ μ' T w' p b := by
  cases b with
  | cells l wr z =>
    obtain ⟨h1, h2⟩ := h
    refine ⟨h1.up hu hm, ?_⟩
    rcases h2 with h2 | ⟨cs, E, fz, g1, g2, g3, g4⟩
    · exact .inl h2
    · by_cases hs : wr = false ∧ l = []
      · exact .inl hs
      · have ha : (ABlk.cells l wr z).at p p.blk := by
          cases wr with
          | true => exact .inl ⟨rfl, rfl⟩
          | false => exact .inr ⟨rfl, fun e => hs ⟨rfl, e⟩, rfl⟩
        exact .inr ⟨cs, E, fz, (hw _ ha).trans g1, fun i v hv => by rw [(h1.get hv).eq hu]; exact g2 i v hv, g3, g4⟩
  | map es c =>
    obtain ⟨h1, es', g1, g2⟩ := h
    refine ⟨fun e he => ⟨(h1 e he).1.up hu hm, (h1 e he).2.up hu hm⟩, es', (hw _ (.inl rfl)).trans g1, g2.trans ?_⟩
    exact List.map_congr_left fun e he => by rw [(h1 e he).1.eq hu, (h1 e he).2.eq hu]
  | miter mm s se st =>
    obtain ⟨h0, h1, h2⟩ := h
    refine ⟨h0, fun r hr => hm r (h1 r hr), (hw _ (.inl rfl)).trans (h2.trans ?_)⟩
    cases mm with
    | none => rfl
    | some r => simp [hu r (h1 r rfl)]
  | siter s pos => exact ⟨h.1, (hw _ (.inl rfl)).trans h.2⟩
  | loop st pend k tm ps asg body d =>
    obtain ⟨h0, h1, fn, tmps, g1, g2, g3⟩ := h
    refine ⟨hm d h0, fun t v hv => (h1 t v hv).up hu hm, fn, tmps, (hw _ (.inl rfl)).trans ?_, g2, fun t v hv => by rw [(h1 t v hv).eq hu]; exact g3 t v hv⟩
    rw [g1, hu d h0]
  | dfr o => exact (hw _ (.inl rfl)).trans h
  | pack l own =>
    obtain ⟨h0, h1, h2⟩ := h
    have hf : ∀ k, p.foot k → w'.heap[k]? = w.heap[k]? := fun k hk => hw k (.inr hk)
    have ho : ∀ k, p.own k → w'.heap[k]? = w.heap[k]? := fun k hk => hw k (.inl ⟨(h0 k hk).1, hk⟩)
    exact ⟨fun k hk => ⟨(h0 k hk).1, heap_lt_of (h0 k hk).2.1 (ho k hk), (h0 k hk).2.2⟩, fun k hk => heap_lt_of (h1 k hk) (hf k hk), fun j c hj => (h2 j c hj).keep hf fun _ => ho⟩
  | obj tag t m =>
    obtain ⟨h1, h2⟩ := h
    exact ⟨h1, ρ.okeep _ _ _ _ _ h2 fun k hk => hk.elim (fun h => hw k (.inl ⟨(h1 k h).1, h⟩)) fun h => hw k (.inr h)⟩

theorem BRel.lt {p : Place} {b : ABlk} (h : BRel ρ μ S w p b) {k : Nat} (hk : b.at p k) : k < w.heap.size := by
  by_cases hp : b.plain = true
  · have hpk := ABlk.at_plain hp hk
    subst hpk
    have key : ∃ o, w.heap[p.blk]? = some o := by
      cases b with
      | cells l wr z =>
        rcases h.2 with ⟨h1, h2⟩ | ⟨cs, E, fz, g1, _⟩
        · subst h1; subst h2
          rcases hk with hk | hk
          · cases hk.1
          · exact absurd rfl hk.2.1
        · exact ⟨_, g1⟩
      | map es c => obtain ⟨_, es', g1, _⟩ := h; exact ⟨_, g1⟩
      | miter mm s se st => exact ⟨_, h.2.2⟩
      | siter s pos => exact ⟨_, h.2⟩
      | loop st pend k tm ps asg body d => obtain ⟨_, _, fn, tmps, g1, _⟩ := h; exact ⟨_, g1⟩
      | dfr o => exact ⟨_, h⟩
      | pack l own => cases hp
      | obj t d m => cases hp
    obtain ⟨o, ho⟩ := key
    exact heap_lt ho
  · cases b with
    | pack l own =>
      rcases hk with hk | hk
      · exact (h.1 k hk.2).2.1
      · exact h.2.1 k hk
    | obj t d m => exact ρ.olt _ _ _ _ h.2 k (hk.elim (fun h => .inl h.2) .inr)
    | _ => exact absurd rfl hp

theorem Rel.img_lt (h : Rel ρ μ S H w) {k : Nat} (hk : Img μ H k) : k < w.heap.size := by
  obtain ⟨id, b, h1, h2⟩ := hk
  exact (h.blk id b h1).2.lt h2

/-- The world's draws, and whatever else is no heap, don't matter. -/
theorem Rel.heap (h : Rel ρ μ S H w) (hw : w'.heap = w.heap) : Rel ρ μ S H w' :=
  ⟨h.bnd, fun id b hb => ⟨(h.blk id b hb).1, (h.blk id b hb).2.keep (fun _ _ => by rw [hw]) (Mu.upto.refl _ _) (Ids.le.refl _)⟩, h.inj⟩

theorem Step.drawn (h : Rel ρ μ S H w) (n : Nat) : Step ρ μ S H w μ S H { w with drawn := n } :=
  ⟨h.heap rfl, Mu.upto.refl _ _, Ids.le.refl _, fun _ h => .inl h, Nat.le_refl _, rfl, rfl, rfl, Nat.le_refl _, fun _ _ _ => rfl, fun _ h => .inl h, fun _ h => .inl h⟩

theorem AH.get_alloc {b c : ABlk} {id : Nat} (h : (H.alloc b).m.get id = some c) : (id = H.next ∧ b = c) ∨ (id ≠ H.next ∧ H.m.get id = some c) := by
  rcases PM.get_set h with ⟨h1, h2⟩ | h
  · exact .inl ⟨h1, by simpa using h2⟩
  · exact .inr h
theorem AH.get_put {b c : ABlk} {id i : Nat} (h : (H.put i b).m.get id = some c) : (id = i ∧ b = c) ∨ (id ≠ i ∧ H.m.get id = some c) := by
  rcases PM.get_set h with ⟨h1, h2⟩ | h
  · exact .inl ⟨h1, by simpa using h2⟩
  · exact .inr h
theorem AH.get_drop {c : ABlk} {id i : Nat} (h : (H.drop i).m.get id = some c) : id ≠ i ∧ H.m.get id = some c := by
  rcases PM.get_set h with ⟨_, h2⟩ | h
  · cases h2
  · exact h

/-- Fewer blocks are known. -/
theorem Rel.less (h : Rel ρ μ S H w) (hn : H.next ≤ H'.next) (hs : ∀ id b, H'.m.get id = some b → H.m.get id = some b) : Rel ρ μ S H' w :=
  ⟨fun id hid => Nat.lt_of_lt_of_le (h.bnd id hid) hn, fun id b hb => h.blk id b (hs id b hb),
   fun i j b c hi hj => h.inj i j b c (hs i b hi) (hs j c hj)⟩

theorem Step.less (h : Rel ρ μ S H w) (hn : H.next ≤ H'.next) (hs : ∀ id b, H'.m.get id = some b → H.m.get id = some b) : Step ρ μ S H w μ S H' w :=
  ⟨h.less hn hs, Mu.upto.refl _ _, Ids.le.refl _, fun _ h => .inl h, hn, rfl, rfl, rfl, Nat.le_refl _, fun _ _ _ => rfl, fun _ ⟨id, b, h1, h2⟩ => .inl ⟨id, b, hs id b h1, h2⟩, fun _ ⟨id, b, h1, h2⟩ => .inl ⟨id, b, hs id b h1, h2⟩⟩

def Mu.at (μ : Mu) (i : Nat) (p : Place) : Mu := fun j => if j = i then p else μ j
theorem Mu.at_self (μ : Mu) (i : Nat) (p : Place) : (μ.at i p) i = p := by simp [Mu.at]
theorem Mu.at_ne (μ : Mu) {i j : Nat} (p : Place) (h : j ≠ i) : (μ.at i p) j = μ j := by simp [Mu.at, h]
theorem Mu.at_upto (μ : Mu) (p : Place) {i : Nat} (h : ¬ S i) : μ.upto S (μ.at i p) := fun _ hj => Mu.at_ne μ p fun e => h (e ▸ hj)

def Ids.and (S : Ids) (i : Nat) : Ids := fun j => S j ∨ j = i
theorem Ids.le_and (S : Ids) (i : Nat) : S.le (S.and i) := fun _ h => .inl h
theorem Ids.and_self (S : Ids) (i : Nat) : S.and i i := .inr rfl

/-- A new block, that is known from now on, by a name that none had. -/
theorem Rel.add (h : Rel ρ μ S H w) {b : ABlk} {p : Place} {i : Nat} (hi : ¬ S i) (hin : i < H'.next) (hn : H.next ≤ H'.next)
    (hH : ∀ id c, H'.m.get id = some c → (id = i ∧ b = c) ∨ (id ≠ i ∧ H.m.get id = some c))
    (hw : ∀ k, Img μ H k → w'.heap[k]? = w.heap[k]?)
    (hb : BRel ρ (μ.at i p) (S.and i) w' p b) (hp : ∀ k, b.wr p k → ¬ Img μ H k) (hr : ∀ k, b.rd p k → ¬ ImgM μ H k) : Rel ρ (μ.at i p) (S.and i) H' w' := by
  have hup := Mu.at_upto (S := S) μ p hi
  refine ⟨fun id hid => ?_, fun id c hc => ?_, fun x y c d hx hy hne k hc hd => ?_⟩
  · rcases hid with hid | rfl
    · exact Nat.lt_of_lt_of_le (h.bnd id hid) hn
    · exact hin
  · rcases hH id c hc with ⟨rfl, rfl⟩ | ⟨hne, hc⟩
    · exact ⟨.inr rfl, by rw [Mu.at_self]; exact hb⟩
    · exact ⟨.inl (h.blk id c hc).1, by rw [Mu.at_ne μ p hne]; exact (h.blk id c hc).2.keep (fun k hk => hw k ⟨id, c, hc, hk⟩) hup (Ids.le_and _ _)⟩
  · rcases hH x c hx with ⟨h1, h2⟩ | ⟨hnx, hx'⟩ <;> rcases hH y d hy with ⟨h3, h4⟩ | ⟨hny, hy'⟩
    · exact absurd (h1.trans h3.symm) hne
    · rw [h1, Mu.at_self] at hc
      rw [Mu.at_ne μ p hny] at hd
      exact hp k (h2 ▸ hc) ⟨y, d, hy', hd⟩
    · rw [h3, Mu.at_self] at hd
      rw [Mu.at_ne μ p hnx] at hc
      rcases hd with hd | hd
      · exact hp k (h4 ▸ hd) ⟨x, c, hx', .inl hc⟩
      · exact hr k (h4 ▸ hd) ⟨x, c, hx', hc⟩
    · rw [Mu.at_ne μ p hnx] at hc
      rw [Mu.at_ne μ p hny] at hd
      exact h.inj x y c d hx' hy' hne k hc hd

theorem Step.alloc (h : Rel ρ μ S H w) {b : ABlk} {p : Place} (hw : ∀ k, k < w.heap.size → w'.heap[k]? = w.heap[k]?) (hsz : w.heap.size ≤ w'.heap.size)
    (ho : w'.os = w.os) (ht : w'.tape = w.tape) (hu : w'.output = w.output) (hb : BRel ρ (μ.at H.next p) (S.and H.next) w' p b) (hp : New μ H w p b) :
    Step ρ μ S H w (μ.at H.next p) (S.and H.next) (H.alloc b) w' := by
  have hnot : ¬ S H.next := fun hs => Nat.lt_irrefl _ (h.bnd _ hs)
  refine ⟨h.add hnot (Nat.lt_succ_self _) (Nat.le_succ _) (fun id c => AH.get_alloc) (fun k hk => hw k (h.img_lt hk)) hb (fun k hs hi => ?_) (fun k hs hi => ?_), Mu.at_upto μ p hnot, Ids.le_and _ _,
    fun id hid => ?_, Nat.le_succ _, ho, ht, hu, hsz, fun k hk _ => hw k hk, fun k hk => ?_, fun k hk => ?_⟩
  · have := hp.wr k hs; have := h.img_lt hi; omega
  · rcases hp.rd k hs with h1 | h1
    · have := h.img_lt hi.img; omega
    · exact h1.2 hi
  · rcases hid with hid | rfl
    · exact .inl hid
    · exact .inr (Nat.le_refl _)
  · obtain ⟨id, c, hc, hs⟩ := hk
    rcases AH.get_alloc hc with ⟨rfl, rfl⟩ | ⟨hne, hc⟩
    · rw [Mu.at_self] at hs
      rcases hs with hs | hs
      · exact .inr (hp.wr k hs)
      · rcases hp.rd k hs with h1 | h1
        · exact .inr h1
        · exact .inl h1.1
    · rw [Mu.at_ne μ p hne] at hs; exact .inl ⟨id, c, hc, hs⟩
  · obtain ⟨id, c, hc, hs⟩ := hk
    rcases AH.get_alloc hc with ⟨rfl, rfl⟩ | ⟨hne, hc⟩
    · rw [Mu.at_self] at hs; exact .inr (hp.wr k hs)
    · rw [Mu.at_ne μ p hne] at hs; exact .inl ⟨id, c, hc, hs⟩

/-- A block is turned: what it may write, and what it reads, stay. -/
theorem Step.turn (h : Rel ρ μ S H w) {b c : ABlk} {id : Nat} (hid : H.m.get id = some b) (hcw : ∀ k, c.wr (μ id) k → b.wr (μ id) k) (hcr : ∀ k, c.rd (μ id) k → b.rd (μ id) k)
    (hw : ∀ k, ¬ b.wr (μ id) k → w'.heap[k]? = w.heap[k]?)
    (hsz : w'.heap.size = w.heap.size) (ho : w'.os = w.os) (ht : w'.tape = w.tape) (hu : w'.output = w.output) (hb : BRel ρ μ S w' (μ id) c) :
    Step ρ μ S H w μ S (H.put id c) w' := by
  have hca : ∀ k, c.at (μ id) k → b.at (μ id) k := fun k hk => hk.elim (fun h => .inl (hcw k h)) fun h => .inr (hcr k h)
  refine ⟨⟨h.bnd, fun i d hd => ?_, fun i j d e hi hj hne k hd he => ?_⟩, Mu.upto.refl _ _, Ids.le.refl _, fun _ h => .inl h, Nat.le_refl _, ho, ht, hu, Nat.le_of_eq hsz.symm, fun k _ hn => hw k fun he => hn ⟨id, b, hid, he⟩, fun k hk => .inl ?_, fun k hk => .inl ?_⟩
  · rcases AH.get_put hd with ⟨rfl, rfl⟩ | ⟨hne, hd⟩
    · exact ⟨(h.blk _ _ hid).1, hb⟩
    · refine ⟨(h.blk i d hd).1, (h.blk i d hd).2.keep (fun k hk => hw _ fun hbk => h.inj id i b d hid hd (fun e => hne e.symm) k hbk hk) (Mu.upto.refl _ _) (Ids.le.refl _)⟩
  · rcases AH.get_put hi with ⟨h1, h2⟩ | ⟨hni, hi'⟩ <;> rcases AH.get_put hj with ⟨h3, h4⟩ | ⟨hnj, hj'⟩
    · exact absurd (h1.trans h3.symm) hne
    · subst h1 h2; exact h.inj i j b e hid hj' hne k (hcw k hd) he
    · subst h3 h4; exact h.inj i j d b hi' hid hne k hd (hca k he)
    · exact h.inj i j d e hi' hj' hne k hd he
  · obtain ⟨i, d, hd, hds⟩ := hk
    rcases AH.get_put hd with ⟨rfl, rfl⟩ | ⟨hne, hd⟩
    · exact ⟨_, b, hid, hca k hds⟩
    · exact ⟨i, d, hd, hds⟩
  · obtain ⟨i, d, hd, hds⟩ := hk
    rcases AH.get_put hd with ⟨rfl, rfl⟩ | ⟨hne, hd⟩
    · exact ⟨_, b, hid, hcw k hds⟩
    · exact ⟨i, d, hd, hds⟩

theorem Step.put (h : Rel ρ μ S H w) {b c : ABlk} {id : Nat} (hid : H.m.get id = some b) (hm : b.mut = true) (hp : b.plain = true) (hc : c.plain = true) (hcm : c.mut = true) (hw : ∀ k, k ≠ (μ id).blk → w'.heap[k]? = w.heap[k]?)
    (hsz : w'.heap.size = w.heap.size) (ho : w'.os = w.os) (ht : w'.tape = w.tape) (hu : w'.output = w.output) (hb : BRel ρ μ S w' (μ id) c) :
    Step ρ μ S H w μ S (H.put id c) w' :=
  Step.turn h hid (fun k hk => by have := ABlk.wr_plain hc hk; subst this; exact ABlk.wr_of hp hm) (fun k hk => absurd hk (ABlk.no_rd hc hcm))
    (fun k hk => hw k fun e => hk (e ▸ ABlk.wr_of hp hm)) hsz ho ht hu hb
end

theorem Place.val_rep (p : Place) (j : Nat) (q : Option Addr × Nat × Nat) : ({ p with vals := List.replicate (j + 1) q } : Place).val j = q := by
  simp [Place.val]

theorem VR.of_ref {ρ : Rho} {μ : Mu} {S : Ids} {r j : Nat} (h : VR ρ μ S (.ref r j)) : S r := by
  refine Classical.byContradiction fun hS => ?_
  have := h (μ.at r { μ r with vals := List.replicate (j + 1) (none, ((μ r).val j).2.1 + 1, 0) }) (Mu.at_upto μ _ hS)
  simp [conc, Mu.at_self, Place.val_rep, hdr] at this
theorem VR.of_eptr {ρ : Rho} {μ : Mu} {S : Ids} {r j z c : Nat} {i : Tm} (h : VR ρ μ S (.eptr r j z i c)) : S r := by
  refine Classical.byContradiction fun hS => ?_
  have := h (μ.at r { μ r with vals := List.replicate (j + 1) (some ⟨(((μ r).val j).1.getD ⟨0, 0, none⟩).block + 1, 0, none⟩, 0, 0) }) (Mu.at_upto μ _ hS)
  simp [conc, Mu.at_self, Place.val_rep, elemPtr] at this
end Go.Eng
