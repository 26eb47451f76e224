/- The engine, part nought: symbols: what a number or a row of data, known by its name alone, is; facts on them. -/
import Derived.RangeFuncLeaves
import Derived.Below
namespace Go.Eng

/-! ### Data -/
/-- A number, or rows of data (what a slice holds: an element a row, a cell of it each). -/
inductive Dat where
  | n (x : Int)
  | a (rows : List (List Dat))
  deriving Inhabited

def Dat.int : Dat → Int
  | .n x => x
  | .a _ => 0
def Dat.rows : Dat → List (List Dat)
  | .a r => r
  | .n _ => []
def Dat.len (d : Dat) : Nat := d.rows.length
def Dat.at (d : Dat) (i : Int) (c : Nat) : Dat := (d.rows.getD i.toNat []).getD c (.n 0)
def Dat.sub (d : Dat) (lo hi : Int) : Dat := .a ((d.rows.take hi.toNat).drop lo.toNat)
def Dat.cat (a b : Dat) : Dat := .a (a.rows ++ b.rows)
def Dat.upd (d : Dat) (i : Int) (c : Nat) (x : Dat) : Dat := .a (d.rows.modify i.toNat fun r => r.set c x)

/-- Rows of z cells each. -/
def rowsOf (z : Nat) : Nat → List Dat → List (List Dat)
  | 0, _ => []
  | n + 1, l => l.take z :: rowsOf z n (l.drop z)

/-! ### Terms -/
inductive BOp where
  | bin (op : BinOp) (k : IntKind)
  | add
  | sub
  | mul
  | wrap (k : IntKind)
  | len
  | at (c : Nat)
  | sl
  | cat
  | rows (n z : Nat)
  | zeros (row : List Dat)
  | upd (c : Nat)
  deriving Inhabited

inductive Tm where
  | lit (n : Int)
  | sym (i : Nat)
  | op (o : BOp) (l : List Tm)
  | fn (o : Nat) (l : List Tm)
  deriving Inhabited

/-- What an operation of two numbers of a kind gives. -/
def binEv (op : BinOp) (k : IntKind) (x y : Int) : Int :=
  match op with
  | .add => k.wrap (x + y)
  | .sub => k.wrap (x - y)
  | .mul => k.wrap (x * y)
  | .quo => k.wrap (x.tdiv y)
  | .rem => x.tmod y
  | .and => k.wrap ((BitVec.ofInt k.bits x) &&& (BitVec.ofInt k.bits y)).toNat
  | .or => k.wrap ((BitVec.ofInt k.bits x) ||| (BitVec.ofInt k.bits y)).toNat
  | .xor => k.wrap ((BitVec.ofInt k.bits x) ^^^ (BitVec.ofInt k.bits y)).toNat
  | .andNot => k.wrap ((BitVec.ofInt k.bits x) &&& ~~~(BitVec.ofInt k.bits y)).toNat
  | .shl => k.wrap (x * 2 ^ (min y.toNat k.bits))
  | .shr => x.fdiv (2 ^ (min y.toNat k.bits))
  | _ => 0

def num2 (f : Int → Int → Int) : List Dat → Dat
  | [a, b] => .n (f a.int b.int)
  | _ => .n 0

def BOp.ev : BOp → List Dat → Dat
  | .bin op k, l => num2 (binEv op k) l
  | .add, l => num2 (· + ·) l
  | .sub, l => num2 (· - ·) l
  | .mul, l => num2 (· * ·) l
  | .wrap k, [a] => .n (k.wrap a.int)
  | .len, [a] => .n a.len
  | .at c, [a, i] => a.at i.int c
  | .sl, [a, lo, hi] => a.sub lo.int hi.int
  | .cat, [a, b] => a.cat b
  | .rows n z, l => .a (rowsOf z n l)
  | .zeros row, [n] => .a (List.replicate n.int.toNat row)
  | .upd c, [a, i, x] => a.upd i.int c x
  | _, _ => .n 0

/-- The place of a known block: where it lies; of a slice that is known by its data, or of an opaque thing: its values, which blocks it may write, which others it reads. -/
structure Place where
  blk : Nat
  sh : Nat
  cap : Nat
  vals : List (Option Addr × Nat × Nat)
  own : Nat → Prop
  foot : Nat → Prop

abbrev Place.of (b s c : Nat) : Place := ⟨b, s, c, [], fun _ => False, fun _ => False⟩

/-- What the names stand for; what is said of opaque blocks. -/
structure Rho where
  s : Nat → Dat
  f : Nat → List Dat → Dat
  o : Nat → Dat → World → Place → Prop
  okeep : ∀ tag d w w' p, o tag d w p → (∀ k, p.own k ∨ p.foot k → w'.heap[k]? = w.heap[k]?) → o tag d w' p
  olt : ∀ tag d w p, o tag d w p → ∀ k, p.own k ∨ p.foot k → k < w.heap.size

mutual
def Tm.ev (ρ : Rho) : Tm → Dat
  | .lit n => .n n
  | .sym i => ρ.s i
  | .op o l => o.ev (Tm.evs ρ l)
  | .fn o l => ρ.f o (Tm.evs ρ l)
def Tm.evs (ρ : Rho) : List Tm → List Dat
  | [] => []
  | t :: l => t.ev ρ :: Tm.evs ρ l
end

def Tm.int (ρ : Rho) (t : Tm) : Int := (t.ev ρ).int

theorem Tm.evs_eq (ρ : Rho) : ∀ l, Tm.evs ρ l = l.map (Tm.ev ρ)
  | [] => by simp [Tm.evs]
  | t :: l => by simp [Tm.evs, Tm.evs_eq ρ l]

/-! ### Equality -/
def tkeq : IntKind → IntKind → Bool
  | .i8, .i8 | .i16, .i16 | .i32, .i32 | .i64, .i64 | .u8, .u8 | .u16, .u16 | .u32, .u32 | .u64, .u64 => true
  | _, _ => false
theorem tkeq_iff {k k' : IntKind} : tkeq k k' = true ↔ k = k' := by cases k <;> cases k' <;> simp [tkeq]

def tieq : Int → Int → Bool
  | .ofNat a, .ofNat b => Nat.beq a b
  | .negSucc a, .negSucc b => Nat.beq a b
  | _, _ => false
theorem tieq_iff {x y : Int} : tieq x y = true ↔ x = y := by
  cases x <;> cases y <;> simp [tieq] <;> omega

def bopNo : BinOp → Nat
  | .add => 0
  | .sub => 1
  | .mul => 2
  | .quo => 3
  | .rem => 4
  | .and => 5
  | .or => 6
  | .xor => 7
  | .andNot => 8
  | .shl => 9
  | .shr => 10
  | .eql => 11
  | .neq => 12
  | .lss => 13
  | .leq => 14
  | .gtr => 15
  | .geq => 16
theorem bopNo_inj {a b : BinOp} (h : bopNo a = bopNo b) : a = b := by cases a <;> cases b <;> first | rfl | (simp [bopNo] at h)

mutual
def deq : Dat → Dat → Bool
  | .n x, .n y => tieq x y
  | .a x, .a y => deqss x y
  | _, _ => false
def deqs : List Dat → List Dat → Bool
  | [], [] => true
  | a :: l, b :: r => match deq a b with
    | true => deqs l r
    | false => false
  | _, _ => false
def deqss : List (List Dat) → List (List Dat) → Bool
  | [], [] => true
  | a :: l, b :: r => match deqs a b with
    | true => deqss l r
    | false => false
  | _, _ => false
end

mutual
theorem deq_eq : ∀ (a b : Dat), deq a b = true → a = b
  | .n x, .n y, h => by simp only [deq] at h; rw [tieq_iff.1 h]
  | .a x, .a y, h => by simp only [deq] at h; rw [deqss_eq x y h]
  | .n _, .a _, h => by simp [deq] at h
  | .a _, .n _, h => by simp [deq] at h
theorem deqs_eq : ∀ (a b : List Dat), deqs a b = true → a = b
  | [], [], _ => rfl
  | a :: l, b :: r, h => by
    simp only [deqs] at h
    split at h
    · rename_i h1; rw [deq_eq a b h1, deqs_eq l r h]
    · cases h
  | [], _ :: _, h => by simp [deqs] at h
  | _ :: _, [], h => by simp [deqs] at h
theorem deqss_eq : ∀ (a b : List (List Dat)), deqss a b = true → a = b
  | [], [], _ => rfl
  | a :: l, b :: r, h => by
    simp only [deqss] at h
    split at h
    · rename_i h1; rw [deqs_eq a b h1, deqss_eq l r h]
    · cases h
  | [], _ :: _, h => by simp [deqss] at h
  | _ :: _, [], h => by simp [deqss] at h
end

def boeq : BOp → BOp → Bool
  | .bin a k, .bin b k' => match Nat.beq (bopNo a) (bopNo b) with
    | true => tkeq k k'
    | false => false
  | .add, .add => true
  | .sub, .sub => true
  | .mul, .mul => true
  | .wrap k, .wrap k' => tkeq k k'
  | .len, .len => true
  | .at c, .at c' => Nat.beq c c'
  | .sl, .sl => true
  | .cat, .cat => true
  | .rows n z, .rows n' z' => match Nat.beq n n' with
    | true => Nat.beq z z'
    | false => false
  | .zeros r, .zeros r' => deqs r r'
  | .upd c, .upd c' => Nat.beq c c'
  | _, _ => false

theorem boeq_eq {a b : BOp} (h : boeq a b = true) : a = b := by
  cases a <;> cases b <;> simp only [boeq] at h <;> first
    | rfl
    | (cases h; done)
    | (split at h
       · rename_i h1; rw [bopNo_inj (Nat.eq_of_beq_eq_true h1), tkeq_iff.1 h]
       · cases h)
    | (split at h
       · rename_i h1; rw [Nat.eq_of_beq_eq_true h1, Nat.eq_of_beq_eq_true h]
       · cases h)
    | rw [tkeq_iff.1 h]
    | rw [Nat.eq_of_beq_eq_true h]
    | rw [deqs_eq _ _ h]

mutual
def teq : Tm → Tm → Bool
  | .lit a, .lit b => tieq a b
  | .sym i, .sym j => Nat.beq i j
  | .op o l, .op o' l' => match boeq o o' with
    | true => teqs l l'
    | false => false
  | .fn o l, .fn o' l' => match Nat.beq o o' with
    | true => teqs l l'
    | false => false
  | _, _ => false
def teqs : List Tm → List Tm → Bool
  | [], [] => true
  | a :: l, b :: r => match teq a b with
    | true => teqs l r
    | false => false
  | _, _ => false
end

mutual
theorem teq_eq : ∀ (a b : Tm), teq a b = true → a = b
  | .lit x, .lit y, h => by simp only [teq] at h; rw [tieq_iff.1 h]
  | .sym x, .sym y, h => by simp only [teq] at h; rw [Nat.eq_of_beq_eq_true h]
  | .op o l, .op o' l', h => by
    simp only [teq] at h
    split at h
    · rename_i h1; rw [boeq_eq h1, teqs_eq l l' h]
    · cases h
  | .fn o l, .fn o' l', h => by
    simp only [teq] at h
    split at h
    · rename_i h1; rw [Nat.eq_of_beq_eq_true h1, teqs_eq l l' h]
    · cases h
  | .lit _, .sym _, h => by simp [teq] at h
  | .lit _, .op _ _, h => by simp [teq] at h
  | .lit _, .fn _ _, h => by simp [teq] at h
  | .sym _, .lit _, h => by simp [teq] at h
  | .sym _, .op _ _, h => by simp [teq] at h
  | .sym _, .fn _ _, h => by simp [teq] at h
  | .op _ _, .lit _, h => by simp [teq] at h
  | .op _ _, .sym _, h => by simp [teq] at h
  | .op _ _, .fn _ _, h => by simp [teq] at h
  | .fn _ _, .lit _, h => by simp [teq] at h
  | .fn _ _, .sym _, h => by simp [teq] at h
  | .fn _ _, .op _ _, h => by simp [teq] at h
theorem teqs_eq : ∀ (a b : List Tm), teqs a b = true → a = b
  | [], [], _ => rfl
  | a :: l, b :: r, h => by
    simp only [teqs] at h
    split at h
    · rename_i h1; rw [teq_eq a b h1, teqs_eq l r h]
    · cases h
  | [], _ :: _, h => by simp [teqs] at h
  | _ :: _, [], h => by simp [teqs] at h
end

/-! ### Facts -/
inductive Fact where
  | lt (a b : Tm)
  | le (a b : Tm)
  | eq (a b : Tm)
  | ne (a b : Tm)
  | rng (k : IntKind) (a : Tm)
  deriving Inhabited

def Fact.holds (ρ : Rho) : Fact → Prop
  | .lt a b => a.int ρ < b.int ρ
  | .le a b => a.int ρ ≤ b.int ρ
  | .eq a b => a.int ρ = b.int ρ
  | .ne a b => a.int ρ ≠ b.int ρ
  | .rng k a => k.min ≤ a.int ρ ∧ a.int ρ ≤ k.max

def feq : Fact → Fact → Bool
  | .lt a b, .lt c d => match teq a c with
    | true => teq b d
    | false => false
  | .le a b, .le c d => match teq a c with
    | true => teq b d
    | false => false
  | .eq a b, .eq c d => match teq a c with
    | true => teq b d
    | false => false
  | .ne a b, .ne c d => match teq a c with
    | true => teq b d
    | false => false
  | .rng k a, .rng k' b => match tkeq k k' with
    | true => teq a b
    | false => false
  | _, _ => false

theorem feq_eq {a b : Fact} (h : feq a b = true) : a = b := by
  cases a <;> cases b <;> simp only [feq] at h <;> first
    | (cases h; done)
    | (split at h
       · rename_i h1; rw [teq_eq _ _ h1, teq_eq _ _ h]
       · cases h)
    | (split at h
       · rename_i h1; rw [tkeq_iff.1 h1, teq_eq _ _ h]
       · cases h)

/-- Is it among what is known? -/
def known (f : Fact) : List Fact → Bool
  | [] => false
  | g :: l => match feq f g with
    | true => true
    | false => known f l

theorem known_mem {f : Fact} : ∀ {l : List Fact}, known f l = true → f ∈ l
  | [], h => by simp [known] at h
  | g :: l, h => by
    unfold known at h
    split at h
    · rename_i h1; rw [feq_eq h1]; exact .head _
    · exact .tail _ (known_mem h)

def AllHold (ρ : Rho) (l : List Fact) : Prop := ∀ f ∈ l, f.holds ρ

theorem AllHold.of {ρ : Rho} {l : List Fact} (h : AllHold ρ l) {f : Fact} (hk : known f l = true) : f.holds ρ := h f (known_mem hk)

def two (a : Bool) (b : Bool) : Option Bool :=
  match a with
  | true => some true
  | false => match b with
    | true => some false
    | false => none

/-- A comparison of two terms, as far as the facts tell. -/
def cmpT (g : List Fact) (op : BinOp) (a b : Tm) : Option Bool :=
  match op with
  | .lss => two (known (.lt a b) g) (known (.le b a) g)
  | .leq => two (known (.le a b) g) (known (.lt b a) g)
  | .gtr => two (known (.lt b a) g) (known (.le a b) g)
  | .geq => two (known (.le b a) g) (known (.lt a b) g)
  | .eql => two (known (.eq a b) g) (known (.ne a b) g)
  | .neq => two (known (.ne a b) g) (known (.eq a b) g)
  | _ => none

theorem two_some {a b c : Bool} (h : two a b = some c) : (a = true ∧ c = true) ∨ (b = true ∧ c = false) := by
  unfold two at h
  split at h
  · cases h; exact .inl ⟨rfl, rfl⟩
  · split at h
    · cases h; exact .inr ⟨rfl, rfl⟩
    · cases h
end Go.Eng
