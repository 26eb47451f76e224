/- The engine, second part: regions, code, calls: the abstract run. Nothing is proved here. -/
import Derived.Test.YtkpobofljnokaaaGreatEng1
namespace Go.Eng

/-! ### Regions in the order of the text -/
def yieldB (ops : List Oper) (m : PM AVal) (j : Nat) : Option (Option Bool) :=
  match nth ops j with
  | some o => match o.dst with
    | some t => match m.get t with
      | some (.bool b) => some (some b)
      | some (.tuple []) => some none
      | _ => none
    | none => none
  | none => none

/-- Is an operation done? -/
def wantB (ops : List Oper) (m : PM AVal) (o : Oper) : Option Bool :=
  match o.guard with
  | none => some true
  | some (j, w) => match yieldB ops m j with
    | some (some b) => some (beq2 b w)
    | some none => some false
    | none => none

def Env.put (e : Env) (d : Option Tmp) (v : AVal) : Option Env :=
  match d with
  | none => some e
  | some t => match Nat.blt t e.n with
    | true => some { e with m := e.m.set t (some v) }
    | false => none

abbrev Rec := Job → AH → Option (Out × AH)

def effR (rec : Rec) (H : AH) : Eff → Option (AVal × AH)
  | some (.inr r) => some r
  | some (.inl j) => match rec j H with
    | some (.val v, H') => some (v, H')
    | _ => none
  | none => none

def valR (H : AH) (v : AVal) : Option (Option ABlk) → Option (AVal × AH)
  | some none => some (v, H)
  | some (some b) => some (v, H.alloc b)
  | none => none

def valO (K : Cfg) (ρ : Operand → Option AVal) (H : AH) (o : Oper) : Option AVal → Option (AVal × AH)
  | some v => valR H v (blkB K H H.next ρ o v)
  | none => none

/-- One operation. -/
def opB (K : Cfg) (rec : Rec) (ρ : Operand → Option AVal) (H : AH) (o : Oper) : Option (AVal × AH) :=
  match isEff o with
  | true => effR rec H (effB K H ρ o)
  | false => valO K ρ H o (valB K H H.next ρ o)

/-- One operation, or none, as its guard says; the slot is written. -/
def putR (e : Env) (d : Option Tmp) : Option (AVal × AH) → Option (Env × AH)
  | some (v, H) => match e.put d v with
    | some e' => some (e', H)
    | none => none
  | none => none

def oneB' (K : Cfg) (rec : Rec) (ops : List Oper) (o : Oper) (e : Env) (H : AH) : Option (Env × AH) :=
  match wantB ops e.m o with
  | some true => putR e o.dst (opB K rec (opd e.m) H o)
  | some false => putR e o.dst (some (.undef, H))
  | none => none

def plainB (K : Cfg) (rec : Rec) (ops : List Oper) : List Oper → Env → AH → Option (Env × AH)
  | [], e, H => some (e, H)
  | o :: rest, e, H => match oneB' K rec ops o e H with
    | some (e', H') => plainB K rec ops rest e' H'
    | none => none

/-! ### Regions that draw their order -/
structure Item where
  i : Nat
  o : Oper
  bf : Nat
  eff : Bool

def isAny : Ground → Bool
  | .textOnly _ => false
  | .gcOnly _ => false
  | _ => true

def bit (i : Nat) : Nat := Nat.shiftLeft 1 i

/-- Which operations are ahead of one, through the edges that bind always: none: an edge leads on. -/
def befB (bfs : PM Nat) : List Edge → Nat → Option Nat
  | [], acc => some acc
  | e :: l, acc => match isAny e.ground with
    | true => match bfs.get e.on with
      | some b => befB bfs l (Nat.lor acc (Nat.lor (bit e.on) b))
      | none => none
    | false => befB bfs l acc

def itemsB : List Oper → Nat → PM Nat → Option (List Item)
  | [], _, _ => some []
  | o :: l, i, bfs => match befB bfs o.after.toList 0 with
    | some b => match itemsB l (i + 1) (bfs.set i (some b)) with
      | some r => some (⟨i, o, b, isEff o⟩ :: r)
      | none => none
    | none => none

/-- The operations with an effect come one behind the other. -/
def chainB : List Item → Option Nat → Bool
  | [], _ => true
  | it :: l, last => match it.eff with
    | true => match last with
      | none => chainB l (some it.i)
      | some j => match Nat.testBit it.bf j with
        | true => chainB l (some it.i)
        | false => false
    | false => chainB l last

/-- Who writes a slot: each one once. -/
def prodB : List Item → PM Item → Option (PM Item)
  | [], p => some p
  | it :: l, p => match it.o.dst with
    | none => prodB l p
    | some t => match p.get t with
      | some _ => none
      | none => prodB l (p.set t (some it))

structure Plan where
  items : List Item
  prod : PM Item
  effs : Nat

def effMask : List Item → Nat
  | [] => 0
  | it :: l => match it.eff with
    | true => Nat.lor (bit it.i) (effMask l)
    | false => effMask l

def planB (ops : List Oper) : Option Plan :=
  match itemsB ops 0 .e with
  | some its => match chainB its none with
    | true => match prodB its .e with
      | some p => some ⟨its, p, effMask its⟩
      | none => none
    | false => none
  | none => none

structure DS where
  vals : PM AVal
  pend : List (Nat × ABlk)
  H : AH
  dn : Nat
  fix : Nat

mutual
def aeq : AVal → AVal → Bool
  | .bool a, .bool b => beq2 a b
  | .int k a, .int k' b => keq k k' && ieq a b
  | .sint k t, .sint k' t' => keq k k' && teq t t'
  | .ref a b, .ref a' b' => Nat.beq a a' && Nat.beq b b'
  | .eptr a b z i c, .eptr a' b' z' i' c' => Nat.beq a a' && Nat.beq b b' && Nat.beq z z' && teq i i' && Nat.beq c c'
  | .str a, .str b => leq a b
  | .ptr a b, .ptr c d => Nat.beq a c && Nat.beq b d
  | .nilPtr, .nilPtr => true
  | .slice a b c (.ex n), .slice a' b' c' (.ex n') => Nat.beq a a' && Nat.beq b b' && Nat.beq c c' && Nat.beq n n'
  | .slice a b c (.el n), .slice a' b' c' (.el n') => Nat.beq a a' && Nat.beq b b' && Nat.beq c c' && Nat.beq n n'
  | .nilSlice, .nilSlice => true
  | .map a, .map b => Nat.beq a b
  | .nilMap, .nilMap => true
  | .func f a b, .func f' a' b' => Nat.beq f f' && aeqs a a' && aeqs b b'
  | .yield a, .yield b => Nat.beq a b
  | .nilFunc, .nilFunc => true
  | .iface t v, .iface t' v' => Nat.beq t t' && aeq v v'
  | .nilIface, .nilIface => true
  | .agg a, .agg b => aeqs a b
  | .tuple a, .tuple b => aeqs a b
  | _, _ => false
def aeqs : List AVal → List AVal → Bool
  | [], [] => true
  | a :: l, b :: r => aeq a b && aeqs l r
  | _, _ => false
end

/-- A slot's value for an operation: what it held, or what an operation ahead has made of it. -/
def lookB (p : Plan) (m : PM AVal) (vals : PM AVal) (it : Item) : Operand → Option AVal
  | .tmp t => match p.prod.get t with
    | none => m.get t
    | some j => match Nat.testBit it.bf j.i with
      | true => vals.get j.i
      | false => match Nat.testBit j.bf it.i with
        | true => m.get t
        | false => none
  | .const v => ofValue 8 v
  | .global _ => none
  | .func f => some (.func f [] [])

def wantD (ops : List Oper) (vals : PM AVal) (it : Item) : Option Bool :=
  match it.o.guard with
  | none => some true
  | some (j, w) => match Nat.testBit it.bf j with
    | true => match nth ops j with
      | some oj => match oj.dst with
        | some _ => match vals.get j with
          | some (.bool b) => some (beq2 b w)
          | some (.tuple []) => some false
          | _ => none
        | none => none
      | none => none
    | false => none

def withP (H : AH) (base bf : Nat) : List (Nat × ABlk) → AH
  | [] => H
  | (i, b) :: l => match Nat.testBit bf i with
    | true => (withP H base bf l).put (base + i) b
    | false => withP H base bf l

def lessP (bf : Nat) : List (Nat × ABlk) → List (Nat × ABlk)
  | [] => []
  | (i, b) :: l => match Nat.testBit bf i with
    | true => lessP bf l
    | false => (i, b) :: lessP bf l

def DS.set (s : DS) (i : Nat) (v : AVal) : DS := ⟨s.vals.set i (some v), s.pend, s.H, s.dn, s.fix⟩
def DS.setP (s : DS) (i : Nat) (v : AVal) (b : ABlk) : DS := ⟨s.vals.set i (some v), (i, b) :: s.pend, s.H, s.dn, s.fix⟩

def newD (s : DS) (i : Nat) (v : AVal) : Option (Option ABlk) → Option DS
  | some none => some (s.set i v)
  | some (some b) => some (s.setP i v b)
  | none => none

def pcEqs : List PComp → List PComp → Bool
  | [], [] => true
  | ⟨s, t, f⟩ :: l, ⟨s', t', f'⟩ :: r => match shEqs s s', teq t t', beq2 f f' with
    | true, true, true => pcEqs l r
    | _, _, _ => false
  | _, _ => false

def findP (i : Nat) : List (Nat × ABlk) → Option ABlk
  | [] => none
  | (j, b) :: l => match Nat.beq i j with
    | true => some b
    | false => findP i l

/-- Is the block the one that was made? -/
def sameD : Option (Option ABlk) → Option ABlk → Bool
  | some none, none => true
  | some (some (.pack l o)), some (.pack l' o') => match beq2 o o' with
    | true => pcEqs l l'
    | false => false
  | some (some (.pack _ _)), _ => false
  | some (some (.obj _ _ _)), _ => false
  | some (some _), some _ => true
  | _, _ => false

def agreeD (K : Cfg) (p : Plan) (m : PM AVal) (base : Nat) (it : Item) (s : DS) (v : AVal) : Option AVal → Option DS
  | some v' => match aeq v v', sameD (blkB K (withP s.H base it.bf s.pend) (base + it.i) (lookB p m s.vals it) it.o v) (findP it.i s.pend) with
    | true, true => some s
    | _, _ => none
  | none => newD s it.i v (blkB K (withP s.H base it.bf s.pend) (base + it.i) (lookB p m s.vals it) it.o v)

def valD (K : Cfg) (p : Plan) (m : PM AVal) (base : Nat) (it : Item) (s : DS) : Option AVal → Option DS
  | some v => agreeD K p m base it s v (s.vals.get it.i)
  | none => none

def leaveD (s : DS) (i : Nat) : Option AVal → Option DS
  | some (.tuple []) => some s
  | none => some (s.set i .undef)
  | _ => none

def doD (K : Cfg) (ops : List Oper) (p : Plan) (m : PM AVal) (base : Nat) (it : Item) (s : DS) : Option DS :=
  match wantD ops s.vals it with
  | some true => valD K p m base it s (valB K (withP s.H base it.bf s.pend) (base + it.i) (lookB p m s.vals it) it.o)
  | some false => leaveD s it.i (s.vals.get it.i)
  | none => none

/-- Can it be done now, and may it still be undone? -/
def nowD (p : Plan) (it : Item) (s : DS) : Bool :=
  match it.eff with
  | true => false
  | false => match Nat.testBit s.fix it.i with
    | true => false
    | false => Nat.beq (Nat.land (Nat.land it.bf p.effs) s.dn) (Nat.land it.bf p.effs)

/-- The operations without an effect, as far as they can be done now. -/
def stageB (K : Cfg) (ops : List Oper) (p : Plan) (m : PM AVal) (base : Nat) : List Item → DS → Option DS
  | [], s => some s
  | it :: l, s => match nowD p it s with
    | true => match doD K ops p m base it s with
      | some s' => stageB K ops p m base l s'
      | none => none
    | false => stageB K ops p m base l s

/-- The heap knows none of these. -/
def cleanB (base : Nat) (H : AH) : List (Nat × ABlk) → Bool
  | [] => true
  | (i, _) :: l => match H.m.get (base + i) with
    | some _ => false
    | none => cleanB base H l

def effC (s : DS) (it : Item) (v : AVal) (H : AH) (l : List (Nat × ABlk)) : Bool → Option DS
  | true => some ⟨s.vals.set it.i (some v), l, H, Nat.lor s.dn (bit it.i), Nat.lor s.fix it.bf⟩
  | false => none

def effS (base : Nat) (s : DS) (it : Item) : Option (AVal × AH) → Option DS
  | some (v, H') => match s.vals.get it.i with
    | some _ => none
    | none => effC s it v H' (lessP it.bf s.pend) (cleanB base H' (lessP it.bf s.pend))
  | none => none

/-- The next operation with an effect. -/
def effD (K : Cfg) (rec : Rec) (ops : List Oper) (p : Plan) (m : PM AVal) (base : Nat) (it : Item) (s : DS) : Option DS :=
  match wantD ops s.vals it with
  | some true => effS base s it (effR rec (withP s.H base it.bf s.pend) (effB K (withP s.H base it.bf s.pend) (lookB p m s.vals it) it.o))
  | some false => effS base s it (some (.undef, withP s.H base it.bf s.pend))
  | none => none

def allD (K : Cfg) (rec : Rec) (ops : List Oper) (p : Plan) (m : PM AVal) (base : Nat) : List Item → DS → Option DS
  | [], s => stageB K ops p m base p.items s
  | it :: l, s => match it.eff with
    | true => match stageB K ops p m base p.items s with
      | some s' => match effD K rec ops p m base it s' with
        | some s'' => allD K rec ops p m base l s''
        | none => none
      | none => none
    | false => allD K rec ops p m base l s

def putAll (vals : PM AVal) : List Item → Env → Option Env
  | [], e => some e
  | it :: l, e => match vals.get it.i with
    | some v => match e.put it.o.dst v with
      | some e' => putAll vals l e'
      | none => none
    | none => none

def endD (base n : Nat) (s : DS) : Option Env → Option (Env × AH)
  | some e => some (e, withP s.H base (bit n - 1) s.pend)
  | none => none

def drawnP (K : Cfg) (rec : Rec) (ops : List Oper) (e : Env) (H : AH) (p : Plan) : Option (Env × AH) :=
  match allD K rec ops p e.m H.next p.items ⟨.e, [], ⟨H.next + ops.length, H.m⟩, 0, 0⟩ with
  | some s => endD H.next ops.length s (putAll s.vals p.items e)
  | none => none

def drawnB (K : Cfg) (rec : Rec) (ops : List Oper) (e : Env) (H : AH) : Option (Env × AH) :=
  match Nat.blt (H.next + ops.length) 1000000000, Nat.blt e.n 1000000000 with
  | true, true => match planB ops with
    | some p => drawnP K rec ops e H p
    | none => none
  | _, _ => none

/-! ### Code -/
def paramsB : List AVal → Nat → PM AVal → PM AVal
  | [], _, m => m
  | v :: l, i, m => paramsB l (i + 1) (m.set i (some v))

def putsB : List Tmp → List AVal → Env → Option Env
  | [], [], e => some e
  | t :: ts, v :: vs, e => match e.put (some t) v with
    | some e' => putsB ts vs e'
    | none => none
  | _, _, _ => none

def resV (K : Cfg) (H : AH) (m : PM AVal) : ResultVar → Option AVal
  | .tmp t => m.get t
  | .cell a t => vLoad K H t (m.get a)

def resB (K : Cfg) (H : AH) (m : PM AVal) : List ResultVar → Option (List AVal)
  | [] => some []
  | r :: l => match resV K H m r with
    | some v => match resB K H m l with
      | some vs => some (v :: vs)
      | none => none
    | none => none

def oneB : List AVal → AVal
  | [v] => v
  | l => .tuple l

def closeB : List Nat → AH → Option AH
  | [], H => some H
  | r :: l, H => match H.m.get r with
    | some (.dfr true) => closeB l (H.put r (.dfr false))
    | _ => none

def normR : Option (Env × AH) → Option (Out × AH)
  | some (e, H) => some (.done .normal e, H)
  | none => none

def sRegion (K : Cfg) (rec : Rec) (ops : List Oper) (draw : Bool) (e : Env) (H : AH) : Option (Out × AH) :=
  match draw with
  | true => normR (drawnB K rec ops e H)
  | false => normR (plainB K rec ops ops e H)

def sSeq (rec : Rec) (b : Code) : Option (Out × AH) → Option (Out × AH)
  | some (.done .normal e, H) => rec (.code b e) H
  | r => r

def sCond (rec : Rec) (a b : Code) (e : Env) (H : AH) : Option AVal → Option (Out × AH)
  | some (.bool true) => rec (.code a e) H
  | some (.bool false) => rec (.code b e) H
  | _ => none

def sBlock (id : Nat) : Option (Out × AH) → Option (Out × AH)
  | some (.done (.exit j) e, H) => match Nat.beq j id with
    | true => some (.done .normal e, H)
    | false => some (.done (.exit j) e, H)
  | r => r

def sJump (e : Env) (H : AH) : Option Code → Option (Out × AH)
  | none => some (.done .normal e, H)
  | some .ret => some (.done .ret e, H)
  | some (.exit id) => some (.done (.exit id) e, H)
  | _ => none

def notBusy : LoopState → Bool
  | .busy => false
  | _ => true

def sRangeE (H H' : AH) (e : Env) : Option ABlk → Option (Out × AH)
  | some (.loop st pend n tm ps asg body d) => match notBusy st with
    | true => sJump ⟨e.n, e.m, H.next :: e.marks, e.inr⟩ (H'.put (H.next + 1) (.loop .exhausted pend n tm ps asg body d)) pend
    | false => none
  | _ => none

def sRangeR (H : AH) (e : Env) : Option (Out × AH) → Option (Out × AH)
  | some (.val _, H') => sRangeE H H' e (H'.m.get (H.next + 1))
  | _ => none

def sRange (rec : Rec) (ps : Array Tmp) (asg body : Code) (e : Env) (H : AH) : Bool → Option AVal → Option (Out × AH)
  | false, some (.func g first captured) =>
    sRangeR H e (rec (.call g (first ++ [.yield (H.next + 1)] ++ captured)) ((H.alloc (.dfr true)).alloc (.loop .ready none e.n e.m ps.toList asg body H.next)))
  | _, _ => none

def sCode (K : Cfg) (rec : Rec) (e : Env) (H : AH) (c : Code) : Option (Out × AH) :=
  match c with
  | .skip => some (.done .normal e, H)
  | .region _ ops draw => sRegion K rec ops.toList draw e H
  | .seq a b => sSeq rec b (rec (.code a e) H)
  | .cond c a b => sCond rec a b e H (opd e.m c)
  | .block id c => sBlock id (rec (.code c e) H)
  | .loop c => sSeq rec (.loop c) (rec (.code c e) H)
  | .exit id => some (.done (.exit id) e, H)
  | .ret => some (.done .ret e, H)
  | .rangeFunc f ps asg body => sRange rec ps asg body e H e.inr (opd e.m f)
  | _ => none

def sRes (H : AH) : Option (List AVal) → Option (Out × AH)
  | some l => some (.val (oneB l), H)
  | none => none

def sLeave (K : Cfg) (fn : Func) (e : Env) : Option AH → Option (Out × AH)
  | some H => sRes H (resB K H e.m fn.results.toList)
  | none => none

def sRet (K : Cfg) (fn : Func) : Option (Out × AH) → Option (Out × AH)
  | some (.done .normal e, H) => sLeave K fn e (closeB e.marks H)
  | some (.done .ret e, H) => sLeave K fn e (closeB e.marks H)
  | _ => none

def sBody (K : Cfg) (rec : Rec) (args : List AVal) (H : AH) (fn : Func) (c : Code) : Option (Out × AH) :=
  match strEq fn.name "runtime.NumGoroutine" with
  | false => sRet K fn (rec (.code c ⟨fn.ntmps, paramsB args 0 .e, [], false⟩) H)
  | true => none

def sFunc (K : Cfg) (rec : Rec) (args : List AVal) (H : AH) (fn : Func) : Option Code → Option (Out × AH)
  | some c => sBody K rec args H fn c
  | none => none

def sCall (K : Cfg) (rec : Rec) (args : List AVal) (H : AH) : Option Func → Option (Out × AH)
  | some fn => sFunc K rec args H fn fn.body
  | none => none

def sEnd2 (l : Nat) (H : AH) : AExit → Option ABlk → Option (Out × AH)
  | .normal, some (.loop _ _ n tm ps asg body d) => some (.val (.bool true), H.put l (.loop .ready none n tm ps asg body d))
  | .ret, some (.loop _ _ n tm ps asg body d) => some (.val (.bool false), H.put l (.loop .done (some .ret) n tm ps asg body d))
  | .exit id, some (.loop _ _ n tm ps asg body d) => some (.val (.bool false), H.put l (.loop .done (some (.exit id)) n tm ps asg body d))
  | _, _ => none

def sEnd (l : Nat) : Option (Out × AH) → Option (Out × AH)
  | some (.done x _, H) => sEnd2 l H x (H.m.get l)
  | _ => none

def sBegin2 (rec : Rec) (l : Nat) (bd : Code) (e : Env) (H : AH) : Option ABlk → Option (Out × AH)
  | some (.loop .ready pend n tm ps asg body d) => sEnd l (rec (.code bd e) (H.put l (.loop .busy pend n tm ps asg body d)))
  | _ => none

/-- The body is the loop's, at the round's beginning. -/
def sBegin (rec : Rec) (l : Nat) (bd : Code) : Option (Out × AH) → Option (Out × AH)
  | some (.done .normal e, H) => sBegin2 rec l bd e H (H.m.get l)
  | _ => none

def sAssign (rec : Rec) (l : Nat) (asg bd : Code) (H : AH) : Option Env → Option (Out × AH)
  | some e => sBegin rec l bd (rec (.code asg e) H)
  | none => none

def sRound (rec : Rec) (l : Nat) (args : List AVal) (H : AH) : Option ABlk → Option (Out × AH)
  | some (.loop _ _ n tm ps asg bd _) => sAssign rec l asg bd H (putsB ps args ⟨n, tm, [], true⟩)
  | _ => none

def sumOf : List (Nat × Known) → Nat → Option Known
  | [], _ => none
  | (g, e) :: l, f => match Nat.beq g f with
    | true => some e
    | false => sumOf l f

def sKnown (K : Cfg) (rec : Rec) (f : FuncId) (args : List AVal) (H : AH) : Option (AVal × AH) → Option (Out × AH)
  | some (v, H') => some (.val v, H')
  | none => sCall K rec args H (K.fn.get f)

def sSum (K : Cfg) (rec : Rec) (f : FuncId) (args : List AVal) (H : AH) : Option Known → Option (Out × AH)
  | some g => sKnown K rec f args H (g K.gam args H)
  | none => sCall K rec args H (K.fn.get f)

def step (K : Cfg) (rec : Rec) (j : Job) (H : AH) : Option (Out × AH) :=
  match j with
  | .code c e => sCode K rec e H c
  | .call f args => sSum K rec f args H (sumOf K.sum f)
  | .round l args => sRound rec l args H (H.m.get l)

/-- A table of a list. -/
def tabB {α : Type} : List α → Nat → PM α → PM α
  | [], _, m => m
  | a :: l, i, m => tabB l (i + 1) (m.set i (some a))

def ev (K : Cfg) : Nat → Rec
  | 0, _, _ => none
  | n + 1, j, H => step K (ev K n) j H

/-- The same, for the kernel. -/
noncomputable def evk (K : Cfg) (n : Nat) : Rec := Nat.rec (motive := fun _ => Rec) (fun _ _ => none) (fun _ r => step K r) n

theorem evk_eq (K : Cfg) (n : Nat) : evk K n = ev K n := by
  induction n with
  | zero => rfl
  | succ n ih =>
    show step K (evk K n) = _
    rw [ih]
    rfl

end Go.Eng
