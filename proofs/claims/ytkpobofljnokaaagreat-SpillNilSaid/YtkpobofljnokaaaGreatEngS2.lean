/- SpillNil returns true, whatever it is given, and all that it was given reads as it did: no condition. -/
import Derived.Test.YtkpobofljnokaaaGreatEngT2
import Derived.Test.YtkpobofljnokaaaGreatEngR
import Derived.Test.YtkpobofljnokaaaGreatRows
import Derived.Test.YtkpobofljnokaaaGreatChecked
import Derived.WalkKit
import Derived.ProofKit
import Derived.OpenShut
import Derived.Below
namespace Go.Eng
open Go.Proofs

/-! ### awake -/
def cAw : Ctr := ⟨8, [], 0, [], [], .bool true, 0, []⟩
set_option maxRecDepth 1000000 in
theorem aw8 : callCan (Kg [] []) 20000 8 [] 0 [] ⟨0, [], []⟩ (.bool true) 0 [] 0 [] = true := by kernel_rfl
theorem cAw_ok : cAw.Valid Tryz.prog W0 := fun _ _ _ => JobX.ofCall (cokg _ _) (sok_of allHold_nil) (SumOK.none rfl) aw8 Alike.refl agrees_nil

/-! ### the paths -/
def ctrs : List (FuncId × List Ctr) := [(8, [cAw]), (110, [cR 110 true, cR 110 false]), (61, [cR 61 true, cR 61 false])]
theorem ctrs_ok : CtrsOK Tryz.prog W0 ctrs := by
  intro q hq C hC
  rcases List.mem_cons.1 hq with rfl | hq
  · rcases List.mem_cons.1 hC with rfl | hC
    · exact ⟨rfl, cAw_ok⟩
    · cases hC
  rcases List.mem_cons.1 hq with rfl | hq
  · rcases List.mem_cons.1 hC with rfl | hC
    · exact ⟨rfl, cR110_ok true⟩
    rcases List.mem_cons.1 hC with rfl | hC
    · exact ⟨rfl, cR110_ok false⟩
    · cases hC
  rcases List.mem_cons.1 hq with rfl | hq
  · rcases List.mem_cons.1 hC with rfl | hC
    · exact ⟨rfl, cR61_ok true⟩
    rcases List.mem_cons.1 hC with rfl | hC
    · exact ⟨rfl, cR61_ok false⟩
    · cases hC
  · cases hq

def L3 : Tm := .op .len [.sym 3]
def nF (big : Bool) : List Fact := match big with
  | true => [.le (.sym 2) (.sym 2), .lt (.lit 1) (.sym 2), .rng .u64 (.op .sub [.sym 2, .lit 1])]
  | false => [.le (.sym 2) (.sym 2), .le (.sym 2) (.lit 1), .rng .u64 (.op .sub [.sym 2, .sym 2])]
def bound : Fact := .le L3 (.lit 9223372036854775807)
def inCap (l : List Fact) : List Fact := bound :: .eq (.fn 1 [.sym 3]) (.lit 1) :: .lt (.lit 0) L3 :: l
def roomy (l : List Fact) : List Fact := .le (.op .add [.op .len [.op (.rows 0 0) []], L3]) (.lit 1000000) :: .le (.lit 0) L3 :: .le L3 (.lit 1000000) :: l
def pOK (b : Bool) : List Fact := inCap (.le (.lit 1) (.sym 0) :: .le (.sym 0) (.lit 1099511627776) :: .le (.lit 1) (.sym 1) :: roomy (nF b))
def pSeg (b : Bool) : List Fact := inCap (.le (.lit 1) (.sym 0) :: .le (.sym 0) (.lit 1099511627776) :: .lt (.sym 1) (.lit 1) :: roomy (nF b))
def pBig (b : Bool) : List Fact := inCap (.le (.lit 1) (.sym 0) :: .lt (.lit 1099511627776) (.sym 0) :: nF b)
def pLow (b : Bool) : List Fact := inCap (.lt (.sym 0) (.lit 1) :: nF b)
def pBad (b : Bool) : List Fact := bound :: .eq (.fn 1 [.sym 3]) (.lit 0) :: nF b

def args4 : List AVal := [.sint .i64 (.sym 0), .sint .i64 (.sym 1), .ref 0 0, .sint .u64 (.sym 2), .agg [.sint .i64 (.sym 4), .ref 1 0]]
def blks4 : List (Nat × ABlk) := [(0, .pack [⟨[.num .i64], .sym 3, false⟩] false), (1, .pack [⟨[.num .u8], .sym 5, false⟩] false)]
noncomputable def run4 (g : List Fact) : Bool := isTrue (evk (Kg g (sumTab ctrs)) 1000 (.call 4 args4) (AH.of 2 blks4))
theorem rOK (b : Bool) : run4 (pOK b) = true := by cases b <;> kernel_rfl
theorem rSeg (b : Bool) : run4 (pSeg b) = true := by cases b <;> kernel_rfl
theorem rBig (b : Bool) : run4 (pBig b) = true := by cases b <;> kernel_rfl
theorem rLow (b : Bool) : run4 (pLow b) = true := by cases b <;> kernel_rfl
theorem rBad (b : Bool) : run4 (pBad b) = true := by cases b <;> kernel_rfl
end Go.Eng
