/- The Go structs of the statements as plain Lean structures. -/
namespace Go.Proofs.Ytmdahjmkfipdfaa
set_option linter.unusedVariables false
set_option linter.unusedSimpArgs false
structure Pat where
  var : Int
  op : Int
  imm : Int
  immVar : Int
  kids : List Pat
def zPat : Pat := ⟨0, 0, 0, 0, []⟩
instance : Inhabited Pat := ⟨zPat⟩
structure Mono where
  exps : List Int
  coef : Int
def zMono : Mono := ⟨[], 0⟩
instance : Inhabited Mono := ⟨zMono⟩
structure Cond where
  kind : Int
  a : Int
  b : Int
  n : Int
def zCond : Cond := ⟨0, 0, 0, 0⟩
structure Rule where
  name : ByteArray
  left : Pat
  right : Pat
  conds : List Cond
  vars : Int
  immVars : Int
def zRule : Rule := ⟨⟨#[]⟩, zPat, zPat, [], 0, 0⟩
structure ASt where
  pos : Int
  bits : List Int
def zASt : ASt := ⟨0, []⟩
structure Cert where
  method : Int
  poly : List Mono
  states : List ASt
  axiomName : ByteArray
def zCert : Cert := ⟨0, [], [], ⟨#[]⟩⟩
end Go.Proofs.Ytmdahjmkfipdfaa
