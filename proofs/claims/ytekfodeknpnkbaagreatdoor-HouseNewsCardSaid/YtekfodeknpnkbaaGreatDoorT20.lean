import Derived.Test.YtekfodeknpnkbaaGreatDoorT17
import Derived.Test.YtekfodeknpnkbaaGreatDoorT19
set_option linter.unusedSimpArgs false
set_option linter.unusedVariables false
namespace Go.LC
open Go.OT
def lwAll (c p:List (List Int)) (s:LL):LL:=upto (lwRow c p) c.length {s with last := -1}
def lwK (c p:List (List Int)) (N k:Nat):LL:=upto (fun _=>lwAll c p) k ⟨List.replicate N 0,List.replicate N 0,-1⟩
section
variable {R C:Nat} {p:Nat→Nat→Int}
variable {c q:List (List Int)}
end
end Go.LC
namespace Go.LC
open Go.OT
def byF (l:List Int) (v:Nat):Nat:=(l.getD v 0).toNat
def zBd (R:Nat) (p:List (List Int)) (b:Nat→Nat) (x:Nat):Nat→Int
 | 0 => -1
 | m+1=>if it b m x<R then
  (if zBd R p b x m<0∨(p.getD (it b m x) []).getD (b (it b m x) - R) 0<zBd R p b x m then (p.getD (it b m x) []).getD (b (it b m x) - R) 0 else zBd R p b x m)
  else zBd R p b x m
def lwN (c p:List (List Int)) (N:Nat):LL:=lwK c p N N
def rx (c p:List (List Int)) (N:Nat):Nat:=it (byF (lwN c p N).by') N (lwN c p N).last.toNat
def rp (c p:List (List Int)) (N:Nat):Nat:=zGL (byF (lwN c p N).by') N (rx c p N)
def rl (c p:List (List Int)) (N:Nat):Int:=zBd c.length p (byF (lwN c p N).by') (rx c p N) (rp c p N)
section
variable {R C:Nat} {c p:Nat→Nat→Int} {b:Nat→Nat} {x n:Nat}
end
section
variable {R C:Nat} {c p:List (List Int)} {b:Nat→Nat} {x n:Nat}
end
end Go.LC
