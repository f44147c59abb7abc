import Derived.Test.YtekfodeknpnkbaaGreatDoorT19
set_option linter.unusedSimpArgs false
set_option linter.unusedVariables false
namespace Go.OT
section
variable {R C:Nat} {a b:Nat→Int} {c q:Nat→Nat→Int} {u v:Nat→Int} {w:Int}
theorem zN4 {U V:Nat→Int} (h:Holds (R+1) (C+1) (costD R C c w 0) U V) (hm:U R+V C≤0) :
 Holds R C c (fun i=>U i+V C) (fun j=>V j+U R)∧(∀ i,i<R→U i+V C≤w)∧(∀ j,j<C→V j+U R≤w) ∧
 worth R C a b (fun i=>U i+V C) (fun j=>V j+U R)=worth (R+1) (C+1) (withD R a (sg C b)) (withD C b (sg R a)) U V:=by
 have hij:∀ i j,i<R→j<C→U i+V j≤c i j:=fun i j hi hj=>by
  have:=h i j (by omega) (by omega)
  unfold costD at this
  rwa [if_pos hi,if_pos hj] at this
 refine ⟨fun i j hi hj=>?_,fun i hi=>?_,fun j hj=>?_,?_⟩
 ·have:=hij i j hi hj
  dsimp only
  omega
 ·have:=h i C (by omega) (by omega)
  unfold costD at this
  rwa [if_pos hi,if_neg (Nat.lt_irrefl _)] at this
 ·have:=h R j (by omega) (by omega)
  unfold costD at this
  rw [if_neg (Nat.lt_irrefl _),if_pos hj] at this
  omega
 ·unfold worth
  have e1:sg (R+1) (fun i=>withD R a (sg C b) i*U i)=sg R (fun i=>a i*U i)+sg C b*U R:=by
   show sg R (fun i=>withD R a (sg C b) i*U i)+withD R a (sg C b) R*U R=_
   congr 1
   ·exact zAm R fun i hi=>by rw [show withD R a (sg C b) i=a i from if_pos hi]
   ·rw [show withD R a (sg C b) R=sg C b from if_neg (Nat.lt_irrefl _)]
  have e2:sg (C+1) (fun j=>withD C b (sg R a) j*V j)=sg C (fun j=>b j*V j)+sg R a*V C:=by
   show sg C (fun j=>withD C b (sg R a) j*V j)+withD C b (sg R a) C*V C=_
   congr 1
   ·exact zAm C fun j hj=>by rw [show withD C b (sg R a) j=b j from if_pos hj]
   ·rw [show withD C b (sg R a) C=sg R a from if_neg (Nat.lt_irrefl _)]
  have e3:sg R (fun i=>a i*(U i+V C))=sg R (fun i=>a i*U i)+sg R a*V C:=by
   rw [Int.mul_comm (sg R a),←zFx,←zCO]
   exact zAm R fun i _=>by rw [Int.mul_add,Int.mul_comm (V C)]
  have e4:sg C (fun j=>b j*(V j+U R))=sg C (fun j=>b j*V j)+sg C b*U R:=by
   rw [Int.mul_comm (sg C b),←zFx,←zCO]
   exact zAm C fun j _=>by rw [Int.mul_add,Int.mul_comm (U R)]
  rw [e1,e2,e3,e4]
  omega
end
section
variable {a b:List Int} {c:List (List Int)}
end
end Go.OT
