import Derived.Test.YtekfodeknpnkbaaGreatDoorT12
import Derived.Test.YtekfodeknpnkbaaGreatDoorT23
import Derived.Test.YtekfodeknpnkbaaGreatDoorT29
import Derived.Test.YtekfodeknpnkbaaGreatDoorT31
set_option linter.unusedSimpArgs false
set_option linter.unusedVariables false
namespace Go.Proofs.YtekfodeknpnkbaaGreatDoor
open Go.RowKit Go.VS Go.OT
def errWL (a b:List Int) (c:List (List Int)) (w:Int) (p:zA3):Int:=if errWd a b c w=0 then zA8 c w p else errWd a b c w
def zU6 (a b:List Int) (c:List (List Int)) (w:Int) (p:zA3):Int:=if errWL a b c w p=0 then zDh a b p else 0
end Go.Proofs.YtekfodeknpnkbaaGreatDoor
namespace Go.Proofs.YtekfodeknpnkbaaGreatDoor
open Go.RowKit Go.VS Go.OT
theorem zOk {a b:List Int} {c:List (List Int)} {w:Int} {p:zA3} (h:errWL a b c w p=0):zU6 a b c w p≤zBa a b c w:=by
 have e:zU6 a b c w p=zDh a b p:=if_pos h
 have hw:errWd a b c w=0:=by
  apply Classical.byContradiction
  intro h1
  rw [errWL,if_neg h1] at h
  exact h1 h
 have hp:zA8 c w p=0:=by rw [errWL,if_pos hw] at h; exact h
 have hf:=(zBE hw).1
 have hm:=hf.mc
 have hr:=hf.rows
 have hc:=hf.cols
 unfold zA8 at hp
 split at hp
 ·split at hp
  ·rename_i h3
   split at hp
   ·rename_i hlow
    obtain ⟨k1,k2,k3⟩:=zK5 h3
    obtain ⟨r1,_⟩:=k2.row
    obtain ⟨c1,_⟩:=k2.col
    obtain ⟨g1,g2⟩:=(zFn hm w (zEI hm w).1)
    have hk:=g2.1 rfl
    obtain ⟨q1,q2,q3⟩:=zLo hm (zEI hm w).1
    have hat:=zPT hm w hk.1 hk.2
    have hd:=zRl (w:=w) (u:=ga p.1) (v:=ga p.2) (c:=gt c) q1 (fun i j hi hj=>k3 i (by omega) j (by omega))
     (fun i hi=>hlow _ (List.mem_append_left _ (zAJ 0 (by omega)))) (fun j hj=>hlow _ (List.mem_append_right _ (zAJ 0 (by omega))))
    rw [q2] at hd
    rw [e,worth_eq]
    have hs1:sg a.length (ga a)=sumL a:=rfl
    have hs2:sg b.length (ga b)=sumL b:=rfl
    rw [hs1,hs2,hat] at hd
    exact hd
   ·omega
  ·rename_i h3; exact absurd hp h3
 ·omega
end Go.Proofs.YtekfodeknpnkbaaGreatDoor
