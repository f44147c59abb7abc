import Derived.Test.YtekfodeknpnkbaaGreatDoorRows
import Derived.Conc.MuLone
import Derived.KernelRfl
set_option linter.unusedSimpArgs false
set_option linter.unusedVariables false
namespace Go.Proofs.YtekfodeknpnkbaaGreatDoor
open Go.Conc.Locks
abbrev yAf:MuLink:={lock:=50,unlock:=51,ilock:=96,iunlock:=97,lockSlow:=143,unlockSlow:=146,disable:=139,enable:=141,acquire:=142,relMerge:=144,cas32:=140,add32:=145,tMutex:=95,tIMutex:=93,tPMutex:=145,tPIMutex:=181,tPI32:=183,tUP:=185,tNoCopy:=90,tU32:=91}
theorem muLib:MuLib Tryz.prog yAf:=by
 constructor
 all_goals try intro w
 all_goals kernel_rfl
end Go.Proofs.YtekfodeknpnkbaaGreatDoor
