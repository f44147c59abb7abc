import Derived.Test.YtlgkplnifaoeeaaGreatDoorRows
import Derived.Conc.MuLone
import Derived.KernelRfl
set_option linter.unusedSimpArgs false
set_option linter.unusedVariables false
namespace Go.Proofs.YtlgkplnifaoeeaaGreatDoor
open Go.Conc.Locks
abbrev zX5:MuLink:={lock:=75,unlock:=76,ilock:=120,iunlock:=121,lockSlow:=163,unlockSlow:=166,disable:=159,enable:=161,acquire:=162,relMerge:=164,cas32:=160,add32:=165,tMutex:=111,tIMutex:=109,tPMutex:=159,tPIMutex:=195,tPI32:=197,tUP:=199,tNoCopy:=106,tU32:=107}
theorem muLib:MuLib Tryz.prog zX5:=by
 constructor
 all_goals try intro w
 all_goals kernel_rfl
end Go.Proofs.YtlgkplnifaoeeaaGreatDoor
