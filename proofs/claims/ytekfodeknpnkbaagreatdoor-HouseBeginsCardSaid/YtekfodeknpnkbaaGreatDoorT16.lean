import Derived.Test.YtekfodeknpnkbaaGreatDoorT4
set_option linter.unusedSimpArgs false
set_option linter.unusedVariables false
namespace Go.BF
section
variable {F:Int} {es:List Ed} {p:Nat→Int} {N:Nat}
end
end Go.BF
namespace Go.OT
theorem sg_lt {f g:Nat→Int} (n:Nat) (h:∀ i,i<n→f i≤g i) {k:Nat} (hk:k<n) (hlt:f k<g k):sg n f<sg n g:=by
 have h1:=sg_at n (f:=fun i=>g i - f i) (fun i hi=>by have:=h i hi; omega) k hk
 rw [zGT] at h1
 omega
section
variable {R C:Nat} {a b:Nat→Int} {c p:Nat→Nat→Int} {u v:Nat→Int}
end
section
variable {R C:Nat} {a b:Nat→Int} {c p:Nat→Nat→Int} {r s:Nat→Int} {V:Int}
end
end Go.OT
namespace Go.OT
section
variable {a b:List Int} {p:List (List Int)}
end
section
variable {R C:Nat} {c:List (List Int)} (p:List (List Int))
end
end Go.OT
namespace Go.OT
open Go.BF
section
variable {R C:Nat} {c p:Nat→Nat→Int}
end
section
variable {R C:Nat} {s:Dst}
variable {c p:List (List Int)}
end
section
variable {a b:List Int} {c p:List (List Int)} {r s:Nat→Int} {V:Int}
end
end Go.OT
namespace Go.OT
open Go.BF
section
variable {R C:Nat} {q:List (List Int)} {i j:Nat} {d:Int}
end
section
variable {R C:Nat} {a:Nat→Int} {c p:Nat→Nat→Int} {r s:Nat→Int} {x:Dst} {δ:Int}
end
section
variable {a b:List Int} {c p:List (List Int)} {V:Int}
end
end Go.OT
namespace Go.OT
section
variable {a b:List Int} {c:List (List Int)}
end
end Go.OT
