/- A part of this claim. -/
namespace Go.Proofs.YtejamhkgjkhjdaaGreatDoor
set_option maxHeartbeats 64000000
set_option maxRecDepth 100000
section
abbrev Idl:=List UInt8
structure Cmt where
 tree:Idl
 pars:List Idl
 text:ByteArray
section
variable (cm:Idl → Option Cmt)
variable {cm}
variable (cm)
variable {cm}
end
end
end Go.Proofs.YtejamhkgjkhjdaaGreatDoor
