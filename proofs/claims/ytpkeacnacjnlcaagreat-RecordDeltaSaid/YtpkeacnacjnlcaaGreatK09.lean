/- A []byte argument opened as a list of bytes. -/
import Derived.Test.YtpkeacnacjnlcaaGreatK01
import Derived.Test.YtpkeacnacjnlcaaGreatK03
import Derived.Test.YtpkeacnacjnlcaaGreatK06
namespace Go.Proofs.YtpkeacnacjnlcaaGreat
open Go.RowKit Go.WideShapes Go.ChangeShapes Go.Deep Go.ChangeAt
section
variable {H:Type} {enc:TypeId×Value→H} {P:Program}
theorem wf_u8 {z:Int} (h:(Lit.int .u8 z).wf=true):(((UInt8.ofNat z.toNat).toNat:Nat):Int)=z:=by
 have h1:IntKind.u8.min=0:=rfl
 have h2:IntKind.u8.max=255:=rfl
 simp only[Lit.wf,Bool.and_eq_true,decide_eq_true_eq,h1,h2]at h
 rw[UInt8.toNat_ofNat']
 omega
end
theorem Tryz.cells_u8:Tryz.prog.cellsOf 5=1:=by kernel_rfl
theorem Tryz.bytes_u8:Tryz.prog.bytesOf 5=1:=by kernel_rfl
end Go.Proofs.YtpkeacnacjnlcaaGreat
