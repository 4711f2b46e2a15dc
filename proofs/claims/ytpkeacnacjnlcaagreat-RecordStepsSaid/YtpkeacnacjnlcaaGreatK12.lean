/- merestoneref01.Num: the walk. -/
import Derived.Test.YtpkeacnacjnlcaaGreatK08
namespace Go.Proofs.YtpkeacnacjnlcaaGreat
open Go.RowKit
set_option maxHeartbeats 400000 in
theorem numRef_any (xs:List UInt8) (A:Option Addr) (n cap:Nat) (at_ size:Int) (w:World) (hr:Reads w w.heap.size 1 A n (u8s xs)) (hc:n≤cap) (hn:cap≤9223372036854775807)
 (ha1: -9223372036854775808≤at_) (ha2:at_≤9223372036854775807):
 Calls Tryz.prog 24 #[.slice A n cap,.int .i64 at_,.int .i64 size] w (NumPost xs at_ size w):=by
 have hl:=hr.len8
 by_cases h1:size<1
 ·go_enter Tryz.func24,Tryz.ntmps24
  go_wp2
  go_ret2
  exact NumPost.arg (by omega)
 by_cases h2:7<size
 ·go_enter Tryz.func24,Tryz.ntmps24
  go_wp2
  go_ret2
  exact NumPost.arg (by omega)
 by_cases h3:at_<0
 ·go_enter Tryz.func24,Tryz.ntmps24
  go_wp2
  go_ret2
  exact NumPost.arg (by omega)
 by_cases h4:(n:Int)<at_
 ·go_enter Tryz.func24,Tryz.ntmps24
  go_wp2
  go_ret2
  exact NumPost.short (by omega) (by omega)
 by_cases h5:n-at_<size
 ·go_enter Tryz.func24,Tryz.ntmps24
  go_wp2
  go_ret2
  exact NumPost.short (by omega) (by omega)
 obtain⟨k,rfl⟩:=Int.eq_ofNat_of_zero_le (a:=at_) (by omega)
 obtain⟨s,rfl⟩:=Int.eq_ofNat_of_zero_le (a:=size) (by omega)
 obtain⟨ad,rfl,hb,hcell⟩:=hr.2 (by omega)
 go_enter Tryz.func24,Tryz.ntmps24
 go_wp2
 go_loop [8,9] (fun v i=>∃(j a:Nat),j≤s∧Hid (a=numL (((xs.drop k).take s).take j))∧i= .int .i64 j∧v= .int .i64 (a:Int)) (fun _ i=>s-(intOf i).toNat)
 case atStart=>exact⟨0,0,Nat.zero_le _,rfl,rfl,rfl⟩
 case round=>
  obtain⟨j,a,hj,hA,rfl,rfl⟩:=hrel
  by_cases hlt:j<s
  ·have hsl:((xs.drop k).take s).length=s:=by simp;omega
   have hjl:j<((xs.drop k).take s).length:=by omega
   have hx:((xs.drop k).take s)[j]=xs[k+j]'(by omega):=by simp
   have hcl:w.cell? (ad.add (k+j))=some (.int .u8 ((xs[k+j]'(by omega)).toNat:Int)):=
    hcell _ _ (by simp[u8s,List.getElem?_eq_getElem (show k+j<xs.length by omega)])
   have hts:=numL_take _ _ hjl
   rw[hx]at hts
   have hbnd:a<281474976710656:=by
    have h1:=numL_lt (((xs.drop k).take s).take j)
    rw[←hA.out]at h1
    have h2:(((xs.drop k).take s).take j).length=j:=by rw[List.length_take];omega
    rw[h2]at h1
    have h3:256^j≤256^6:=Nat.pow_le_pow_right (by omega) (by omega)
    omega
   obtain⟨x,hx'⟩:∃x:Nat,x=(xs[k+j]'(by omega)).toNat:=⟨_,rfl⟩
   have hxb:x<256:=by rw[hx'];exact UInt8.toNat_lt _
   rw[←hx']at hcl hts
   clear hx hx'
   rw[←hA.out]at hts
   have HT:=Lib.hid hts
   clear hts hcell hr hjl hsl
   go_wp2
   go_round
   case rel=>exact⟨j+1,a*256+x,by omega,HT.out.symm,by go_num,by go_num⟩
   case measure=>simp[intOf];omega
  ·have H:a=numL ((xs.drop k).take s):=by
    have:=hA.out
    rwa [show j=s by omega,List.take_of_length_le (i:=s) (by simp;omega)]at this
   have HH:=Lib.hid H
   clear H
   go_wp2
   go_ret2
   refine⟨?_,rfl⟩
   rw[numR_ok (by omega) (by omega) (by omega),←HH.out]
   rfl
end Go.Proofs.YtpkeacnacjnlcaaGreat
