/- merestoneref01.PutNum: the walk. -/
import Derived.Test.YtpkeacnacjnlcaaGreatK14
namespace Go.Proofs.YtpkeacnacjnlcaaGreat
open Go.RowKit
/-- The low bytes first. -/
def leL (v k:Nat):List UInt8:=(List.range k).map fun i=>UInt8.ofNat (v/256^i%256)
theorem leL_succ (v k:Nat):leL v (k+1)=leL v k++[UInt8.ofNat (v/256^k%256)]:=by simp[leL,List.range_succ]
theorem leL_get (v k j:Nat) (h:j<k):(leL v k)[j]?=some (UInt8.ofNat (v/256^j%256)):=by simp[leL,h]
def Apart8 (a b:Value):Prop:=a.ownBlock=none∨a.ownBlock≠b.ownBlock
/-- What stands at the first loop's head. -/
def LowRel (xs:List UInt8) (v s:Nat) (w:World) (out:Value) (low x i:Value) (wr:World):Prop:=
 ∃(k c3:Nat) (A3:Option Addr),k≤s∧i= .int .i64 (k:Int)∧x= .int .i64 ((v/256^k:Nat):Int)∧low= .slice A3 k c3∧wr.ownsRow w.heap.size 5 1 (.slice A3 k c3) k (u8s (leL v k))∧
  wr.ownsRow w.heap.size 5 1 out xs.length (u8s xs)∧Apart8 out (.slice A3 k c3)∧Below w.heap.size w wr
theorem LowRel.step {xs:List UInt8} {v s k q q2:Nat} {w wr w2:World} {b:UInt8} {out low v2:Value} (hk:k+1≤s) (hq:q=v/256^k) (hq2:q2=q/256) (hb:b=UInt8.ofNat (q%256))
 (hlow:wr.ownsRow w.heap.size 5 1 low k (u8s (leL v k))) (hout:wr.ownsRow w.heap.size 5 1 out xs.length (u8s xs)) (hap:Apart8 out low) (hbel:Below w.heap.size w wr) {o:Obj}
 (ho:w2.ownsRow w.heap.size 5 1 v2 (k+1) (u8s (leL v k)++[.int .u8 (b.toNat:Int)])) (hg:(wr.alloc o).grownBy w2 low.ownBlock) (hat:v2.ownBlock=low.ownBlock∨v2.ownBlock=some (wr.alloc o).heap.size):
 LowRel xs v s w out v2 (.int .i64 (q2:Int)) (.int .i64 ((k:Int)+1)) w2:=by
 obtain⟨A,c,rfl⟩:=own_form ho
 refine⟨k+1,c,A,hk,by go_num,?_,rfl,?_,?_,?_,?_⟩
 ·rw[hq2,hq,Nat.div_div_eq_div_mul,←Nat.pow_succ]
 ·rw[leL_succ,u8s_append,←hq,←hb];exact ho
 ·exact(hout.alloc o).kept hg hap
 ·rcases hap with h0|hne
  ·exact .inl h0
  ·right
   rcases hat with h|h
   ·rw[h];exact hne
   ·rw[h]
    intro he
    have:=(hout.lt _ he).2
    simp at this
    omega
 ·exact(hbel.alloc hbel.size o).grown hg (by simp;have:=hbel.size;omega) (fun k hk=>(hlow.lt k hk).1)
/-- What stands at the second loop's head. -/
def Put2Rel (xs:List UInt8) (v s:Nat) (w:World) (low:Value) (out k:Value) (wr:World):Prop:=PutRel xs v s w out k wr∧Apart8 low out∧wr.ownsRow w.heap.size 5 1 low s (u8s (leL v s))
theorem Put2Rel.step {xs:List UInt8} {v s j n2:Nat} {w wr w2:World} {b:UInt8} {out low v2:Value} (hj:j+1≤s) (hs:s≤8) (hb:b=UInt8.ofNat (v/256^j%256))
 (hlow:wr.ownsRow w.heap.size 5 1 low s (u8s (leL v s))) (hout:wr.ownsRow w.heap.size 5 1 out n2 (u8s (xs++beB (v/256^(j+1)) (s-(j+1))))) (hap:Apart8 low out) (hbel:Below w.heap.size w wr) {o:Obj}
 (ho:w2.ownsRow w.heap.size 5 1 v2 (n2+1) (u8s (xs++beB (v/256^(j+1)) (s-(j+1)))++[.int .u8 (b.toNat:Int)])) (hg:(wr.alloc o).grownBy w2 out.ownBlock) (hat:v2.ownBlock=out.ownBlock∨v2.ownBlock=some (wr.alloc o).heap.size):
 Put2Rel xs v s w low v2 (.int .i64 ((j:Int)-1)) w2:=by
 refine⟨PutRel.step hj hs hb ho ?_,?_,(hlow.alloc o).kept hg hap⟩
 ·exact(hbel.alloc hbel.size o).grown hg (by simp;have:=hbel.size;omega) (fun k hk=>(hout.lt k hk).1)
 ·rcases hap with h0|hne
  ·exact .inl h0
  ·right
   rcases hat with h|h
   ·rw[h];exact hne
   ·rw[h]
    intro he
    have:=(hlow.lt _ he).2
    simp at this
    omega
/-- The first loop is done: the second one's relation. -/
theorem Put2Rel.start {xs:List UInt8} {v s c3 n c:Nat} {A3 A:Option Addr} {w wr:World} (hs:1≤s) (hlow:wr.ownsRow w.heap.size 5 1 (.slice A3 s c3) s (u8s (leL v s)))
 (hout:wr.ownsRow w.heap.size 5 1 (.slice A n c) xs.length (u8s xs)) (hn:n=xs.length) (hap:Apart8 (.slice A n c) (.slice A3 s c3)) (hb:Below w.heap.size w wr):
 Put2Rel xs v s w (.slice A3 s c3) (.slice A n c) (.int .i64 ((s:Int)-1)) wr:=by
 subst hn
 refine⟨PutRel.start hout rfl hb,?_,hlow⟩
 right
 rcases hap with h0|hne
 ·rw[h0]
  rcases hlow.2 with ⟨_,h⟩|⟨g,cc,cur,h,_⟩
  ·omega
  ·rw[h];simp[Value.ownBlock]
 ·exact fun h=>hne h.symm
set_option maxHeartbeats 400000 in
theorem putNumR_no (xs:List UInt8) (A:Option Addr) (n cap:Nat) (v size:Int) (w:World) (hr:Reads w w.heap.size 1 A n (u8s xs)) (hn:n≤140737488354000) (h:v<0∨size<1∨8<size):
 Calls Tryz.prog 54 #[.slice A n cap,.int .i64 v,.int .i64 size] w (Own8 xs w):=by
 obtain⟨i0,hi0,hz0,hz1,hz2⟩:=info_parts info_u8
 have hl:=hr.len8
 have hown0:=World.ownsRow_made (base:=w.heap.size) (e:=5) (size:=1) w #[] 0 (Nat.le_refl _) (by simp[maxLen]) rfl
 have hb0:Below w.heap.size w (w.alloc (.cells #[] 5)):=(Below.refl _ _).alloc (Nat.le_refl _) _
 have hc:v<0∨(0≤v∧size<1)∨(0≤v∧1≤size∧8<size):=by omega
 clear h
 rcases hc with h1|⟨h1,h2⟩|⟨h1,h2,h3⟩
 all_goals
  go_enter Tryz.func54,Tryz.ntmps54
  go_wp2_with (at_builtin;refine wpList_append_any _ rfl (.tmp 12) (.tmp 13) _ rfl w.heap.size 5 i0 _ 1 1 Tryz.underlying50 hi0 hz0 hz1 hz2 rfl (by omega) (.slice (some ⟨w.heap.size,0,none⟩) 0 0) 0 [] rfl hown0 w.heap.size A n cap (u8s xs) rfl (hr.below hb0) (u8s_one xs) (by simp only[maxLen];omega) (by omega) hb0.size ?_
               intro v2 w2 hown2 hg2 hat2)
  go_ret
  simp only[Nat.zero_add,List.nil_append]at hown2
  exact Own8.mk hown2 (hb0.grown hg2 hb0.size (by intro k hk;simp[Value.ownBlock]at hk;omega))
set_option maxHeartbeats 800000 in
theorem putNumR_in (xs:List UInt8) (A:Option Addr) (n cap:Nat) (v s:Nat) (w:World) (hr:Reads w w.heap.size 1 A n (u8s xs)) (hn:n≤140737488354000) (hs1:1≤s) (hs2:s≤8) (hv:v≤9223372036854775807):
 Calls Tryz.prog 54 #[.slice A n cap,.int .i64 v,.int .i64 s] w (Own8 (putN xs v s) w):=by
 obtain⟨i0,hi0,hz0,hz1,hz2⟩:=info_parts info_u8
 have hl:=hr.len8
 have hown0:=World.ownsRow_made (base:=w.heap.size) (e:=5) (size:=1) w #[] 0 (Nat.le_refl _) (by simp[maxLen]) rfl
 have hb0:Below w.heap.size w (w.alloc (.cells #[] 5)):=(Below.refl _ _).alloc (Nat.le_refl _) _
 have hv0:decide ((v:Int)<0)=false:=by simp
 have hs01:decide ((s:Int)<1)=false:=by simp;omega
 have hs08:decide (8<(s:Int))=false:=by simp;omega
 go_enter Tryz.func54,Tryz.ntmps54
 have HL:=Lib.hid hl
 clear hl
 go_wp2_with (at_builtin;refine wpList_append_any _ rfl (.tmp 12) (.tmp 13) _ rfl w.heap.size 5 i0 _ 1 1 Tryz.underlying50 hi0 hz0 hz1 hz2 rfl (by omega) (.slice (some ⟨w.heap.size,0,none⟩) 0 0) 0 [] rfl hown0 w.heap.size A n cap (u8s xs) rfl (hr.below hb0) (u8s_one xs) (by simp only[maxLen];omega) (by omega) hb0.size ?_
              intro v2 w2 hown2 hg2 hat2)
 clear hv0 hs01 hs08
 simp only[Nat.zero_add,List.nil_append]at hown2
 have hb2:=hb0.grown hg2 hb0.size (by intro k hk;simp[Value.ownBlock]at hk;omega)
 clear hg2 hat2 hb0 hown0 hr
 obtain⟨A2,c2,rfl⟩:=own_form hown2
 go_loopw [8,9,10] (LowRel xs v s w (.slice A2 n c2)) (fun _ _ i _=>s-(intOf i).toNat)
 case atStart=>exact⟨0,0,none,Nat.zero_le _,rfl,by simp,rfl,World.ownsRow_nil _ _ _ _,by rw[HL.out];exact hown2,by
  rcases hown2.2 with ⟨h,_⟩|⟨g,c,cur,h,_⟩
  ·rw[h];exact .inl rfl
  ·rw[h];exact .inr (by simp[Value.ownBlock]),hb2⟩
 case round=>
  obtain⟨k,c3,A3,hk,rfl,rfl,rfl,hlow,hout,hap,hbel⟩:=hrel
  by_cases hlt:k<s
  ·obtain⟨q,hq⟩:∃q:Nat,q=v/256^k:=⟨_,rfl⟩
   have hqb:q≤9223372036854775807:=by have:=Nat.div_le_self v (256^k);omega
   rw[←hq]
   obtain⟨b,hb2⟩:∃b:UInt8,b=UInt8.ofNat (q%256):=⟨_,rfl⟩
   have hq2:(q:Int)%256=(b.toNat:Int):=by rw[hb2];exact u8_ofNat_int q
   have hq3:(b.toNat:Int)%256=(b.toNat:Int):=by have:=b.toNat_lt;omega
   obtain⟨q2,hq5⟩:∃q2:Nat,q2=q/256:=⟨_,rfl⟩
   have hq4:(q:Int)/256=(q2:Int):=by omega
   have HQ2:=Lib.hid hq5
   have HQ:=Lib.hid hq
   have HB:=Lib.hid hb2
   clear hq hb2 hq5 hown2
   go_wp2_with (at_builtin;refine wpList_append_any _ rfl (.tmp 32) (.tmp 36) _ rfl w.heap.size 5 i0 _ 1 1 Tryz.underlying50 hi0 hz0 hz1 hz2 rfl (by omega) (.slice A3 k c3) k _ rfl (hlow.alloc _) (wr.heap.size+1) (some ⟨wr.heap.size,0,none⟩) 1 1 _ rfl (new_byte wr b) (by simp[Value.oneCell']) (by simp only[maxLen];omega) (by omega) (by simp;have:=hbel.size;omega) ?_
                intro v3 w3 hown3 hg3 hat3)
   have hrel2:=Lib.hid (LowRel.step (s:=s) (by omega) HQ.out HQ2.out HB.out hlow hout hap hbel hown3 hg3 hat3)
   clear hown3 hg3 hat3 hbel hlow hout hap
   go_wp2
   go_roundw
   case rel=>exact hrel2.out
   case measure=>simp[intOf];omega
  ·obtain rfl:k=s:=by omega
   by_cases hbig:256^k≤v
   ·have hpos:0<v/256^k:=Nat.div_pos hbig (Nat.pow_pos (by omega))
    obtain⟨q,hq⟩:∃q:Nat,q=v/256^k:=⟨_,rfl⟩
    rw[←hq]at hpos ⊢
    clear hq
    have HB:=Lib.hid hbig
    clear hbig hown2
    go_wp2
    go_ret
    unfold putN
    rw[if_pos (by right;right;right;exact HB.out)]
    exact Own8.mk hout hbel
   ·have hz:v/256^k=0:=Nat.div_eq_of_lt (by omega)
    rw[show ((v/256^k:Nat):Int)=0 from by rw[hz];rfl]
    have HB:=Lib.hid hbig
    clear hbig hz hown2
    go_wp2
    have hst:=Put2Rel.start hs1 hlow hout HL.out.symm hap hbel
    clear hlow hout hap
    obtain⟨wo,rfl⟩:∃wo:World,wo=wr:=⟨_,rfl⟩
    go_loopw [7,11] (Put2Rel xs v k w (.slice A3 k c3)) (fun _ k _=>(intOf k+1).toNat)
    case atStart=>exact hst
    case round=>
     obtain⟨⟨j,n2,c2',A2',hj,rfl,rfl,hn2,hown,hbel'⟩,hap,hlow⟩:=hrel
     have hn3:n2≤n+8:=by have:=HL.out;omega
     rcases j with _|j
     ·go_wp2
      go_ret
      unfold putN
      rw[if_neg (by intro hh;rcases hh with hh|hh|hh|hh<;>first|omega|exact HB.out hh)]
      exact PutRel.end_ hown hbel'
     ·obtain⟨b,hb2⟩:∃b:UInt8,b=UInt8.ofNat (v/256^j%256):=⟨_,rfl⟩
      obtain⟨ad,u,rfl,_,hu,hcell⟩:=(Reads.of_own hlow).at_ (k:=j) (by omega)
      obtain⟨hjl,rfl⟩:=u8s_get hu
      have e1:(leL v k)[j]=b:=by
       have:=leL_get v k j (by omega)
       rw[List.getElem?_eq_getElem hjl]at this
       rw[hb2]
       exact Option.some.inj this
      rw[e1]at hcell
      have HB2:=Lib.hid hb2
      clear hb2 hu e1 hjl
      go_wp2_with (at_builtin;refine wpList_append_any _ rfl (.tmp 49) (.tmp 54) _ rfl w.heap.size 5 i0 _ 1 1 Tryz.underlying50 hi0 hz0 hz1 hz2 rfl (by omega) (.slice A2' n2 c2') n2 _ rfl (hown.alloc _) (wr.heap.size+1) (some ⟨wr.heap.size,0,none⟩) 1 1 _ rfl (new_byte wr b) (by simp[Value.oneCell']) (by simp only[maxLen];omega) (by omega) (by simp;have:=hbel'.size;omega) ?_
                   intro v3 w3 hown3 hg3 hat3)
      have hrel2:=Lib.hid (Put2Rel.step (by omega) (by omega) HB2.out hlow hown hap hbel' hown3 hg3 hat3)
      clear hown3 hg3 hat3 hbel' hlow hown hap
      go_wp2
      exact⟨hrel2.out,by simp[intOf]⟩
theorem putNumR_any (xs:List UInt8) (A:Option Addr) (n cap:Nat) (v s:Int) (w:World) (hr:Reads w w.heap.size 1 A n (u8s xs)) (hn:n≤140737488354000) (hv:v≤9223372036854775807):
 Calls Tryz.prog 54 #[.slice A n cap,.int .i64 v,.int .i64 s] w (Own8 (putN xs v s) w):=by
 by_cases h:v<0∨s<1∨8<s
 ·unfold putN
  rw[if_pos (by omega)]
  exact putNumR_no xs A n cap v s w hr hn h
 ·obtain⟨v,rfl⟩:=Int.eq_ofNat_of_zero_le (a:=v) (by omega)
  obtain⟨s,rfl⟩:=Int.eq_ofNat_of_zero_le (a:=s) (by omega)
  exact putNumR_in xs A n cap v s w hr hn (by omega) (by omega) (by omega)
end Go.Proofs.YtpkeacnacjnlcaaGreat
