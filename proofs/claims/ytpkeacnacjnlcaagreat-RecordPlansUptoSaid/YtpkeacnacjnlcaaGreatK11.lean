/- merestoneref01.PutNum: the walk; plan.Corner, plan.Find, plan.Left: the walks; plan.owned, plan.ID, and the document's Owner, ID: the walks. -/
import Derived.Carry
import Derived.Laws.IdiomCopy
import Derived.Laws.IdiomStrings
import Derived.Lib.EndianMore
import Derived.Maps.RangeRun
import Derived.WideKeyRuns
import Derived.Test.YtpkeacnacjnlcaaGreatK09
import Derived.Test.YtpkeacnacjnlcaaGreatK10
namespace Go.Proofs.YtpkeacnacjnlcaaGreat
open Go.RowKit
/-- The low bytes first. -/
def leL (v k:Nat):List UInt8:=(List.range k).map fun i=>UInt8.ofNat (v/256^i%256)
theorem leL_succ (v k:Nat):leL v (k+1)=leL v k++[UInt8.ofNat (v/256^k%256)]:=by simp[leL,List.range_succ]
theorem leL_get (v k j:Nat) (h:j<k):(leL v k)[j]?=some (UInt8.ofNat (v/256^j%256)):=by simp[leL,h]
def Apart8 (a b:Value):Prop:=a.ownBlock=none∨a.ownBlock≠b.ownBlock
/-- What stands at the first loop's head. -/
def LowRel (xs:List UInt8) (v s:Nat) (w:World) (out:Value) (low x i:Value) (wr:World):Prop:=
 ∃(k c3:Nat) (A3:Option Addr),k≤s∧i= .int .i64 (k:Int)∧x= .int .i64 ((v/256^k:Nat):Int)∧low= .slice A3 k c3∧wr.ownsRow w.heap.size 5 1 (.slice A3 k c3) k (u8s (leL v k))∧
  wr.ownsRow w.heap.size 5 1 out xs.length (u8s xs)∧Apart8 out (.slice A3 k c3)∧Below w.heap.size w wr
theorem LowRel.step {xs:List UInt8} {v s k q q2:Nat} {w wr w2:World} {b:UInt8} {out low v2:Value} (hk:k+1≤s) (hq:q=v/256^k) (hq2:q2=q/256) (hb:b=UInt8.ofNat (q%256))
 (hlow:wr.ownsRow w.heap.size 5 1 low k (u8s (leL v k))) (hout:wr.ownsRow w.heap.size 5 1 out xs.length (u8s xs)) (hap:Apart8 out low) (hbel:Below w.heap.size w wr) {o:Obj}
 (ho:w2.ownsRow w.heap.size 5 1 v2 (k+1) (u8s (leL v k)++[.int .u8 (b.toNat:Int)])) (hg:(wr.alloc o).grownBy w2 low.ownBlock) (hat:v2.ownBlock=low.ownBlock∨v2.ownBlock=some (wr.alloc o).heap.size):
 LowRel xs v s w out v2 (.int .i64 (q2:Int)) (.int .i64 ((k:Int)+1)) w2:=by
 obtain⟨A,c,rfl⟩:=own_form ho
 refine⟨k+1,c,A,hk,by go_num,?_,rfl,?_,?_,?_,?_⟩
 ·rw[hq2,hq,Nat.div_div_eq_div_mul,←Nat.pow_succ]
 ·rw[leL_succ,u8s_append,←hq,←hb];exact ho
 ·exact(hout.alloc o).kept hg hap
 ·rcases hap with h0|hne
  ·exact .inl h0
  ·right
   rcases hat with h|h
   ·rw[h];exact hne
   ·rw[h]
    intro he
    have:=(hout.lt _ he).2
    simp at this
    omega
 ·exact(hbel.alloc hbel.size o).grown hg (by simp;have:=hbel.size;omega) (fun k hk=>(hlow.lt k hk).1)
/-- What stands at the second loop's head. -/
def Put2Rel (xs:List UInt8) (v s:Nat) (w:World) (low:Value) (out k:Value) (wr:World):Prop:=PutRel xs v s w out k wr∧Apart8 low out∧wr.ownsRow w.heap.size 5 1 low s (u8s (leL v s))
theorem Put2Rel.step {xs:List UInt8} {v s j n2:Nat} {w wr w2:World} {b:UInt8} {out low v2:Value} (hj:j+1≤s) (hs:s≤8) (hb:b=UInt8.ofNat (v/256^j%256))
 (hlow:wr.ownsRow w.heap.size 5 1 low s (u8s (leL v s))) (hout:wr.ownsRow w.heap.size 5 1 out n2 (u8s (xs++beB (v/256^(j+1)) (s-(j+1))))) (hap:Apart8 low out) (hbel:Below w.heap.size w wr) {o:Obj}
 (ho:w2.ownsRow w.heap.size 5 1 v2 (n2+1) (u8s (xs++beB (v/256^(j+1)) (s-(j+1)))++[.int .u8 (b.toNat:Int)])) (hg:(wr.alloc o).grownBy w2 out.ownBlock) (hat:v2.ownBlock=out.ownBlock∨v2.ownBlock=some (wr.alloc o).heap.size):
 Put2Rel xs v s w low v2 (.int .i64 ((j:Int)-1)) w2:=by
 refine⟨PutRel.step hj hs hb ho ?_,?_,(hlow.alloc o).kept hg hap⟩
 ·exact(hbel.alloc hbel.size o).grown hg (by simp;have:=hbel.size;omega) (fun k hk=>(hout.lt k hk).1)
 ·rcases hap with h0|hne
  ·exact .inl h0
  ·right
   rcases hat with h|h
   ·rw[h];exact hne
   ·rw[h]
    intro he
    have:=(hlow.lt _ he).2
    simp at this
    omega
/-- The first loop is done: the second one's relation. -/
theorem Put2Rel.start {xs:List UInt8} {v s c3 n c:Nat} {A3 A:Option Addr} {w wr:World} (hs:1≤s) (hlow:wr.ownsRow w.heap.size 5 1 (.slice A3 s c3) s (u8s (leL v s)))
 (hout:wr.ownsRow w.heap.size 5 1 (.slice A n c) xs.length (u8s xs)) (hn:n=xs.length) (hap:Apart8 (.slice A n c) (.slice A3 s c3)) (hb:Below w.heap.size w wr):
 Put2Rel xs v s w (.slice A3 s c3) (.slice A n c) (.int .i64 ((s:Int)-1)) wr:=by
 subst hn
 refine⟨PutRel.start hout rfl hb,?_,hlow⟩
 right
 rcases hap with h0|hne
 ·rw[h0]
  rcases hlow.2 with ⟨_,h⟩|⟨g,cc,cur,h,_⟩
  ·omega
  ·rw[h];simp[Value.ownBlock]
 ·exact fun h=>hne h.symm
set_option maxHeartbeats 400000 in
theorem putNumR_no (xs:List UInt8) (A:Option Addr) (n cap:Nat) (v size:Int) (w:World) (hr:Reads w w.heap.size 1 A n (u8s xs)) (hn:n≤140737488354000) (h:v<0∨size<1∨8<size):
 Calls Tryz.prog 54 #[.slice A n cap,.int .i64 v,.int .i64 size] w (Own8 xs w):=by
 obtain⟨i0,hi0,hz0,hz1,hz2⟩:=info_parts info_u8
 have hl:=hr.len8
 have hown0:=World.ownsRow_made (base:=w.heap.size) (e:=5) (size:=1) w #[] 0 (Nat.le_refl _) (by simp[maxLen]) rfl
 have hb0:Below w.heap.size w (w.alloc (.cells #[] 5)):=(Below.refl _ _).alloc (Nat.le_refl _) _
 have hc:v<0∨(0≤v∧size<1)∨(0≤v∧1≤size∧8<size):=by omega
 clear h
 rcases hc with h1|⟨h1,h2⟩|⟨h1,h2,h3⟩
 all_goals
  go_enter Tryz.func54,Tryz.ntmps54
  go_wp2_with (at_builtin;refine wpList_append_any _ rfl (.tmp 12) (.tmp 13) _ rfl w.heap.size 5 i0 _ 1 1 Tryz.underlying50 hi0 hz0 hz1 hz2 rfl (by omega) (.slice (some ⟨w.heap.size,0,none⟩) 0 0) 0 [] rfl hown0 w.heap.size A n cap (u8s xs) rfl (hr.below hb0) (u8s_one xs) (by simp only[maxLen];omega) (by omega) hb0.size ?_
               intro v2 w2 hown2 hg2 hat2)
  go_ret
  simp only[Nat.zero_add,List.nil_append]at hown2
  exact Own8.mk hown2 (hb0.grown hg2 hb0.size (by intro k hk;simp[Value.ownBlock]at hk;omega))
set_option maxHeartbeats 800000 in
theorem putNumR_in (xs:List UInt8) (A:Option Addr) (n cap:Nat) (v s:Nat) (w:World) (hr:Reads w w.heap.size 1 A n (u8s xs)) (hn:n≤140737488354000) (hs1:1≤s) (hs2:s≤8) (hv:v≤9223372036854775807):
 Calls Tryz.prog 54 #[.slice A n cap,.int .i64 v,.int .i64 s] w (Own8 (putN xs v s) w):=by
 obtain⟨i0,hi0,hz0,hz1,hz2⟩:=info_parts info_u8
 have hl:=hr.len8
 have hown0:=World.ownsRow_made (base:=w.heap.size) (e:=5) (size:=1) w #[] 0 (Nat.le_refl _) (by simp[maxLen]) rfl
 have hb0:Below w.heap.size w (w.alloc (.cells #[] 5)):=(Below.refl _ _).alloc (Nat.le_refl _) _
 have hv0:decide ((v:Int)<0)=false:=by simp
 have hs01:decide ((s:Int)<1)=false:=by simp;omega
 have hs08:decide (8<(s:Int))=false:=by simp;omega
 go_enter Tryz.func54,Tryz.ntmps54
 have HL:=Lib.hid hl
 clear hl
 go_wp2_with (at_builtin;refine wpList_append_any _ rfl (.tmp 12) (.tmp 13) _ rfl w.heap.size 5 i0 _ 1 1 Tryz.underlying50 hi0 hz0 hz1 hz2 rfl (by omega) (.slice (some ⟨w.heap.size,0,none⟩) 0 0) 0 [] rfl hown0 w.heap.size A n cap (u8s xs) rfl (hr.below hb0) (u8s_one xs) (by simp only[maxLen];omega) (by omega) hb0.size ?_
              intro v2 w2 hown2 hg2 hat2)
 clear hv0 hs01 hs08
 simp only[Nat.zero_add,List.nil_append]at hown2
 have hb2:=hb0.grown hg2 hb0.size (by intro k hk;simp[Value.ownBlock]at hk;omega)
 clear hg2 hat2 hb0 hown0 hr
 obtain⟨A2,c2,rfl⟩:=own_form hown2
 go_loopw [8,9,10] (LowRel xs v s w (.slice A2 n c2)) (fun _ _ i _=>s-(intOf i).toNat)
 case atStart=>exact⟨0,0,none,Nat.zero_le _,rfl,by simp,rfl,World.ownsRow_nil _ _ _ _,by rw[HL.out];exact hown2,by
  rcases hown2.2 with ⟨h,_⟩|⟨g,c,cur,h,_⟩
  ·rw[h];exact .inl rfl
  ·rw[h];exact .inr (by simp[Value.ownBlock]),hb2⟩
 case round=>
  obtain⟨k,c3,A3,hk,rfl,rfl,rfl,hlow,hout,hap,hbel⟩:=hrel
  by_cases hlt:k<s
  ·obtain⟨q,hq⟩:∃q:Nat,q=v/256^k:=⟨_,rfl⟩
   have hqb:q≤9223372036854775807:=by have:=Nat.div_le_self v (256^k);omega
   rw[←hq]
   obtain⟨b,hb2⟩:∃b:UInt8,b=UInt8.ofNat (q%256):=⟨_,rfl⟩
   have hq2:(q:Int)%256=(b.toNat:Int):=by rw[hb2];exact u8_ofNat_int q
   have hq3:(b.toNat:Int)%256=(b.toNat:Int):=by have:=b.toNat_lt;omega
   obtain⟨q2,hq5⟩:∃q2:Nat,q2=q/256:=⟨_,rfl⟩
   have hq4:(q:Int)/256=(q2:Int):=by omega
   have HQ2:=Lib.hid hq5
   have HQ:=Lib.hid hq
   have HB:=Lib.hid hb2
   clear hq hb2 hq5 hown2
   go_wp2_with (at_builtin;refine wpList_append_any _ rfl (.tmp 32) (.tmp 36) _ rfl w.heap.size 5 i0 _ 1 1 Tryz.underlying50 hi0 hz0 hz1 hz2 rfl (by omega) (.slice A3 k c3) k _ rfl (hlow.alloc _) (wr.heap.size+1) (some ⟨wr.heap.size,0,none⟩) 1 1 _ rfl (new_byte wr b) (by simp[Value.oneCell']) (by simp only[maxLen];omega) (by omega) (by simp;have:=hbel.size;omega) ?_
                intro v3 w3 hown3 hg3 hat3)
   have hrel2:=Lib.hid (LowRel.step (s:=s) (by omega) HQ.out HQ2.out HB.out hlow hout hap hbel hown3 hg3 hat3)
   clear hown3 hg3 hat3 hbel hlow hout hap
   go_wp2
   go_roundw
   case rel=>exact hrel2.out
   case measure=>simp[intOf];omega
  ·obtain rfl:k=s:=by omega
   by_cases hbig:256^k≤v
   ·have hpos:0<v/256^k:=Nat.div_pos hbig (Nat.pow_pos (by omega))
    obtain⟨q,hq⟩:∃q:Nat,q=v/256^k:=⟨_,rfl⟩
    rw[←hq]at hpos ⊢
    clear hq
    have HB:=Lib.hid hbig
    clear hbig hown2
    go_wp2
    go_ret
    unfold putN
    rw[if_pos (by right;right;right;exact HB.out)]
    exact Own8.mk hout hbel
   ·have hz:v/256^k=0:=Nat.div_eq_of_lt (by omega)
    rw[show ((v/256^k:Nat):Int)=0 from by rw[hz];rfl]
    have HB:=Lib.hid hbig
    clear hbig hz hown2
    go_wp2
    have hst:=Put2Rel.start hs1 hlow hout HL.out.symm hap hbel
    clear hlow hout hap
    obtain⟨wo,rfl⟩:∃wo:World,wo=wr:=⟨_,rfl⟩
    go_loopw [7,11] (Put2Rel xs v k w (.slice A3 k c3)) (fun _ k _=>(intOf k+1).toNat)
    case atStart=>exact hst
    case round=>
     obtain⟨⟨j,n2,c2',A2',hj,rfl,rfl,hn2,hown,hbel'⟩,hap,hlow⟩:=hrel
     have hn3:n2≤n+8:=by have:=HL.out;omega
     rcases j with _|j
     ·go_wp2
      go_ret
      unfold putN
      rw[if_neg (by intro hh;rcases hh with hh|hh|hh|hh<;>first|omega|exact HB.out hh)]
      exact PutRel.end_ hown hbel'
     ·obtain⟨b,hb2⟩:∃b:UInt8,b=UInt8.ofNat (v/256^j%256):=⟨_,rfl⟩
      obtain⟨ad,u,rfl,_,hu,hcell⟩:=(Reads.of_own hlow).at_ (k:=j) (by omega)
      obtain⟨hjl,rfl⟩:=u8s_get hu
      have e1:(leL v k)[j]=b:=by
       have:=leL_get v k j (by omega)
       rw[List.getElem?_eq_getElem hjl]at this
       rw[hb2]
       exact Option.some.inj this
      rw[e1]at hcell
      have HB2:=Lib.hid hb2
      clear hb2 hu e1 hjl
      go_wp2_with (at_builtin;refine wpList_append_any _ rfl (.tmp 49) (.tmp 54) _ rfl w.heap.size 5 i0 _ 1 1 Tryz.underlying50 hi0 hz0 hz1 hz2 rfl (by omega) (.slice A2' n2 c2') n2 _ rfl (hown.alloc _) (wr.heap.size+1) (some ⟨wr.heap.size,0,none⟩) 1 1 _ rfl (new_byte wr b) (by simp[Value.oneCell']) (by simp only[maxLen];omega) (by omega) (by simp;have:=hbel'.size;omega) ?_
                   intro v3 w3 hown3 hg3 hat3)
      have hrel2:=Lib.hid (Put2Rel.step (by omega) (by omega) HB2.out hlow hown hap hbel' hown3 hg3 hat3)
      clear hown3 hg3 hat3 hbel' hlow hown hap
      go_wp2
      exact⟨hrel2.out,by simp[intOf]⟩
theorem putNumR_any (xs:List UInt8) (A:Option Addr) (n cap:Nat) (v s:Int) (w:World) (hr:Reads w w.heap.size 1 A n (u8s xs)) (hn:n≤140737488354000) (hv:v≤9223372036854775807):
 Calls Tryz.prog 54 #[.slice A n cap,.int .i64 v,.int .i64 s] w (Own8 (putN xs v s) w):=by
 by_cases h:v<0∨s<1∨8<s
 ·unfold putN
  rw[if_pos (by omega)]
  exact putNumR_no xs A n cap v s w hr hn h
 ·obtain⟨v,rfl⟩:=Int.eq_ofNat_of_zero_le (a:=v) (by omega)
  obtain⟨s,rfl⟩:=Int.eq_ofNat_of_zero_le (a:=s) (by omega)
  exact putNumR_in xs A n cap v s w hr hn (by omega) (by omega) (by omega)
theorem planE_b0 {p:Plan} (h:planB p=false):planE p=2:=by unfold planE;rw[h];rfl
theorem planE_b1 {p:Plan} (h:planB p=true):planE p=0:=by unfold planE;rw[h];rfl
theorem planB_sound {p:Plan} (h:planB p=true):SoundP p:=by unfold planB at h;simpa using h
theorem idP_any (n:Int) (w:World):
 Calls Tryz.prog 103 #[.int .i64 n] w fun e w'=>e= .returned (.bool (idB n))∧w=w':=by
 unfold idB
 rcases Int.lt_or_le n 1 with h1|h1
 ·have hd:decide (1≤n∧n≤1073741824)=false:=by rw[decide_eq_false_iff_not];omega
  rw[hd]
  clear hd
  go_enter Tryz.func103,Tryz.ntmps103
  go_wp2_with fail
  go_ret
  exact⟨rfl,rfl⟩
 ·by_cases h2:n≤1073741824
  ·have hd:decide (1≤n∧n≤1073741824)=true:=by rw[decide_eq_true_iff];omega
   rw[hd]
   clear hd
   go_enter Tryz.func103,Tryz.ntmps103
   go_wp2_with fail
   go_ret
   exact⟨rfl,rfl⟩
  ·have hd:decide (1≤n∧n≤1073741824)=false:=by rw[decide_eq_false_iff_not];omega
   rw[hd]
   clear hd
   go_enter Tryz.func103,Tryz.ntmps103
   go_wp2_with fail
   go_ret
   exact⟨rfl,rfl⟩
theorem idR_any (n:Int) (w:World):
 Calls Tryz.prog 78 #[.int .i64 n] w fun e w'=>e= .returned (.bool (idB n))∧w=w':=by
 unfold idB
 rcases Int.lt_or_le n 1 with h1|h1
 ·have hd:decide (1≤n∧n≤1073741824)=false:=by rw[decide_eq_false_iff_not];omega
  rw[hd]
  clear hd
  go_enter Tryz.func78,Tryz.ntmps78
  go_wp2_with fail
  go_ret
  exact⟨rfl,rfl⟩
 ·by_cases h2:n≤1073741824
  ·have hd:decide (1≤n∧n≤1073741824)=true:=by rw[decide_eq_true_iff];omega
   rw[hd]
   clear hd
   go_enter Tryz.func78,Tryz.ntmps78
   go_wp2_with fail
   go_ret
   exact⟨rfl,rfl⟩
  ·have hd:decide (1≤n∧n≤1073741824)=false:=by rw[decide_eq_false_iff_not];omega
   rw[hd]
   clear hd
   go_enter Tryz.func78,Tryz.ntmps78
   go_wp2_with fail
   go_ret
   exact⟨rfl,rfl⟩
def badB (c:UInt8):Bool:=decide (c.toNat<32)||decide (126<c.toNat)
def chs (l:List UInt8):List Value:=l.map fun b=> .int .u8 (b.toNat:Int)
theorem chs_len (l:List UInt8):(chs l).length=l.length:=by simp[chs]
theorem Reads.chr {W:World} {B n:Nat} {A:Option Addr} {l:List UInt8} (h:Reads W B 1 A n (chs l)) {k:Nat} (hk:k<n):∃ad,A=some ad∧∃hl:k<l.length,W.cell? (ad.add k)=some (.int .u8 ((l[k]'hl).toNat:Int)):=by
 obtain⟨ad,u,e,-,hu,hc⟩:=h.at_ hk
 have hl:k<l.length:=by have:=(List.getElem?_eq_some_iff.1 hu).1;rw[chs_len]at this;exact this
 refine⟨ad,e,hl,?_⟩
 rw[hc,←hu]
 simp[chs,hl]
theorem ownc_any (c:Nat) (hc:c≤255) (w:World):
 Calls Tryz.prog 176 #[.int .u8 (c:Int)] w fun e w'=>e= .returned (.bool (decide (c<32)||decide (126<c)))∧w=w':=by
 rcases Nat.lt_or_ge c 32 with h1|h1
 ·have h2:(c:Int)<32:=by omega
  rw[decide_eq_true h1]
  go_enter Tryz.func176,Tryz.ntmps176
  go_wp2_with fail
  go_ret
  exact⟨rfl,rfl⟩
 ·rw[decide_eq_false (by omega:¬c<32)]
  by_cases h3:126<c
  ·have h4:(126:Int)<(c:Int):=by omega
   have h5:¬(c:Int)<32:=by omega
   rw[decide_eq_true h3]
   clear h3
   go_enter Tryz.func176,Tryz.ntmps176
   go_wp2_with fail
   go_ret
   exact⟨rfl,rfl⟩
  ·have h4:¬(126:Int)<(c:Int):=by omega
   have h5:¬(c:Int)<32:=by omega
   rw[decide_eq_false h3]
   clear h3
   go_enter Tryz.func176,Tryz.ntmps176
   go_wp2_with fail
   go_ret
   exact⟨rfl,rfl⟩
theorem indexByte_any (l:List UInt8) (A:Option Addr) (n cap B:Nat) (w:World) (hr:Reads w B 1 A n (chs l)) (hn:n≤8796093022208):
 Calls Tryz.prog 194 #[.slice A n cap,.func (.func 176) #[] #[]] w fun e w'=>∃i:Int,e= .returned (.int .i64 i)∧(l.any badB=decide (0≤i))∧w=w':=by
 have hl:l.length=n:=by have:=hr.1;rw[chs_len]at this;omega
 go_enter Tryz.func194,Tryz.ntmps194
 go_wp2_with fail
 go_loopw [8] (fun i wr=>∃k:Nat,k≤n∧i= .int .i64 (k:Int)∧Hid ((l.take k).any badB=false)∧w=wr) (fun i _=>n-(intOf i).toNat)
 case atStart=>exact⟨0,Nat.zero_le _,rfl,(show _=_ by simp),rfl⟩
 case round=>
  obtain⟨k,hk,rfl,HA,rfl⟩:=hrel
  by_cases hlt:k<n
  ·have hlt':(k:Int)<(n:Int):=by omega
   have hw1:IntKind.i64.wrap ((k:Int)+1)=(k:Int)+1:=by rw[IntKind.wrap_i64];omega
   obtain⟨ad,rfl,hkl,hcell⟩:=hr.chr hlt
   have HC:Hid ((l.take (k+1)).any badB=badB l[k]):=by
    show _=_
    rw[List.take_succ_eq_append_getElem hkl,List.any_append,HA.out]
    simp
   have HD:Hid (badB l[k]=true→l.any badB=true):=fun h=>List.any_eq_true.2 ⟨_,List.getElem_mem hkl,h⟩
   obtain⟨c,hc⟩:∃c,c=l[k]:=⟨_,rfl⟩
   rw[←hc]at hcell HC HD
   have hc255:c.toNat≤255:=by have:=c.toNat_lt;omega
   have kP:=fun V=>ownc_any c.toNat hc255 V
   have HP:Hid (badB c=(decide (c.toNat<32)||decide (126<c.toNat))):=rfl
   clear hc hr
   generalize (decide (c.toNat<32)||decide (126<c.toNat))=b at kP HP
   generalize c.toNat=m at *
   rcases b with _|_
   ·go_wp2_with (go_at_call 176;(with_reducible refine(kP _).mono ?_);rintro e w' ⟨rfl,rfl⟩)
    go_roundw
    case rel=>exact⟨k+1,by omega,by go_num,by rw[HC.out];exact HP.out,by first|rfl|trivial⟩
    case measure=>simp[intOf];omega
   ·go_wp2_with (go_at_call 176;(with_reducible refine(kP _).mono ?_);rintro e w' ⟨rfl,rfl⟩)
    go_ret
    exact⟨k,rfl,by rw[HD.out HP.out];simp,rfl⟩
  ·have hkn:k=n:=by omega
   subst hkn
   go_wp2_with fail
   go_ret
   exact⟨-1,rfl,by have:=HA.out;rw[List.take_of_length_le (by omega)]at this;rw[this];rfl,rfl⟩
theorem containsByte_any (l:List UInt8) (A:Option Addr) (n cap B:Nat) (w:World) (hr:Reads w B 1 A n (chs l)) (hn:n≤8796093022208):
 Calls Tryz.prog 175 #[.slice A n cap,.func (.func 176) #[] #[]] w fun e w'=>e= .returned (.bool (l.any badB))∧w=w':=by
 have HK:=Lib.hid (indexByte_any l A n cap B w hr hn)
 clear hr
 go_enter Tryz.func175,Tryz.ntmps175
 go_wp2_with fail
 refine HK.out.mono ?_
 rintro e w1 ⟨i,rfl,hi,rfl⟩
 have HI:=Lib.hid hi
 clear hi HK
 go_wp2_with fail
 go_ret
 exact⟨by rw[HI.out];rfl,rfl⟩
theorem ownB_iff (s:ByteArray):ownB s=(decide (s.size≤32)&&!(s.data.toList.any badB)):=by
 unfold ownB
 congr 1
 rw[Bool.eq_iff_iff]
 simp only[List.all_eq_true,decide_eq_true_eq,Bool.not_eq_true',List.any_eq_false]
 constructor
 ·intro h x hx
  have:=h x hx
  unfold badB
  simp
  omega
 ·intro h x hx
  have:=h x hx
  unfold badB at this
  simp at this
  omega
theorem owned_any (s:ByteArray) (w:World):
 Calls Tryz.prog 140 #[.string s] w fun e w'=>e= .returned (.bool (ownB s))∧Below w.heap.size w w':=by
 rw[ownB_iff]
 by_cases h:s.size≤32
 ·have h':(s.size:Int)≤32:=by omega
  rw[decide_eq_true h]
  have hcv:=fun V=>run_bytes_of_string V 9 50 5 s Tryz.underlying9 Tryz.underlying50 Tryz.underlying5
  have hr:Reads (w.drew.alloc (.cells (bytesRow s (grownCap w s.size 0 5)) 5 ((bytesRow s (grownCap w s.size 0 5)).size,(bytesRow s (grownCap w s.size 0 5)).size+1))) (w.heap.size+1) 1 (some ⟨w.heap.size,0,none⟩) s.size (chs s.data.toList):=by
   refine⟨(chs_len _).trans ((Array.length_toList).trans (Nat.mul_one _).symm),fun _=>⟨_,rfl,by simp,fun j u hu=>?_⟩⟩
   have hj:j<s.data.size:=by have:=(List.getElem?_eq_some_iff.1 hu).1;rw[chs_len]at this;simpa using this
   have hc:=cell_of_row (w.drew.alloc (.cells (bytesRow s (grownCap w s.size 0 5)) 5 ((bytesRow s (grownCap w s.size 0 5)).size,(bytesRow s (grownCap w s.size 0 5)).size+1))) w.heap.size j _ _ _ (heap_alloc_new w.drew _)
   rw[add_row,hc,←hu]
   unfold bytesRow chs
   rw[Array.getElem?_append_left (by simpa using hj)]
   simp
  have HK:=Lib.hid (containsByte_any s.data.toList _ s.size (grownCap w s.size 0 5) _ _ hr (by omega))
  have HB:Hid (Below w.heap.size w (w.drew.alloc (.cells (bytesRow s (grownCap w s.size 0 5)) 5 ((bytesRow s (grownCap w s.size 0 5)).size,(bytesRow s (grownCap w s.size 0 5)).size+1)))):=(Below.refl _ _).drew.alloc (Nat.le_refl _) _
  clear hr
  generalize s.data.toList.any badB=b at *
  go_enter Tryz.func140,Tryz.ntmps140
  go_wp2_with fail
  refine HK.out.mono ?_
  rintro e w1 ⟨rfl,rfl⟩
  rcases b with _|_
  all_goals
   go_wp2_with fail
   go_ret
   exact⟨rfl,HB.out⟩
 ·have h':¬(s.size:Int)≤32:=by omega
  rw[decide_eq_false h]
  go_enter Tryz.func140,Tryz.ntmps140
  go_wp2_with fail
  go_ret
  exact⟨rfl,Below.refl _ _⟩
theorem ownerR_any (s:ByteArray) (w:World) (hs:s.size≤9223372036854775807):
 Calls Tryz.prog 79 #[.string s] w fun e w'=>e= .returned (.bool (ownB s))∧w=w':=by
 have hsz:s.data.toList.length=s.size:=Array.length_toList
 go_enter Tryz.func79,Tryz.ntmps79
 go_wp2_with fail
 go_loopw [3] (fun i wr=>∃k:Nat,k≤s.size∧i= .int .i64 (k:Int)∧Hid ((s.data.toList.take k).any badB=false)∧w=wr) (fun i _=>s.size-(intOf i).toNat)
 case atStart=>exact⟨0,Nat.zero_le _,rfl,(show _=_ by simp),rfl⟩
 case round=>
  obtain⟨k,hk,rfl,HA,rfl⟩:=hrel
  by_cases hlt:k<s.size
  ·have hlt':(k:Int)<(s.size:Int):=by omega
   have hw1:IntKind.i64.wrap ((k:Int)+1)=(k:Int)+1:=by rw[IntKind.wrap_i64];omega
   have hix:∀W,Sem.run Tryz.prog (Instr.index 9 (.string s) (.int .i64 (k:Int))) W= .ok (.int .u8 ((s[k]'hlt).toNat:Int)) W:=fun W=>by
    rw[run_index_string W 9 s .i64 k Tryz.underlying9]
    simp[hlt]
   have hkl:k<s.data.toList.length:=by omega
   have hsk:s.data.toList[k]=s[k]:=rfl
   have HC:Hid ((s.data.toList.take (k+1)).any badB=badB s[k]):=by
    show _=_
    rw[List.take_succ_eq_append_getElem hkl,List.any_append,HA.out,hsk]
    simp
   have HD:Hid (badB s[k]=true→s.data.toList.any badB=true):=fun h=>List.any_eq_true.2 ⟨_,List.getElem_mem hkl,by rw[hsk];exact h⟩
   obtain⟨c,hc⟩:∃c,c=s[k]:=⟨_,rfl⟩
   rw[←hc]at hix HC HD
   clear hc hsk
   have HW:Hid (ownB s=(decide (s.size≤32)&&!(s.data.toList.any badB))):=ownB_iff s
   have HP:badB c=(decide (c.toNat<32)||decide (126<c.toNat)):=rfl
   rw[HP]at HC HD
   clear HP
   generalize c.toNat=m at *
   rcases Nat.lt_or_ge m 32 with g1|g1
   ·have g2:(m:Int)<32:=by omega
    have HX:Hid (s.data.toList.any badB=true):=HD.out (by simp[g1])
    clear HC HD
    go_wp2_with fail
    go_ret
    exact⟨by rw[HW.out,HX.out];simp,rfl⟩
   ·have g2:¬(m:Int)<32:=by omega
    by_cases g3:126<m
    ·have g4:(126:Int)<(m:Int):=by omega
     have HX:Hid (s.data.toList.any badB=true):=HD.out (by simp[g3])
     clear HC HD
     go_wp2_with fail
     go_ret
     exact⟨by rw[HW.out,HX.out];simp,rfl⟩
    ·have g4:¬(126:Int)<(m:Int):=by omega
     have HX:Hid ((s.data.toList.take (k+1)).any badB=false):=by
      show _=_
      rw[HC.out];simp;omega
     clear HC HD
     go_wp2_with fail
     go_roundw
     case rel=>exact⟨k+1,by omega,by go_num,HX.out,by first|rfl|trivial⟩
     case measure=>simp[intOf];omega
  ·have hkn:k=s.size:=by omega
   have HX:Hid (s.data.toList.any badB=false):=by
    have:=HA.out
    rw[List.take_of_length_le (by omega)]at this
    exact this
   have HW:Hid (ownB s=(decide (s.size≤32)&&!(s.data.toList.any badB))):=ownB_iff s
   clear HA
   subst hkn
   by_cases h32:(s.size:Int)≤32
   ·have h32':s.size≤32:=by omega
    go_wp2_with fail
    go_ret
    exact⟨by rw[HW.out,HX.out,decide_eq_true h32'];rfl,rfl⟩
   ·have h32':¬s.size≤32:=by omega
    go_wp2_with fail
    go_ret
    exact⟨by rw[HW.out,decide_eq_false h32'];rfl,rfl⟩
set_option maxRecDepth 100000 in
set_option maxHeartbeats 3200000 in
theorem listed_any (p:Plan) (A A':Option Addr) (n c n' c':Nat) (w:World) (h:PlanAt w w.heap.size A n c A' n' c' p):
 Calls Tryz.prog 88 #[planV A n c A' n' c'] w fun e w'=>e= .returned (.bool (listedB p))∧Below w.heap.size w w':=by
 obtain⟨hl1,hl2,hl3,hl4⟩:=h.lens
 have HP:=Lib.hid (And.intro h.parcs h.fits)
 have HL:Hid (listedB p=(listN n 0 p.parcels&&(decide (1≤n')&&(decide (n'≤64)&&decide (cornN n p.parcels≤1024))))):=by show _=_;unfold listedB;rw[hl1,hl2]
 have hK0:=PlK.new w A n c A' n' c'
 have hB0:=(Below.refl w.heap.size w).alloc (Nat.le_refl _) (.cells #[.slice A n c,.slice A' n' c'] 30)
 clear h
 obtain⟨ps,hps⟩:∃ps,ps=p.parcels:=⟨_,rfl⟩
 rw[←hps]at hl2 HP HL
 have hfx:∀k,k<n'→(pcAt ps k).fits:=fun k hk=>by
  have:=HP.out.2.pc (k:=k) (by rw[←hps];omega)
  rw[←hps]at this
  exact this
 have HF:=Lib.hid hfx
 clear hps hfx hl1
 have H0:=Lib.hid (And.intro hB0 hK0)
 obtain⟨q1,q2,-⟩:=hK0.facts
 clear hB0 hK0
 go_enter Tryz.func88,Tryz.ntmps88
 go_wp2_with fail
 obtain⟨wo,hwo⟩:∃wo:World,wo=w.alloc (.cells #[.slice A n c,.slice A' n' c'] 30):=⟨_,rfl⟩
 rw[←hwo]at H0 q1 q2
 try rw[←hwo]
 clear hwo q1 q2
 go_loopw [3,4,13] (fun s l i wr=>∃(k N:Nat) (last:Int),k≤n'∧i= .int .i64 (k:Int)∧s= .int .i64 (N:Int)∧l= .int .i64 last∧N≤8796093022208∧Hid (listN n 0 ps=listN N last (ps.drop k)∧cornN n ps=cornN N (ps.drop k))∧Below w.heap.size w wr∧PlK wr w.heap.size A n c A' n' c') (fun _ _ i _=>n'-(intOf i).toNat)
 case atStart=>exact⟨0,n,0,Nat.zero_le _,rfl,rfl,rfl,hl3,⟨rfl,rfl⟩,H0.out⟩
 case round=>
  clear H0
  obtain⟨k,N,last,hk,rfl,rfl,rfl,hN,HN,hbel,hK⟩:=hrel
  obtain⟨q1,q2,-⟩:=hK.facts
  by_cases hlt:k<n'
  ·have hlt':(k:Int)<(n':Int):=by omega
   have hw1:IntKind.i64.wrap ((k:Int)+1)=(k:Int)+1:=by rw[IntKind.wrap_i64];omega
   obtain⟨ad,rfl⟩:=HP.out.1.some_ (by omega)
   obtain⟨-,p1,⟨Ak,nk,ck,p2,hrk,-,-⟩,p3⟩:=(HP.out.1.below hbel).at_ hlt
   obtain⟨f1,-,f2,f3⟩:=HF.out k hlt
   have hrl:=hrk.lenPt
   have hdk:ps.drop k=pcAt ps k::ps.drop (k+1):=by rw[List.drop_eq_getElem_cons (by omega),pcAt_lt (by omega)]
   have hst:=HN.out
   rw[hdk,listN_cons,cornN_cons,hrl]at hst
   rw[hrl]at f1
   clear hdk HN hrk hrl
   obtain⟨x,hx⟩:∃x,x=pcAt ps k:=⟨_,rfl⟩
   rw[←hx]at p1 p3 hst f2 f3
   clear hx
   have kI:=fun V=>idP_any x.id V
   have kO:∀V,Calls Tryz.prog 140 #[.string x.owner] V fun e V'=>e= .returned (.bool (ownB x.owner))∧Below V.heap.size V V':=fun V=>owned_any x.owner V
   have hw2:IntKind.i64.wrap ((N:Int)+(nk:Int))=(N:Int)+(nk:Int):=by rw[IntKind.wrap_i64];omega
   have HPK:=Lib.hid (PcK.new wr x Ak nk ck)
   obtain⟨y1,y2,y3,-⟩:=HPK.out.facts
   have HB:=Lib.hid (And.intro (hbel.alloc hbel.size (.cells #[.int .i64 x.id,.slice Ak nk ck,.string x.owner] 27)) (hK.on ((Below.refl wr.heap.size wr).alloc (Nat.le_refl _) (.cells #[.int .i64 x.id,.slice Ak nk ck,.string x.owner] 27))))
   have hbs:=hbel.size
   clear hbel hK q1 f2 f3
   have HST:=Lib.hid hst
   clear hst
   generalize idB x.id=bi at *
   generalize ownB x.owner=bo at *
   have HX:Hid (∀b:Bool,(bi&&(decide (last<x.id)&&(bo&&(decide (N+nk≤1024)&&listN (N+nk) x.id (ps.drop (k+1))))))=false→listedB p=false):=fun b hb=>by rw[HL.out,HST.out.1,hb];rfl
   rcases bi with _|_
   ·have HZ:=HX.out false rfl
    have HZ:=Lib.hid HZ
    clear HX
    go_wp2_with (first
     |(go_at_call 103;(with_reducible refine(kI _).mono ?_);rintro e w' ⟨rfl,rfl⟩)
     |(go_at_call 140;(with_reducible refine(kO _).mono ?_);rintro e w' ⟨rfl,hb'⟩;obtain⟨z1,z2,z3,-⟩:=(PcK.on HPK.out hb').facts))
    go_ret
    exact⟨by rw[HZ.out];rfl,HB.out.1⟩
   ·rcases Int.lt_or_le last x.id with g1|g1
    ·have g2:¬x.id≤last:=by omega
     rw[decide_eq_true g1]at HX HST
     rcases bo with _|_
     ·have HZ:=Lib.hid (HX.out false rfl)
      clear HX
      go_wp2_with (first
      |(go_at_call 103;(with_reducible refine(kI _).mono ?_);rintro e w' ⟨rfl,rfl⟩)
      |(go_at_call 140;(with_reducible refine(kO _).mono ?_);rintro e w' ⟨rfl,hb'⟩;obtain⟨z1,z2,z3,-⟩:=(PcK.on HPK.out hb').facts))
      go_ret
      exact⟨by rw[HZ.out];rfl,below_on HB.out.1 (Nat.le_refl _) (by assumption)⟩
     ·rcases Nat.lt_or_ge 1024 (N+nk)with g3|g3
      ·have g4:(1024:Int)<(N:Int)+(nk:Int):=by omega
       have HZ:=Lib.hid (HX.out false (by rw[decide_eq_false (by omega:¬N+nk≤1024)];rfl))
       clear HX
       go_wp2_with (first
      |(go_at_call 103;(with_reducible refine(kI _).mono ?_);rintro e w' ⟨rfl,rfl⟩)
      |(go_at_call 140;(with_reducible refine(kO _).mono ?_);rintro e w' ⟨rfl,hb'⟩;obtain⟨z1,z2,z3,-⟩:=(PcK.on HPK.out hb').facts))
       go_ret
       exact⟨by rw[HZ.out];rfl,below_on HB.out.1 (Nat.le_refl _) (by assumption)⟩
      ·have g4:¬(1024:Int)<(N:Int)+(nk:Int):=by omega
       have HY:Hid (listN n 0 ps=listN (N+nk) x.id (ps.drop (k+1))∧cornN n ps=cornN (N+nk) (ps.drop (k+1))):=by
        have:=HST.out
        rw[decide_eq_true g3]at this
        show _∧_
        simpa using this
       clear HX HST
       go_wp2_with (first
      |(go_at_call 103;(with_reducible refine(kI _).mono ?_);rintro e w' ⟨rfl,rfl⟩)
      |(go_at_call 140;(with_reducible refine(kO _).mono ?_);rintro e w' ⟨rfl,hb'⟩;obtain⟨z1,z2,z3,-⟩:=(PcK.on HPK.out hb').facts))
       have HD:=Lib.hid (And.intro (below_on HB.out.1 (Nat.le_refl _) (by assumption)) (HB.out.2.on (by assumption)))
       go_roundw
       case rel=>exact⟨k+1,N+nk,x.id,by omega,by go_num,by go_num,rfl,by omega,HY.out,HD.out⟩
       case measure=>simp[intOf];omega
    ·rw[decide_eq_false (by omega:¬last<x.id)]at HX
     have HZ:=Lib.hid (HX.out false rfl)
     clear HX
     go_wp2_with (first
      |(go_at_call 103;(with_reducible refine(kI _).mono ?_);rintro e w' ⟨rfl,rfl⟩)
      |(go_at_call 140;(with_reducible refine(kO _).mono ?_);rintro e w' ⟨rfl,hb'⟩;obtain⟨z1,z2,z3,-⟩:=(PcK.on HPK.out hb').facts))
     go_ret
     exact⟨by rw[HZ.out];rfl,HB.out.1⟩
  ·have hkn:k=n':=by omega
   subst hkn
   have HE:Hid (listedB p=(decide (1≤k)&&(decide (k≤64)&&decide (N≤1024)))):=by
    show _=_
    have h2:=HN.out
    rw[List.drop_of_length_le (by omega)]at h2
    rw[listN_nil,cornN_nil]at h2
    rw[HL.out,h2.1,h2.2]
    rfl
   have HB:=Lib.hid hbel
   clear hbel hK HN HL
   rcases Nat.lt_or_ge k 1 with g1|g1
   ·have g2:(k:Int)<1:=by omega
    have HZ:Hid (listedB p=false):=by show _=_;rw[HE.out,decide_eq_false (by omega)];rfl
    clear HE
    go_wp2_with fail
    go_ret
    exact⟨by rw[HZ.out];rfl,HB.out⟩
   ·have g2:(1:Int)≤(k:Int):=by omega
    rcases Nat.lt_or_ge 64 k with g3|g3
    ·have g4:(64:Int)<(k:Int):=by omega
     have HZ:Hid (listedB p=false):=by show _=_;rw[HE.out,decide_eq_false (by omega:¬k≤64)];simp
     clear HE
     go_wp2_with fail
     go_ret
     exact⟨by rw[HZ.out];rfl,HB.out⟩
    ·have g4:(k:Int)≤64:=by omega
     rcases Nat.lt_or_ge 1024 N with g5|g5
     ·have g6:(1024:Int)<(N:Int):=by omega
      have HZ:Hid (listedB p=false):=by show _=_;rw[HE.out,decide_eq_false (by omega:¬N≤1024)];simp
      clear HE
      go_wp2_with fail
      go_ret
      exact⟨by rw[HZ.out];show Ending.returned (.bool (decide ((N:Int)≤1024)))=_;rw[decide_eq_false (by omega)],HB.out⟩
     ·have g6:(N:Int)≤1024:=by omega
      have HZ:Hid (listedB p=true):=by show _=_;rw[HE.out,decide_eq_true g1,decide_eq_true g3,decide_eq_true g5];rfl
      clear HE
      go_wp2_with fail
      go_ret
      exact⟨by rw[HZ.out];rfl,HB.out⟩
set_option maxRecDepth 100000 in
set_option maxHeartbeats 3200000 in
theorem fine_any (p:Plan) (A A':Option Addr) (n c n' c':Nat) (w:World) (h:PlanAt w w.heap.size A n c A' n' c' p):
 Calls Tryz.prog 33 #[planV A n c A' n' c'] w fun e w'=>e= .returned (.bool (listedB p))∧Below w.heap.size w w':=by
 obtain⟨hl1,hl2,hl3,hl4⟩:=h.lens
 have HP:=Lib.hid (And.intro h.parcs h.fits)
 have HL:Hid (listedB p=(listN n 0 p.parcels&&(decide (1≤n')&&(decide (n'≤64)&&decide (cornN n p.parcels≤1024))))):=by show _=_;unfold listedB;rw[hl1,hl2]
 have hK0:=PlK.new w A n c A' n' c'
 have hB0:=(Below.refl w.heap.size w).alloc (Nat.le_refl _) (.cells #[.slice A n c,.slice A' n' c'] 30)
 clear h
 obtain⟨ps,hps⟩:∃ps,ps=p.parcels:=⟨_,rfl⟩
 rw[←hps]at hl2 HP HL
 have hfx:∀k,k<n'→(pcAt ps k).fits:=fun k hk=>by
  have:=HP.out.2.pc (k:=k) (by rw[←hps];omega)
  rw[←hps]at this
  exact this
 have HF:=Lib.hid hfx
 clear hps hfx hl1
 have H0:=Lib.hid (And.intro hB0 hK0)
 obtain⟨q1,q2,-⟩:=hK0.facts
 clear hB0 hK0
 go_enter Tryz.func33,Tryz.ntmps33
 go_wp2_with fail
 obtain⟨wo,hwo⟩:∃wo:World,wo=w.alloc (.cells #[.slice A n c,.slice A' n' c'] 30):=⟨_,rfl⟩
 rw[←hwo]at H0 q1 q2
 try rw[←hwo]
 clear hwo q1 q2
 go_loopw [3,4,5] (fun s l i wr=>∃(k N:Nat) (last:Int),k≤n'∧i= .int .i64 (k:Int)∧s= .int .i64 (N:Int)∧l= .int .i64 last∧N≤8796093022208∧Hid (listN n 0 ps=listN N last (ps.drop k)∧cornN n ps=cornN N (ps.drop k))∧Below w.heap.size w wr∧PlK wr w.heap.size A n c A' n' c') (fun _ _ i _=>n'-(intOf i).toNat)
 case atStart=>exact⟨0,n,0,Nat.zero_le _,rfl,rfl,rfl,hl3,⟨rfl,rfl⟩,H0.out⟩
 case round=>
  clear H0
  obtain⟨k,N,last,hk,rfl,rfl,rfl,hN,HN,hbel,hK⟩:=hrel
  obtain⟨q1,q2,-⟩:=hK.facts
  by_cases hlt:k<n'
  ·have hlt':(k:Int)<(n':Int):=by omega
   have hw1:IntKind.i64.wrap ((k:Int)+1)=(k:Int)+1:=by rw[IntKind.wrap_i64];omega
   obtain⟨ad,rfl⟩:=HP.out.1.some_ (by omega)
   obtain⟨-,p1,⟨Ak,nk,ck,p2,hrk,-,-⟩,p3⟩:=(HP.out.1.below hbel).at_ hlt
   obtain⟨f1,-,f2,f3⟩:=HF.out k hlt
   have hrl:=hrk.lenPt
   have hdk:ps.drop k=pcAt ps k::ps.drop (k+1):=by rw[List.drop_eq_getElem_cons (by omega),pcAt_lt (by omega)]
   have hst:=HN.out
   rw[hdk,listN_cons,cornN_cons,hrl]at hst
   rw[hrl]at f1
   clear hdk HN hrk hrl
   obtain⟨x,hx⟩:∃x,x=pcAt ps k:=⟨_,rfl⟩
   rw[←hx]at p1 p3 hst f2 f3
   clear hx
   have kI:=fun V=>idR_any x.id V
   have kO:∀V,Calls Tryz.prog 79 #[.string x.owner] V fun e V'=>e= .returned (.bool (ownB x.owner))∧Below V.heap.size V V':=fun V=>(ownerR_any x.owner V f3).mono fun e V' h=>⟨h.1,by rw[←h.2];exact Below.refl _ _⟩
   have hw2:IntKind.i64.wrap ((N:Int)+(nk:Int))=(N:Int)+(nk:Int):=by rw[IntKind.wrap_i64];omega
   have HPK:=Lib.hid (PcK.new wr x Ak nk ck)
   obtain⟨y1,y2,y3,-⟩:=HPK.out.facts
   have HB:=Lib.hid (And.intro (hbel.alloc hbel.size (.cells #[.int .i64 x.id,.slice Ak nk ck,.string x.owner] 27)) (hK.on ((Below.refl wr.heap.size wr).alloc (Nat.le_refl _) (.cells #[.int .i64 x.id,.slice Ak nk ck,.string x.owner] 27))))
   have hbs:=hbel.size
   clear hbel hK q1 f2 f3
   have HST:=Lib.hid hst
   clear hst
   generalize idB x.id=bi at *
   generalize ownB x.owner=bo at *
   have HX:Hid (∀b:Bool,(bi&&(decide (last<x.id)&&(bo&&(decide (N+nk≤1024)&&listN (N+nk) x.id (ps.drop (k+1))))))=false→listedB p=false):=fun b hb=>by rw[HL.out,HST.out.1,hb];rfl
   rcases bi with _|_
   ·have HZ:=HX.out false rfl
    have HZ:=Lib.hid HZ
    clear HX
    go_wp2_with (first
     |(go_at_call 78;(with_reducible refine(kI _).mono ?_);rintro e w' ⟨rfl,rfl⟩)
     |(go_at_call 79;(with_reducible refine(kO _).mono ?_);rintro e w' ⟨rfl,hb'⟩;obtain⟨z1,z2,z3,-⟩:=(PcK.on HPK.out hb').facts))
    go_ret
    exact⟨by rw[HZ.out];rfl,HB.out.1⟩
   ·rcases Int.lt_or_le last x.id with g1|g1
    ·have g2:¬x.id≤last:=by omega
     rw[decide_eq_true g1]at HX HST
     rcases bo with _|_
     ·have HZ:=Lib.hid (HX.out false rfl)
      clear HX
      go_wp2_with (first
      |(go_at_call 78;(with_reducible refine(kI _).mono ?_);rintro e w' ⟨rfl,rfl⟩)
      |(go_at_call 79;(with_reducible refine(kO _).mono ?_);rintro e w' ⟨rfl,hb'⟩;obtain⟨z1,z2,z3,-⟩:=(PcK.on HPK.out hb').facts))
      go_ret
      exact⟨by rw[HZ.out];rfl,below_on HB.out.1 (Nat.le_refl _) (by assumption)⟩
     ·rcases Nat.lt_or_ge 1024 (N+nk)with g3|g3
      ·have g4:(1024:Int)<(N:Int)+(nk:Int):=by omega
       have HZ:=Lib.hid (HX.out false (by rw[decide_eq_false (by omega:¬N+nk≤1024)];rfl))
       clear HX
       go_wp2_with (first
      |(go_at_call 78;(with_reducible refine(kI _).mono ?_);rintro e w' ⟨rfl,rfl⟩)
      |(go_at_call 79;(with_reducible refine(kO _).mono ?_);rintro e w' ⟨rfl,hb'⟩;obtain⟨z1,z2,z3,-⟩:=(PcK.on HPK.out hb').facts))
       go_ret
       exact⟨by rw[HZ.out];rfl,below_on HB.out.1 (Nat.le_refl _) (by assumption)⟩
      ·have g4:¬(1024:Int)<(N:Int)+(nk:Int):=by omega
       have HY:Hid (listN n 0 ps=listN (N+nk) x.id (ps.drop (k+1))∧cornN n ps=cornN (N+nk) (ps.drop (k+1))):=by
        have:=HST.out
        rw[decide_eq_true g3]at this
        show _∧_
        simpa using this
       clear HX HST
       go_wp2_with (first
      |(go_at_call 78;(with_reducible refine(kI _).mono ?_);rintro e w' ⟨rfl,rfl⟩)
      |(go_at_call 79;(with_reducible refine(kO _).mono ?_);rintro e w' ⟨rfl,hb'⟩;obtain⟨z1,z2,z3,-⟩:=(PcK.on HPK.out hb').facts))
       have HD:=Lib.hid (And.intro (below_on HB.out.1 (Nat.le_refl _) (by assumption)) (HB.out.2.on (by assumption)))
       go_roundw
       case rel=>exact⟨k+1,N+nk,x.id,by omega,by go_num,by go_num,rfl,by omega,HY.out,HD.out⟩
       case measure=>simp[intOf];omega
    ·rw[decide_eq_false (by omega:¬last<x.id)]at HX
     have HZ:=Lib.hid (HX.out false rfl)
     clear HX
     go_wp2_with (first
      |(go_at_call 78;(with_reducible refine(kI _).mono ?_);rintro e w' ⟨rfl,rfl⟩)
      |(go_at_call 79;(with_reducible refine(kO _).mono ?_);rintro e w' ⟨rfl,hb'⟩;obtain⟨z1,z2,z3,-⟩:=(PcK.on HPK.out hb').facts))
     go_ret
     exact⟨by rw[HZ.out];rfl,HB.out.1⟩
  ·have hkn:k=n':=by omega
   subst hkn
   have HE:Hid (listedB p=(decide (1≤k)&&(decide (k≤64)&&decide (N≤1024)))):=by
    show _=_
    have h2:=HN.out
    rw[List.drop_of_length_le (by omega)]at h2
    rw[listN_nil,cornN_nil]at h2
    rw[HL.out,h2.1,h2.2]
    rfl
   have HB:=Lib.hid hbel
   clear hbel hK HN HL
   rcases Nat.lt_or_ge k 1 with g1|g1
   ·have g2:(k:Int)<1:=by omega
    have HZ:Hid (listedB p=false):=by show _=_;rw[HE.out,decide_eq_false (by omega)];rfl
    clear HE
    go_wp2_with fail
    go_ret
    exact⟨by rw[HZ.out];rfl,HB.out⟩
   ·have g2:(1:Int)≤(k:Int):=by omega
    rcases Nat.lt_or_ge 64 k with g3|g3
    ·have g4:(64:Int)<(k:Int):=by omega
     have HZ:Hid (listedB p=false):=by show _=_;rw[HE.out,decide_eq_false (by omega:¬k≤64)];simp
     clear HE
     go_wp2_with fail
     go_ret
     exact⟨by rw[HZ.out];rfl,HB.out⟩
    ·have g4:(k:Int)≤64:=by omega
     rcases Nat.lt_or_ge 1024 N with g5|g5
     ·have g6:(1024:Int)<(N:Int):=by omega
      have HZ:Hid (listedB p=false):=by show _=_;rw[HE.out,decide_eq_false (by omega:¬N≤1024)];simp
      clear HE
      go_wp2_with fail
      go_ret
      exact⟨by rw[HZ.out];show Ending.returned (.bool (decide ((N:Int)≤1024)))=_;rw[decide_eq_false (by omega)],HB.out⟩
     ·have g6:(N:Int)≤1024:=by omega
      have HZ:Hid (listedB p=true):=by show _=_;rw[HE.out,decide_eq_true g1,decide_eq_true g3,decide_eq_true g5];rfl
      clear HE
      go_wp2_with fail
      go_ret
      exact⟨by rw[HZ.out];rfl,HB.out⟩
def SP400 (n n':Nat) (p:Plan) (w:World) (e:Ending) (w':World):Prop:=∃b:Bool,e= .returned (.bool b)∧(b=true→n'≤80∧cornN n p.parcels≤400)∧Below w.heap.size w w'
theorem SP400.mk {n n':Nat} {p:Plan} {w:World} {e:Ending} {w':World} (b:Bool) (h1:e= .returned (.bool b)) (h2:b=true→n'≤80∧cornN n p.parcels≤400) (h3:Below w.heap.size w w'):SP400 n n' p w e w':=⟨b,h1,h2,h3⟩
theorem sumL_bdM (l:List Int) (h:∀z∈l,-4611686018427387904≤z∧z≤4611686018427387904) (k:Nat) (hk:k≤l.length): -(4611686018427387904*(k:Int))≤sumL (l.take k)∧sumL (l.take k)≤4611686018427387904*(k:Int):=by
 induction k with
 |zero=>simp[sumL]
 |succ k ih=>
  rw[sumL_take l k (by omega)]
  have h1:=ih (by omega)
  have h2:=h _ (List.getElem_mem (by omega:k<l.length))
  omega
theorem areaZ_bd {xs:List Pt} (h:areaE xs=0): -1180591620717411303424≤areaZ xs∧areaZ xs≤1180591620717411303424:=by
 obtain⟨h1,h2⟩:=areaE_zero h
 have:=sumL_bdM ((List.range xs.length).map (areaK xs)) (fun z hz=>by
  obtain⟨k,-,rfl⟩:=List.mem_map.1 hz
  have:=cr_bd (a:=⟨0,0⟩) (by decide) (ptAt_good h2 k) (ptAt_good h2 ((k+1)%xs.length))
  unfold areaK
  omega) xs.length (by simp)
 rw[List.take_of_length_le (by simp)]at this
 unfold areaZ
 omega
theorem areas_bd {ps:List Parc} (h:∀x∈ps,areaE x.ring=0):∀z∈ps.map (fun x=>areaZ x.ring),-1180591620717411303424≤z∧z≤1180591620717411303424:=by
 intro z hz
 obtain⟨x,hx,rfl⟩:=List.mem_map.1 hz
 exact areaZ_bd (h x hx)
theorem eq128 (a b:Int):(decide (a/18446744073709551616=b/18446744073709551616)&&decide (a%18446744073709551616=b%18446744073709551616))=decide (a=b):=by
 rw[Bool.eq_iff_iff]
 simp
 omega
set_option maxRecDepth 100000 in
set_option maxHeartbeats 1600000 in
theorem whole2_any (p:Plan) (A A':Option Addr) (n c n' c':Nat) (w:World) (h:PlanAt w w.heap.size A n c A' n' c' p) (h64:n'≤64) (ha:areaE p.outer=0) (hb:∀x∈p.parcels,areaE x.ring=0):
 Calls Tryz.prog 94 #[planV A n c A' n' c'] w fun e w'=>e= .returned (.bool (decide (areasL p.parcels=areaZ p.outer)))∧Below w.heap.size w w':=by
 obtain⟨hl1,hl2,hl3,hl4⟩:=h.lens
 obtain⟨i0,hi0,hz0,hz1,hz2⟩:=info_parts info_int
 have HP:=Lib.hid (And.intro h (And.intro ha hb))
 have hK0:=PlK.new w A n c A' n' c'
 have hB0:=(Below.refl w.heap.size w).alloc (Nat.le_refl _) (.cells #[.slice A n c,.slice A' n' c'] 30)
 have H0:=Lib.hid (And.intro hB0 hK0)
 obtain⟨q1,q2,-⟩:=hK0.facts
 clear hB0 hK0 h ha hb hl1
 have HL2:=Lib.hid hl2
 clear hl2
 go_enter Tryz.func94,Tryz.ntmps94
 go_wp2_with fail
 obtain⟨wo,hwo⟩:∃wo:World,wo=w.alloc (.cells #[.slice A n c,.slice A' n' c'] 30):=⟨_,rfl⟩
 rw[←hwo]at H0 q1 q2
 try rw[←hwo]
 clear hwo q1 q2
 go_loopw [3,15] (fun s i wr=>∃k:Nat,k≤n'∧i= .int .i64 (k:Int)∧(∃B cb,s= .slice B k cb∧wr.ownsRow w.heap.size 37 2 (.slice B k cb) k (wideV ((p.parcels.take k).map fun x=>areaZ x.ring)))∧Below w.heap.size w wr∧PlK wr w.heap.size A n c A' n' c') (fun _ i _=>n'-(intOf i).toNat)
 case atStart=>exact⟨0,Nat.zero_le _,rfl,⟨none,0,rfl,by simp[wideV,World.ownsRow_nil]⟩,H0.out⟩
 case round=>
  clear H0
  obtain⟨k,hk,rfl,⟨B,cb,rfl,hown⟩,hbel,hK⟩:=hrel
  by_cases hlt:k<n'
  ·have hlt':(k:Int)<(n':Int):=by omega
   have hw1:IntKind.i64.wrap ((k:Int)+1)=(k:Int)+1:=by rw[IntKind.wrap_i64];omega
   obtain⟨ad,rfl⟩:=HP.out.1.parcs.some_ (by omega)
   obtain⟨-,p1,⟨Ak,nk,ck,p2,hrk,hk1,hk2⟩,p3⟩:=(HP.out.1.parcs.below hbel).at_ hlt
   obtain⟨x,hx⟩:∃x,x=pcAt p.parcels k:=⟨_,rfl⟩
   rw[←hx]at p1 p3 hrk
   have hlk:k<p.parcels.length:=by have:=HL2.out;omega
   have hxm:x∈p.parcels:=by rw[hx,pcAt_lt hlk];exact List.getElem_mem _
   have hfx:=HP.out.1.fits.2.2 x hxm
   have he0:=HP.out.2.2 x hxm
   have hB1:Below wr.heap.size wr (wr.alloc (.cells #[.int .i64 x.id,.slice Ak nk ck,.string x.owner] 27)):=(Below.refl _ _).alloc (Nat.le_refl _) _
   have kA:=Lib.hid (area_any x.ring Ak nk ck (wr.alloc (.cells #[.int .i64 x.id,.slice Ak nk ck,.string x.owner] 27)) ((hrk.more hbel.size).on hB1) (by omega) hfx.2.1)
   have hav:areaV x.ring=areaZ x.ring:=areaV_ok he0
   rw[he0,hav]at kA
   have htk:(p.parcels.take (k+1)).map (fun x=>areaZ x.ring)=(p.parcels.take k).map (fun x=>areaZ x.ring)++[areaZ x.ring]:=by rw[List.take_succ_eq_append_getElem hlk,List.map_append,hx,pcAt_lt hlk];rfl
   generalize areaZ x.ring=z at *
   have HT:=Lib.hid htk
   have HB:=Lib.hid (And.intro hown (And.intro (hbel.alloc hbel.size (.cells #[.int .i64 x.id,.slice Ak nk ck,.string x.owner] 27)) (hK.on hB1)))
   clear hx hlk hxm hfx he0 hav htk hrk hB1 hK hown hbel
   go_wp2_with fail
   refine kA.out.mono ?_
   rintro e w1 ⟨rfl,hb1⟩
   have hown1:=own_below (own_below HB.out.1 ((Below.refl _ _).alloc (Nat.le_refl _) (.cells #[.int .i64 x.id,.slice Ak nk ck,.string x.owner] 27))) hb1
   have hB1:=below_on HB.out.2.1 (Nat.le_refl _) hb1
   have hK1:=HB.out.2.2.on hb1
   clear hb1 kA
   obtain⟨zh,hzh⟩:∃zh,zh=z/18446744073709551616:=⟨_,rfl⟩
   obtain⟨zl,hzl⟩:∃zl,zl=z%18446744073709551616:=⟨_,rfl⟩
   have hi:i128 z= .agg #[.int .i64 zh,.int .u64 zl]:=by unfold i128;rw[hzh,hzl]
   have hwv:wideV [z]=[.int .i64 zh,.int .u64 zl]:=by unfold wideV;rw[hzh,hzl];rfl
   rw[hi]
   have HWV:=Lib.hid hwv
   clear hi hzh hzl hwv
   have hsrc:Reads ((w1.alloc (.cells #[.int .i64 zh,.int .u64 zl] 37)).alloc (.cells #[.int .i64 zh,.int .u64 zl] 37)) (w1.heap.size+2) 2 (some ⟨w1.heap.size+1,0,none⟩) 1 (wideV [z]):=by
    have h:=Reads.made (w1.alloc (.cells #[.int .i64 zh,.int .u64 zl] 37)) #[.int .i64 zh,.int .u64 zl] 37 (0,0) 2 1 (wideV [z]) HWV.out.symm (by rw[HWV.out];rfl)
    simpa using h
   have hQ1:=(hown1.alloc (.cells #[.int .i64 zh,.int .u64 zl] 37)).alloc (.cells #[.int .i64 zh,.int .u64 zl] 37)
   have hm1:k+1≤maxLen:=by simp only[maxLen];omega
   have hm2:(k+1)*16≤140737488355328:=by omega
   have hm3:w.heap.size≤((w1.alloc (.cells #[.int .i64 zh,.int .u64 zl] 37)).alloc (.cells #[.int .i64 zh,.int .u64 zl] 37)).heap.size:=by have:=hB1.size;simp;omega
   have HQ:=Lib.hid (And.intro hQ1 (And.intro hsrc (And.intro hm1 (And.intro hm2 hm3))))
   clear hQ1 hsrc hm1 hm2 hm3 hown1
   go_wp2_with (at_builtin;refine wpList_append_any _ rfl (.tmp 25) (.tmp 27) _ rfl w.heap.size 37 i0 _ 2 16 Tryz.underlying188 hi0 hz0 hz1 hz2 rfl (Nat.zero_lt_succ _) (.slice B k cb) k _ rfl HQ.out.1 _ (some ⟨w1.heap.size+1,0,none⟩) 1 1 (wideV [z]) rfl HQ.out.2.1 (wideV_one _) HQ.out.2.2.1 HQ.out.2.2.2.1 HQ.out.2.2.2.2 ?_;intro v6 w6 hown6 hg6 hat6)
   obtain⟨hown1,-,-,-,hm3⟩:=HQ.out
   have hB6:Below w.heap.size w w6:=((hB1.alloc hB1.size _).alloc (by have:=hB1.size;simp;omega) _).grown hg6 hm3 (fun g hg=>(hown1.lt g hg).1)
   have hK2:PlK ((w1.alloc (.cells #[.int .i64 zh,.int .u64 zl] 37)).alloc (.cells #[.int .i64 zh,.int .u64 zl] 37)) w.heap.size A n c (some ad) n' c':=Blk.alloc (Blk.alloc hK1 _) _
   have hK6:PlK w6 w.heap.size A n c (some ad) n' c':=(hg6.block _ (Blk.lt hK2) (fun e=>own_blk_ne hown1 hK2 (by decide) e.symm)).trans hK2
   rw[←wideV_append,←HT.out]at hown6
   obtain⟨A6,c6,rfl⟩:=own_form hown6
   have H6:=Lib.hid (And.intro hown6 (And.intro hB6 hK6))
   clear hown6 hB6 hK6 hg6 hat6 hK2
   go_roundw
   case rel=>exact⟨k+1,by omega,by go_num,⟨A6,c6,rfl,H6.out.1⟩,H6.out.2.1,H6.out.2.2⟩
   case measure=>simp[intOf];omega
  ·have hkn:k=n':=by omega
   subst hkn
   have htk:p.parcels.take k=p.parcels:=List.take_of_length_le (by have:=HL2.out;omega)
   rw[htk]at hown
   have hbd:=areas_bd HP.out.2.2
   obtain⟨zs,hzs⟩:∃zs,zs=p.parcels.map (fun x=>areaZ x.ring):=⟨_,rfl⟩
   have hs:areasL p.parcels=sumL zs:=by rw[hzs];rfl
   rw[←hzs]at hbd hown
   have hrd:=Reads.of_own hown
   have kT:=Lib.hid (total_any zs B k cb wr hrd (Nat.le_trans h64 (by decide)) hbd)
   have kA0:=fun V (hV:Below w.heap.size w V)=>area_any p.outer A n c V ((HP.out.1.outer.below hV).more hV.size) (by omega) HP.out.1.fits.1.2
   have hav:areaV p.outer=areaZ p.outer:=areaV_ok HP.out.2.1
   rw[HP.out.2.1,hav]at kA0
   have HE:=Lib.hid (eq128 (sumL zs) (areaZ p.outer))
   obtain⟨sm,hsm⟩:∃sm,sm=sumL zs:=⟨_,rfl⟩
   obtain⟨ao,hao⟩:∃ao,ao=areaZ p.outer:=⟨_,rfl⟩
   rw[←hsm]at kT HE hs
   rw[←hao]at kA0 HE
   have HS:=Lib.hid (And.intro hs hao)
   clear hsm hao
   have HB:=Lib.hid (And.intro hbel (And.intro hK kA0))
   clear hown hbel hK kA0 hs hbd htk hav hzs hrd
   obtain⟨q1,q2,-⟩:=HB.out.2.1.facts
   go_wp2_with fail
   refine kT.out.mono ?_
   rintro e w1 ⟨rfl,hb1⟩
   have hB1:=below_on HB.out.1 (Nat.le_refl _) hb1
   have hK1:=HB.out.2.1.on hb1
   clear hb1 kT q1 q2
   unfold i128
   obtain⟨sh,hsh⟩:∃sh,sh=sm/18446744073709551616:=⟨_,rfl⟩
   obtain⟨sl,hsl⟩:∃sl,sl=sm%18446744073709551616:=⟨_,rfl⟩
   have HE2:Hid ((decide (sh=ao/18446744073709551616)&&decide (sl=ao%18446744073709551616))=decide (sm=ao)):=by show _=_;rw[hsh,hsl];exact HE.out
   rw[←hsh,←hsl]
   clear hsh hsl HE
   have hBa:Below w1.heap.size w1 (w1.alloc (.cells #[.int .i64 sh,.int .u64 sl] 37)):=(Below.refl _ _).alloc (Nat.le_refl _) _
   obtain⟨q1,q2,-⟩:=(hK1.on hBa).facts
   have kA:=Lib.hid (HB.out.2.2 _ (below_on hB1 (Nat.le_refl _) hBa))
   have bS:Blk (w1.alloc (.cells #[.int .i64 sh,.int .u64 sl] 37)) w1.heap.size 37 #[.int .i64 sh,.int .u64 sl]:=Blk.new _ _ _
   have HB1:=Lib.hid (And.intro (below_on hB1 (Nat.le_refl _) hBa) bS)
   clear hB1 hK1 hBa bS
   go_wp2_with fail
   refine kA.out.mono ?_
   rintro e w2 ⟨rfl,hb2⟩
   unfold i128
   obtain⟨ah,hah⟩:∃ah,ah=ao/18446744073709551616:=⟨_,rfl⟩
   obtain⟨al,hal⟩:∃al,al=ao%18446744073709551616:=⟨_,rfl⟩
   have HE3:Hid ((decide (sh=ah)&&decide (sl=al))=decide (sm=ao)):=by show _=_;rw[hah,hal];exact HE2.out
   rw[←hah,←hal]
   clear hah hal HE2
   have bS2:=Blk.alloc (Blk.below HB1.out.2 hb2 (Blk.lt HB1.out.2)) (.cells #[.int .i64 ah,.int .u64 al] 37)
   have bA:=Blk.new w2 37 #[.int .i64 ah,.int .u64 al]
   have x1:(w2.alloc (.cells #[.int .i64 ah,.int .u64 al] 37)).cell? ⟨w1.heap.size,0,none⟩=some (.int .i64 sh):=by rw[Blk.cell bS2 0];rfl
   have x2:(w2.alloc (.cells #[.int .i64 ah,.int .u64 al] 37)).cell? ⟨w1.heap.size,1,none⟩=some (.int .u64 sl):=by rw[Blk.cell bS2 1];rfl
   have HB2:=Lib.hid ((below_on HB1.out.1 (Nat.le_refl _) hb2).alloc (below_on HB1.out.1 (Nat.le_refl _) hb2).size (.cells #[.int .i64 ah,.int .u64 al] 37))
   have HF:Hid (decide (areasL p.parcels=areaZ p.outer)=(decide (sh=ah)&&decide (sl=al))):=by show _=_;rw[HE3.out,HS.out.1,←HS.out.2]
   clear HE3 HS hb2 HB1 bS2 bA kA
   by_cases g1:sh=ah
   ·by_cases g2:sl=al
    ·subst g1 g2
     go_wp2_with fail
     go_ret
     exact⟨by rw[HF.out];simp,HB2.out⟩
    ·subst g1
     go_wp2_with fail
     go_ret
     exact⟨by rw[HF.out];simp[g2],HB2.out⟩
   ·go_wp2_with fail
    go_ret
    exact⟨by rw[HF.out];simp[g1],HB2.out⟩
end Go.Proofs.YtpkeacnacjnlcaaGreat
namespace Go.Proofs.YtpkeacnacjnlcaaGreat
open Go.RowKit Go.WideShapes Go.ChangeShapes Go.Deep Go.ChangeAt Go.Joins
section
variable {H:Type} {enc:TypeId×Value→H}
theorem weights_all_mem {P:Program} {e:TypeId}:∀ {l:List (DataW H)} {d:DataW H},d∈l→∀n∈d.weights P e,n∈DataW.weightsAll P e l
 |x::l,d,hd,n,hn=>by
  simp only[DataW.weightsAll,List.mem_append]
  rcases List.mem_cons.1 hd with rfl|h
  ·exact .inl hn
  ·exact .inr (weights_all_mem h n hn)
end
end Go.Proofs.YtpkeacnacjnlcaaGreat
