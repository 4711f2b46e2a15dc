/- slices.Clone at []byte: the walk; string(b) of a slice of bytes that reads as a list; ring.Check: the walk; Plain law: a ring that is moved as a whole. -/
import Derived.Lib.SliceRun
import Derived.Laws.BytesString
import Derived.Laws.Cells
import Derived.Deep.RegionWith
import Derived.Deep.RegionHeld3
import Derived.BigRegion
import Derived.KernelRfl
import Derived.OrdersIn
import Derived.TacticsIn
import Derived.Test.YtpkeacnacjnlcaaGreatK01
import Derived.Test.YtpkeacnacjnlcaaGreatK02
import Derived.Test.YtpkeacnacjnlcaaGreatK08
import Derived.Test.YtpkeacnacjnlcaaGreatK09
import Derived.Test.YtpkeacnacjnlcaaGreatK10
import Derived.Test.YtpkeacnacjnlcaaGreatK11
namespace Go.Proofs.YtpkeacnacjnlcaaGreat
open Go.RowKit
theorem Own8.mk {xs:List UInt8} {w w':World} {v:Value} {n:Nat} (ho:w'.ownsRow w.heap.size 5 1 v n (u8s xs)) (hb:Below w.heap.size w w'):Own8 xs w (.returned v) w':=by
 obtain⟨A,c,rfl⟩:=own_form ho
 have hl:xs.length=n:=by have:=ho.1;rw[u8s_length]at this;omega
 subst hl
 exact⟨A,c,rfl,ho,hb⟩
set_option maxHeartbeats 400000 in
theorem clone8_some (xs:List UInt8) (a:Addr) (n cap:Nat) (w:World) (hr:Reads w w.heap.size 1 (some a) n (u8s xs)) (hn:n≤140737488355000):
 Calls Tryz.prog 42 #[.slice (some a) n cap] w (Own8 xs w):=by
 obtain⟨i0,hi0,hz0,hz1,hz2⟩:=info_parts info_u8
 have hl:=hr.len8
 have heq:=fun(W:World)=>Lib.run_eql_slice_nil (P:=Tryz.prog) W 50 5 (some a) n cap 0 0 Tryz.underlying50
 have hown0:=World.ownsRow_made (base:=w.heap.size) (e:=5) (size:=1) w #[] 0 (Nat.le_refl _) (by simp[maxLen]) rfl
 have hb0:Below w.heap.size w (w.alloc (.cells #[] 5)):=(Below.refl _ _).alloc (Nat.le_refl _) _
 go_enter Tryz.func42,Tryz.ntmps42
 go_wp2_with (at_builtin;refine wpList_append_any _ rfl (.tmp 5) (.tmp 6) _ rfl w.heap.size 5 i0 _ 1 1 Tryz.underlying50 hi0 hz0 hz1 hz2 rfl (by omega) (.slice (some ⟨w.heap.size,0,none⟩) 0 0) 0 [] rfl hown0 w.heap.size (some a) n cap (u8s xs) rfl (hr.below hb0) (u8s_one xs) (by simp only[maxLen];omega) (by omega) hb0.size ?_
              intro v2 w2 hown2 hg2 hat2)
 go_ret
 simp only[Nat.zero_add,List.nil_append]at hown2
 exact Own8.mk hown2 (hb0.grown hg2 hb0.size (by intro k hk;simp[Value.ownBlock]at hk;omega))
theorem clone8_none (cap:Nat) (w:World):
 Calls Tryz.prog 42 #[.slice none 0 cap] w (Own8 [] w):=by
 have heq:=fun(W:World)=>Lib.run_eql_slice_nil (P:=Tryz.prog) W 50 5 none 0 cap 0 0 Tryz.underlying50
 go_enter Tryz.func42,Tryz.ntmps42
 go_wp2_with fail
 go_ret
 exact Own8.mk (World.ownsRow_nil _ _ _ _) (Below.refl _ _)
theorem clone8_any (xs:List UInt8) (A:Option Addr) (n cap:Nat) (w:World) (hr:Reads w w.heap.size 1 A n (u8s xs)) (hn:n≤140737488355000):
 Calls Tryz.prog 42 #[.slice A n cap] w (Own8 xs w):=by
 rcases A with _|a
 ·have hl:=hr.len8
  rcases Nat.eq_zero_or_pos n with h0|h0
  ·subst h0
   obtain rfl:=List.eq_nil_of_length_eq_zero hl
   exact clone8_none cap w
  ·obtain⟨ad,h,_⟩:=hr.2 h0
   cases h
 ·exact clone8_some xs a n cap w hr hn
theorem foldl_push (l:List UInt8):∀s:ByteArray,(l.map fun b=>(b.toNat:Int)).foldl (fun r n=>r.push (UInt8.ofNat n.toNat)) s=⟨s.data++l.toArray⟩:=by
 induction l with
 |nil=>intro s;simp
 |cons b l ih=>
  intro s
  simp only[List.map_cons,List.foldl_cons]
  rw[ih]
  have:UInt8.ofNat ((b.toNat:Int)).toNat=b:=by simp
  rw[this]
  simp[ByteArray.push]
theorem run_str {xs:List UInt8} {A:Option Addr} {B n c:Nat} {W:World} (h:Reads W B 1 A n (u8s xs)):
 (convert 50 9 (.slice A n c)).run Tryz.prog W= .ok (.string ⟨xs.toArray⟩) W:=by
 rw[run_convert_bytes_string W 50 9 5 A n c Tryz.underlying50 Tryz.underlying5 Tryz.underlying9]
 have hl:=h.len8
 rcases A with _|a
 ·have hn:n=0:=by
   rcases Nat.eq_zero_or_pos n with h0|h0
   ·exact h0
   ·obtain⟨ad,h,_⟩:=h.2 h0
    cases h
  subst hn
  obtain rfl:=List.eq_nil_of_length_eq_zero hl
  unfold Conv.bytesToString
  simp[Sem.run_pure]
  rfl
 ·have hL:(loadCells a n).run Tryz.prog W= .ok (((xs.map fun b=>(b.toNat:Int)).map (Value.int .u8)).toArray) W:=by
   rw[←hl]
   have e:xs.length=(((xs.map fun b=>(b.toNat:Int)).map (Value.int .u8))).length:=by simp
   rw[e]
   refine run_loadCells_list (P:=Tryz.prog) W a _ ?_
   intro j v hv
   have hv':(u8s xs)[j]?=some v:=by rw[←hv];simp[u8s,Function.comp_def]
   have hj:j<n:=by
    have:=(List.getElem?_eq_some_iff.1 hv').1
    rw[u8s_length]at this
    omega
   obtain⟨ad,ha,_,hc⟩:=h.2 (by omega)
   cases ha
   exact hc j v hv'
  rw[run_bytesToString W a n c _ hL,foldl_push]
  simp
set_option maxRecDepth 100000 in
set_option maxHeartbeats 1600000 in
theorem check_any (xs:List Pt) (A:Option Addr) (n cap:Nat) (w:World) (hr:Reads w w.heap.size 2 A n (ptsV xs)) (hn:n≤9223372036854775807) (hx:∀p∈xs,p.inI):
 Calls Tryz.prog 141 #[.slice A n cap] w fun e w'=>e= .returned (.int .i64 (checkI xs))∧Below w.heap.size w w':=by
 have hl:xs.length=n:=hr.lenPt
 have ka:=area_any xs A n cap w hr hn hx
 obtain⟨res,hres⟩:∃r,r=checkI xs:=⟨_,rfl⟩
 rw[←hres]
 by_cases hE:areaE xs=0
 ·obtain⟨hl128,hg⟩:=areaE_zero hE
  rw[hE,areaV_ok hE]at ka
  have hsm:small (areaZ xs):=by
   have:=areaS_bd hg xs.length
   rw[areaS_all]at this
   unfold small
   omega
  have hn128:n≤128:=by omega
  have ks:∀W,Calls Tryz.prog 178 #[i128 (areaZ xs)] W fun e w'=>e= .returned (.int .i64 (sgI (areaZ xs)))∧Below W.heap.size W w':=fun W=>sign_any _ W hsm
  have kt:∀W,1≤n→Below w.heap.size w W→Calls Tryz.prog 177 #[.slice A n cap] W fun e w'=>∃t,e= .returned (.bool t)∧(t=true→¬xs.Nodup)∧Below W.heap.size W w':=fun W h1 hW=>twice_any xs A n cap W ((hr.below hW).more hW.size) h1 hn128
  have kp:∀W,Below w.heap.size w W→Calls Tryz.prog 179 #[.slice A n cap] W fun e w'=>e= .returned (.bool (simpleB xs))∧Below W.heap.size W w':=fun W hW=>simple_any xs A n cap W ((hr.below hW).more hW.size) hn128 hg
  unfold i128 at ka ks
  have HP:=Lib.hid (fun (t:Bool) (ht:t=true→¬xs.Nodup)=>check_plain hE ht)
  obtain⟨z,hz⟩:∃z,z=areaZ xs:=⟨_,rfl⟩
  rw[←hz]at ka ks HP
  rw[hl,←hres]at HP
  obtain⟨sb,hsb⟩:∃b,b=simpleB xs:=⟨_,rfl⟩
  rw[←hsb]at kp HP
  have HK:=Lib.hid (And.intro ka (And.intro ks (And.intro kt kp)))
  clear hres hE hg hz hl hr ka ks kt kp hsm hx hl128 hn hsb
  go_enter Tryz.func141,Tryz.ntmps141
  go_wp2_with fail
  with_reducible refine HK.out.1.mono ?_
  rintro e w1 ⟨rfl,hb1⟩
  have hb2:=hb1.alloc hb1.size (.cells #[.int .i64 (z/18446744073709551616),.int .u64 (z%18446744073709551616)] 37)
  have hz1:=hb1.size
  by_cases h3:n<3
  ·have H4:Hid (res=4):=(HP.out false (fun h=>by cases h)).2 (fun h=>by have:=h.1;omega)
   have hd3:decide ((n:Int)<3)=true:=decide_eq_true (by omega)
   go_wp2_with fail
   go_ret
   exact⟨by rw[H4.out];rfl,hb2⟩
  ·have hd3:decide ((n:Int)<3)=false:=decide_eq_false (by omega)
   have HB:=Lib.hid hb2
   go_wp2_with fail
   have bZ:=(Blk.new w1 37 #[.int .i64 (z/18446744073709551616),.int .u64 (z%18446744073709551616)])
   generalize hW:w1.alloc (.cells #[.int .i64 (z/18446744073709551616),.int .u64 (z%18446744073709551616)] 37)=W at *
   clear hW hb1 hb2
   with_reducible refine(HK.out.2.2.1 _ (by omega) HB.out).mono ?_
   rintro e w2 ⟨t,rfl,ht,hb3⟩
   rcases t with _|_
   ·have hB3:=below_on HB.out (Nat.le_refl _) hb3
    have bZ3:=bZ.below hb3 bZ.lt
    have HT:=HP.out false ht
    have HR:=Lib.hid HT
    clear HT HP ht hb3 HB
    have HB:=Lib.hid hB3
    obtain⟨z1,z2,-,-⟩:=blk_two bZ3
    clear hB3
    go_wp2_with fail
    with_reducible refine(HK.out.2.1 _).mono ?_
    rintro e w3 ⟨rfl,hb4⟩
    have hB4:=below_on HB.out (Nat.le_refl _) hb4
    clear hb4 HB bZ3 z1 z2
    have hs1:(0<z∧sgI z=1)∨(¬0<z∧(sgI z= -1∨sgI z=0)):=by unfold sgI;split<;>(try split)<;>omega
    rcases hs1 with ⟨hz,hs⟩|⟨hz,hs⟩
    ·rw[hs]
     have HZ:=Lib.hid hz
     clear hs hz
     have HB:=Lib.hid hB4
     clear hB4
     go_wp2_with fail
     with_reducible refine(HK.out.2.2.2 _ HB.out).mono ?_
     rintro e w5 ⟨rfl,hb5⟩
     have hB5:=below_on HB.out (Nat.le_refl _) hb5
     clear hb5 HB
     rcases sb with _|_
     ·have H4:Hid (res=4):=HR.out.2 (fun h=>by have:=h.2.2.2;cases this)
      go_wp2_with fail
      go_ret
      exact⟨by rw[H4.out];rfl,hB5⟩
     ·have H0:Hid (res=0):=HR.out.1 (by have:=HZ.out;simp;omega)
      go_wp2_with fail
      go_ret
      exact⟨by rw[H0.out];rfl,hB5⟩
    ·have H4:Hid (res=4):=HR.out.2 (fun h=>hz h.2.2.1)
     clear hz
     rcases hs with hs|hs
     all_goals
      rw[hs]
      clear hs
      go_wp2_with fail
      go_ret
      exact⟨by rw[H4.out];rfl,hB4⟩
   ·have hB3:=below_on HB.out (Nat.le_refl _) hb3
    have H4:Hid (res=4):=(HP.out true ht).2 (fun h=>by have:=h.2.1;cases this)
    clear HP ht hb3 HB
    go_wp2_with fail
    go_ret
    exact⟨by rw[H4.out];rfl,hB3⟩
 ·have he:res=areaE xs:=by rw[hres,checkI_err hE]
  have hv:areaV xs=0:=if_neg hE
  rw[hv,i128_zero,←he]at ka
  have hne:(res != 0)=true:=by rw[he];simpa using hE
  clear hr hn hx hl hres hE he hv
  go_enter Tryz.func141,Tryz.ntmps141
  go_wp2_with fail
  refine ka.mono ?_
  rintro e w1 ⟨rfl,hb1⟩
  go_wp2_with fail
  go_ret
  exact⟨rfl,hb1.alloc hb1.size _⟩
end Go.Proofs.YtpkeacnacjnlcaaGreat
namespace Go.Proofs.YtpkeacnacjnlcaaGreat
theorem not_touch {a b c d:Pt} (h:¬Touch a b c d):onB c d a=false∧onB c d b=false∧onB a b c=false∧onB a b d=false∧prB a b c d=false:=by
 unfold Touch at h
 refine⟨?_,?_,?_,?_,?_⟩<;>rw[←Bool.not_eq_true]<;>intro h'<;>exact h (by simp[h'])
/-- Of an upright way (X, y1) to (X, y2), and an edge that does not touch it. -/
theorem off_end {X y1 y2:Int} {p:Pt} (h:onB ⟨X,y1⟩ ⟨X,y2⟩ p=false) (h1:y1≤p.y) (h2:p.y≤y2):p.x≠X:=fun e=>by
 have:onB ⟨X,y1⟩ ⟨X,y2⟩ p=true:=by
  rw[onB_iff]
  refine⟨?_,?_,?_⟩
  ·unfold cr
   simp only[e,Int.sub_self,Int.zero_mul,Int.mul_zero]
  ·simp only;omega
  ·simp only;omega
 rw[this]at h
 cases h
theorem on_up {a b p:Pt} (h:onB a b p=false) (hc:cr a b p=0) (h1:a.y≤p.y) (h2:p.y≤b.y) (h3:a.y<b.y):False:=by
 have hx:¬((a.x≤p.x∧p.x≤b.x)∨(b.x≤p.x∧p.x≤a.x)):=fun hx=>by
  have:=(onB_iff a b p).2 ⟨hc,hx,.inl ⟨h1,h2⟩⟩
  rw[h]at this
  cases this
 apply hx
 unfold cr at hc
 have h1:(b.y-a.y)*(p.x-a.x)=(b.x-a.x)*(p.y-a.y):=by omega
 have:=line_btw (u:=b.y-a.y) (v:=b.x-a.x) (s:=p.y-a.y) (t:=p.x-a.x) (by omega) h1 (by omega) (by omega)
 omega
/-- The sign of X against an edge at a height of its own: which of its ends tells. -/
theorem cr_at (a b:Pt) (X y:Int):cr a b ⟨X,y⟩=(b.y-y)*(a.x-X)+(y-a.y)*(b.x-X):=by
 unfold cr
 grind
theorem pr_up {a b:Pt} {X y1 y2:Int} (hy:y1<y2):prB a b ⟨X,y1⟩ ⟨X,y2⟩=true↔((cr a b ⟨X,y1⟩<0∧0<cr a b ⟨X,y2⟩)∨(cr a b ⟨X,y2⟩<0∧0<cr a b ⟨X,y1⟩))∧((a.x<X∧X<b.x)∨(b.x<X∧X<a.x)):=by
 rw[prB_iff]
 have e:∀p:Pt,cr ⟨X,y1⟩ ⟨X,y2⟩ p=(y2-y1)*(X-p.x):=fun p=>by
  unfold cr
  simp only[Int.sub_self,Int.zero_mul]
  grind
 have hp:∀z:Int,((y2-y1)*z<0↔z<0)∧(0<(y2-y1)*z↔0<z):=fun z=>by
  have:=pos_sgn (N:=y2-y1) (x:=z) (y:=(y2-y1)*z) (by omega) rfl
  exact⟨this.2.1.symm,this.1.symm⟩
 rw[e,e,(hp _).1,(hp _).2,(hp _).1,(hp _).2]
 constructor
 ·rintro⟨h1,h2⟩;exact⟨h1,by omega⟩
 ·rintro⟨h1,h2⟩;exact⟨h1,by omega⟩
/-- The facts of an edge that does not touch the upright way, in numbers. -/
structure Off (a b:Pt) (X y1 y2:Int):Prop where
 ea:y1≤a.y→a.y≤y2→a.x≠X
 eb:y1≤b.y→b.y≤y2→b.x≠X
 c1:a.y≤y1→y1≤b.y→a.y<b.y→cr a b ⟨X,y1⟩≠0
 c2:a.y≤y2→y2≤b.y→a.y<b.y→cr a b ⟨X,y2⟩≠0
 pr:¬(((cr a b ⟨X,y1⟩<0∧0<cr a b ⟨X,y2⟩)∨(cr a b ⟨X,y2⟩<0∧0<cr a b ⟨X,y1⟩))∧((a.x<X∧X<b.x)∨(b.x<X∧X<a.x)))
 fl:a.y=b.y→a.y=y2→¬((a.x<X∧X<b.x)∨(b.x<X∧X<a.x))
theorem Off.of {a b:Pt} {X y1 y2:Int} (hy:y1<y2) (h:¬Touch a b ⟨X,y1⟩ ⟨X,y2⟩):Off a b X y1 y2:=by
 obtain⟨h1,h2,h3,h4,h5⟩:=not_touch h
 refine⟨off_end h1,off_end h2,fun g1 g2 g3 g4=>on_up h3 g4 g1 g2 g3,fun g1 g2 g3 g4=>on_up h4 g4 g1 g2 g3,fun g=>?_,fun g1 g2 g3=>?_⟩
 ·rw[(pr_up hy).2 g]at h5
  cases h5
 ·have:onB a b ⟨X,y2⟩=true:=by
   rw[onB_iff]
   refine⟨?_,?_,?_⟩
   ·rw[cr_at,←g1,g2,Int.sub_self]
    simp
   ·simp only;omega
   ·simp only;omega
  rw[this]at h4
  cases h4
/-- The ring that begins at k. -/
def rot (k:Nat) (xs:List Pt):List Pt:=xs.drop k++xs.take k
theorem rot_len {k:Nat} {xs:List Pt} (h:k≤xs.length):(rot k xs).length=xs.length:=by
 unfold rot
 rw[List.length_append,List.length_drop,List.length_take]
 omega
theorem ptAt_rot {k i:Nat} {xs:List Pt} (h:k<xs.length) (hi:i<xs.length):ptAt (rot k xs) i=ptAt xs ((k+i)%xs.length):=by
 unfold ptAt rot
 by_cases hlt:i<xs.length-k
 ·rw[List.getElem?_append_left (by rw[List.length_drop];exact hlt),List.getElem?_drop,Nat.mod_eq_of_lt (by omega)]
 ·rw[List.getElem?_append_right (by rw[List.length_drop];omega),List.length_drop,List.getElem?_take]
  have e:(k+i)%xs.length=i-(xs.length-k):=by
   rw[Nat.mod_eq_sub_mod (by omega),Nat.mod_eq_of_lt (by omega)]
   omega
  rw[e,if_pos (by omega)]
/-- Pairs, whichever is named first. -/
theorem prB_comm (a b c d:Pt):prB c d a b=prB a b c d:=by
 unfold prB
 rw[decide_eq_decide]
 exact And.comm
theorem endsL_comm {a b c d e:Pt}:e∈endsL c d a b↔e∈endsL a b c d:=by
 unfold endsL
 simp only[List.mem_append]
 constructor<;>rintro(h|h|h|h)<;>simp only[h,true_or,or_true]
theorem difB_iff (l:List Pt):difB l=true↔∃p q,p∈l∧q∈l∧p≠q:=by
 refine⟨difB_two,?_⟩
 rintro⟨p,q,hp,hq,hne⟩
 cases l with
 |nil=>cases hp
 |cons e t=>
  unfold difB
  rw[List.any_eq_true]
  by_cases h1:p=e
  ·subst h1
   refine⟨q,?_,decide_eq_true (fun h=>hne h.symm)⟩
   rcases List.mem_cons.1 hq with h|h
   ·exact absurd h.symm hne
   ·exact h
  ·refine⟨p,?_,decide_eq_true h1⟩
   rcases List.mem_cons.1 hp with h|h
   ·exact absurd h h1
   ·exact h
theorem meetR_comm (a b c d:Pt):meetR c d a b=meetR a b c d:=by
 have h1:difB (endsL c d a b)=difB (endsL a b c d):=by
  rw[Bool.eq_iff_iff,difB_iff,difB_iff]
  simp only[endsL_comm]
 have h2:endsL c d a b≠[]↔endsL a b c d≠[]:=by
  constructor<;>intro h<;>obtain⟨e,he⟩:=List.exists_mem_of_ne_nil _ h
  ·exact List.ne_nil_of_mem (endsL_comm.1 he)
  ·exact List.ne_nil_of_mem (endsL_comm.2 he)
 unfold meetR
 rw[h1,prB_comm]
 by_cases h:endsL a b c d≠[]
 ·rw[if_pos (h2.2 h),if_pos h]
 ·rw[if_neg (fun h'=>h (h2.1 h')),if_neg h]
/-- A point in common, as a share of either's ends. -/
def Com (a b c d:Pt) (N t A B:Int):Prop:=0<N∧0≤t∧t≤N∧0≤A∧0≤B∧A+B=N∧(N-t)*a.x+t*b.x=A*c.x+B*d.x∧(N-t)*a.y+t*b.y=A*c.y+B*d.y
theorem Com.other {a b c d:Pt} {N t A B:Int} (h:Com a b c d N t A B):Com c d a b N B (N-t) t:=by
 obtain⟨h1,h2,h3,h4,h5,h6,h7,h8⟩:=h
 exact⟨h1,h5,by omega,by omega,h2,by omega,by rw[show N-B=A by omega];exact h7.symm,by rw[show N-B=A by omega];exact h8.symm⟩
theorem prB_swap1 (a b c d:Pt):prB b a c d=prB a b c d:=by
 rw[Bool.eq_iff_iff,prB_iff,prB_iff,cr_swapT a b c,cr_swapT a b d]
 omega
theorem meetR_swap1 (a b c d:Pt):meetR b a c d=meetR a b c d:=by
 have hm:∀e,e∈endsL b a c d↔e∈endsL a b c d:=fun e=>by
  unfold endsL
  rw[onB_swap b a c,onB_swap b a d]
  simp only[List.mem_append]
  constructor<;>rintro(h|h|h|h)<;>simp only[h,true_or,or_true]
 have h1:difB (endsL b a c d)=difB (endsL a b c d):=by
  rw[Bool.eq_iff_iff,difB_iff,difB_iff]
  simp only[hm]
 have h2:endsL b a c d≠[]↔endsL a b c d≠[]:=by
  constructor<;>intro h<;>obtain⟨e,he⟩:=List.exists_mem_of_ne_nil _ h
  ·exact List.ne_nil_of_mem ((hm e).1 he)
  ·exact List.ne_nil_of_mem ((hm e).2 he)
 unfold meetR
 rw[h1,prB_swap1]
 by_cases h:endsL a b c d≠[]
 ·rw[if_pos (h2.2 h),if_pos h]
 ·rw[if_neg (fun h'=>h (h2.1 h')),if_neg h]
theorem meetR_swap2 (a b c d:Pt):meetR a b d c=meetR a b c d:=by rw[←meetR_comm,meetR_swap1,meetR_comm]
/-- The place of the least of the first m corners, the first of those that are alike. -/
def leastN (xs:List Pt):Nat→Nat
 |0=>0
 |m+1=>if ordI (ptAt xs m) (ptAt xs (leastN xs m))<0 then m else leastN xs m
theorem leastN_lt (xs:List Pt) {m:Nat} (h:0<m):leastN xs m<m:=by
 induction m with
 |zero=>omega
 |succ m ih=>
  unfold leastN
  split
  ·omega
  ·rcases Nat.eq_zero_or_pos m with h0|h0
   ·subst h0;unfold leastN;omega
   ·have:=ih h0;omega
theorem ordI_eq {a b:Pt}:ordI a b=0↔a=b:=by
 obtain⟨ax,ay⟩:=a
 obtain⟨bx,by_⟩:=b
 unfold ordI orI
 simp only[Pt.mk.injEq]
 rcases cmpI_cases ax bx with ⟨h,e⟩|⟨h,e⟩|⟨h,e⟩<;>rcases cmpI_cases ay by_ with ⟨h',e'⟩|⟨h',e'⟩|⟨h',e'⟩<;>rw[e,e']<;>simp<;>omega
structure Ed where
 a:Pt
 b:Pt
 deriving DecidableEq
def Ed.back (e:Ed):Ed:=⟨e.b,e.a⟩
def Ed.norm (e:Ed):Ed:=if 0<ordI e.a e.b then e.back else e
structure Parc where
 id:Int
 ring:List Pt
 owner:ByteArray
structure Plan where
 outer:List Pt
 parcels:List Parc
def edgesOf (xs:List Pt):List Ed:=(List.range xs.length).map fun k=>⟨ptAt xs k,ptAt xs ((k+1)%xs.length)⟩
def allE (ps:List Parc):List Ed:=ps.flatMap fun x=>edgesOf x.ring
def ownB (s:ByteArray):Bool:=decide (s.size≤32)&&s.data.toList.all fun c=>decide (32≤c.toNat∧c.toNat≤126)
def idB (n:Int):Bool:=decide (1≤n∧n≤1073741824)
def listN:Nat→Int→List Parc→Bool
 |_,_,[]=>true
 |n,last,x::r=>idB x.id&&(decide (last<x.id)&&(ownB x.owner&&(decide (n+x.ring.length≤1024)&&listN (n+x.ring.length) x.id r)))
theorem listN_cons (n:Nat) (last:Int) (x:Parc) (r:List Parc):listN n last (x::r)=(idB x.id&&(decide (last<x.id)&&(ownB x.owner&&(decide (n+x.ring.length≤1024)&&listN (n+x.ring.length) x.id r)))):=rfl
theorem listN_nil (n:Nat) (last:Int):listN n last []=true:=rfl
def cornN:Nat→List Parc→Nat
 |n,[]=>n
 |n,x::r=>cornN (n+x.ring.length) r
theorem cornN_cons (n:Nat) (x:Parc) (r:List Parc):cornN n (x::r)=cornN (n+x.ring.length) r:=rfl
theorem cornN_nil (n:Nat):cornN n []=n:=rfl
def listedB (p:Plan):Bool:=listN p.outer.length 0 p.parcels&&(decide (1≤p.parcels.length)&&(decide (p.parcels.length≤64)&&decide (cornN p.outer.length p.parcels≤1024)))
def NormedP (xs:List Pt):Prop:=checkI xs=0∧xs=rot (leastN xs xs.length) xs
def MatchP (p:Plan):Prop:=(allE p.parcels).Nodup∧(∀e∈edgesOf p.outer,e∈allE p.parcels)∧∀e∈allE p.parcels,(e.back∈allE p.parcels↔e∉edgesOf p.outer)
def shareB (e f:Ed):Bool:=decide (e.a=f.a)||(decide (e.a=f.b)||(decide (e.b=f.a)||decide (e.b=f.b)))
def meetE (e f:Ed):Int:=meetR e.a e.b f.a f.b
def apartB (e f:Ed):Bool:=if meetE e f=0 then true else if meetE e f=1 then shareB e f else decide (meetE e f=3)&&(decide (e=f)||decide (e=f.back))
def okR (e f:Ed):Bool:=!(decide (meetE e f=2)||((decide (meetE e f=1)&&!shareB e f)||(decide (meetE e f=3)&&!decide (e=f.back))))
def PairsE (l:List Ed):Prop:=∀i j (hi:i<l.length) (hj:j<l.length),i<j→okR l[i] l[j]=true
def SweepE (l:List Ed):Prop:=∀i j (hi:i<l.length) (hj:j<l.length),i<j→(∀m (hm:m<l.length),i<m→m≤j→l[m].a.x≤l[i].b.x)→apartB l[i] l[j]=true
def areasL (ps:List Parc):Int:=sumL (ps.map fun x=>areaZ x.ring)
def SoundP (p:Plan):Prop:=listedB p=true∧NormedP p.outer∧(∀x∈p.parcels,NormedP x.ring)∧MatchP p∧PairsE (allE p.parcels)∧areasL p.parcels=areaZ p.outer
open Classical in
noncomputable def planB (p:Plan):Bool:=decide (SoundP p)
noncomputable def planE (p:Plan):Int:=if planB p=true then 0 else 2
theorem Ed.back_back (e:Ed):e.back.back=e:=rfl
theorem ordI_anti {a b:Pt} (h:0<ordI a b):ordI b a<0:=by
 unfold ordI orI at *
 rcases cmpI_cases a.x b.x with ⟨h1,e⟩|⟨h1,e⟩|⟨h1,e⟩<;>rcases cmpI_cases a.y b.y with ⟨h2,e'⟩|⟨h2,e'⟩|⟨h2,e'⟩<;>rcases cmpI_cases b.x a.x with ⟨h3,f⟩|⟨h3,f⟩|⟨h3,f⟩<;>rcases cmpI_cases b.y a.y with ⟨h4,f'⟩|⟨h4,f'⟩|⟨h4,f'⟩<;>rw[e,e']at h<;>rw[f,f']<;>(first|omega|(simp at h;done)|simp)
theorem ordI_le {a b:Pt} (h:ordI a b≤0):a.x≤b.x:=by
 unfold ordI orI at h
 rcases cmpI_cases a.x b.x with ⟨h1,e⟩|⟨h1,e⟩|⟨h1,e⟩
 ·omega
 ·rw[e]at h;simp at h
 ·omega
theorem ordI_both {a b:Pt} (h:ordI a b≤0) (h':ordI b a≤0):a=b:=by
 obtain⟨ax,ay⟩:=a
 obtain⟨bx,by_⟩:=b
 unfold ordI orI at *
 simp only[Pt.mk.injEq]at *
 rcases cmpI_cases ax bx with ⟨h1,e⟩|⟨h1,e⟩|⟨h1,e⟩<;>rcases cmpI_cases ay by_ with ⟨h2,e'⟩|⟨h2,e'⟩|⟨h2,e'⟩<;>rcases cmpI_cases bx ax with ⟨h3,f⟩|⟨h3,f⟩|⟨h3,f⟩<;>rcases cmpI_cases by_ ay with ⟨h4,f'⟩|⟨h4,f'⟩|⟨h4,f'⟩<;>rw[e,e']at h<;>rw[f,f']at h'<;>(first|omega|(simp at h;done)|(simp at h';done)|(simp at h h';omega))
theorem Ed.norm_le (e:Ed):ordI e.norm.a e.norm.b≤0:=by
 unfold Ed.norm
 split
 ·rename_i h
  have:=ordI_anti h
  show ordI e.b e.a≤0
  omega
 ·omega
theorem Ed.norm_or (e:Ed):e.norm=e∨e.norm=e.back:=by
 unfold Ed.norm
 split
 ·exact .inr rfl
 ·exact .inl rfl
theorem Ed.norm_back {e:Ed} (h:e.a≠e.b):e.back.norm=e.norm:=by
 have h1:ordI e.a e.b≠0:=fun h'=>h (ordI_eq.1 h')
 have h2:ordI e.b e.a≠0:=fun h'=>h (ordI_eq.1 h').symm
 unfold Ed.norm Ed.back
 by_cases h3:0<ordI e.a e.b
 ·have:=ordI_anti h3
  rw[if_pos h3,if_neg (by simp only;omega)]
 ·rw[if_neg h3]
  have h4:0<ordI e.b e.a:=by
   rcases Int.lt_trichotomy (ordI e.b e.a) 0 with g|g|g
   ·exfalso
    have:=ordI_eq (a:=e.a) (b:=e.b)
    unfold ordI orI at h1 h2 h3 g
    rcases cmpI_cases e.a.x e.b.x with ⟨k1,e1⟩|⟨k1,e1⟩|⟨k1,e1⟩<;>rcases cmpI_cases e.a.y e.b.y with ⟨k2,e2⟩|⟨k2,e2⟩|⟨k2,e2⟩<;>rcases cmpI_cases e.b.x e.a.x with ⟨k3,e3⟩|⟨k3,e3⟩|⟨k3,e3⟩<;>rcases cmpI_cases e.b.y e.a.y with ⟨k4,e4⟩|⟨k4,e4⟩|⟨k4,e4⟩<;>rw[e1,e2]at h1 h3<;>rw[e3,e4]at g<;>(first|omega|(simp at h1 h3 g;done)|(simp at g;done)|(simp at h3;done)|(simp at h1;done))
   ·exact absurd g h2
   ·exact g
  rw[if_pos (by simpa using h4)]
theorem Ed.norm_eq {e f:Ed} (h:e.norm=f.norm):e=f∨e=f.back:=by
 rcases e.norm_or with h1|h1<;>rcases f.norm_or with h2|h2<;>rw[h1,h2]at h
 ·exact .inl h
 ·exact .inr h
 ·right;rw[←Ed.back_back e,h]
 ·left;rw[←Ed.back_back e,h,Ed.back_back]
theorem meetE_comm (e f:Ed):meetE f e=meetE e f:=meetR_comm _ _ _ _
theorem meetE_back1 (e f:Ed):meetE e.back f=meetE e f:=meetR_swap1 _ _ _ _
theorem meetE_back2 (e f:Ed):meetE e f.back=meetE e f:=meetR_swap2 _ _ _ _
theorem meetE_norm (e f:Ed):meetE e.norm f.norm=meetE e f:=by
 rcases e.norm_or with h1|h1<;>rcases f.norm_or with h2|h2<;>rw[h1,h2]
 ·rw[meetE_back2]
 ·rw[meetE_back1]
 ·rw[meetE_back1,meetE_back2]
theorem shareB_iff (e f:Ed):shareB e f=true↔e.a=f.a∨e.a=f.b∨e.b=f.a∨e.b=f.b:=by
 unfold shareB;simp
theorem shareB_comm (e f:Ed):shareB f e=shareB e f:=by
 rw[Bool.eq_iff_iff,shareB_iff,shareB_iff]
 constructor<;>(rintro (h|h|h|h)<;>simp[h])
theorem shareB_norm (e f:Ed):shareB e.norm f.norm=shareB e f:=by
 rw[Bool.eq_iff_iff,shareB_iff,shareB_iff]
 rcases e.norm_or with h1|h1<;>rcases f.norm_or with h2|h2<;>rw[h1,h2]<;>unfold Ed.back<;>simp only<;>(constructor<;>(rintro (h|h|h|h)<;>simp[h]))
theorem meetE_cases (e f:Ed):meetE e f=0∨meetE e f=1∨meetE e f=2∨meetE e f=3:=by
 unfold meetE meetR
 split
 ·simp
 ·split
  ·simp
  ·split<;>simp
theorem meetE_self {e:Ed} (h:e.a≠e.b):meetE e e=3:=by
 have h1:=onB_self e.a e.b
 unfold meetE meetR
 rw[if_pos]
 have:endsL e.a e.b e.a e.b=[e.a,e.b,e.a,e.b]:=by unfold endsL;simp[h1.1,h1.2]
 rw[this,difB_iff]
 exact⟨e.a,e.b,by simp,by simp,h⟩
theorem okR_iff (e f:Ed):okR e f=true↔meetE e f≠2∧(meetE e f=1→shareB e f=true)∧(meetE e f=3→e=f.back):=by
 unfold okR
 by_cases h1:meetE e f=1<;>by_cases h2:meetE e f=2<;>by_cases h3:meetE e f=3<;>by_cases h4:e=f.back<;>rcases h5:shareB e f with _|_<;>simp[h1,h2,h3,h4]
theorem okR_comm (e f:Ed):okR f e=okR e f:=by
 rw[Bool.eq_iff_iff,okR_iff,okR_iff,meetE_comm,shareB_comm]
 have:f=e.back↔e=f.back:=⟨fun h=>by rw[h];rfl,fun h=>by rw[h];rfl⟩
 rw[this]
theorem apartB_iff (e f:Ed):apartB e f=true↔meetE e f≠2∧(meetE e f=1→shareB e f=true)∧(meetE e f=3→e=f∨e=f.back):=by
 unfold apartB
 rcases meetE_cases e f with h|h|h|h<;>rw[h]<;>simp
/-- Stretches of which the one stands wholly to the left of the other have no point in common. -/
theorem meetE_left {e f:Ed} (he:good e.a=true∧good e.b=true) (hf:good f.a=true∧good f.b=true) (h1:e.a.x≤e.b.x) (h2:f.a.x≤f.b.x) (h:e.b.x<f.a.x):meetE e f=0:=by
 unfold meetE
 rw[←meet_eq he.1 he.2 hf.1 hf.2]
 unfold meetP
 rw[if_pos]
 unfold apB mx mn
 rw[decide_eq_true_eq]
 left
 split<;>split<;>omega
/-- The sweep over the stretches, each once and turned up, sees what all pairs show. -/
theorem sweep_iff {l L:List Ed} (hn:l.Nodup) (hd:∀e∈l,e.a≠e.b) (hg:∀e∈l,good e.a=true∧good e.b=true) (hm:∀e,e∈L↔∃f∈l,e=f.norm)
 (hs:L.Pairwise fun e f=>e≠f∧ordI e.a f.a≤0):SweepE L↔PairsE l:=by
 have hgL:∀e∈L,(good e.a=true∧good e.b=true)∧e.a.x≤e.b.x:=fun e he=>by
  obtain⟨f,hf,rfl⟩:=(hm e).1 he
  have:=hg f hf
  refine⟨?_,ordI_le f.norm_le⟩
  rcases f.norm_or with h|h<;>rw[h]
  ·exact this
  ·exact⟨this.2,this.1⟩
 have hs':∀i j (hi:i<L.length) (hj:j<L.length),i<j→L[i]≠L[j]∧L[i].a.x≤L[j].a.x:=fun i j hi hj hij=>by
  have:=List.pairwise_iff_getElem.1 hs i j hi hj hij
  exact⟨this.1,ordI_le this.2⟩
 constructor
 ·intro hS i j hi hj hij
  have hne:l[i]≠l[j]:=List.pairwise_iff_getElem.1 hn i j hi hj hij
  have hei:=List.getElem_mem hi
  have hej:=List.getElem_mem hj
  by_cases hnm:l[i].norm=l[j].norm
  ·rcases Ed.norm_eq hnm with h|h
   ·exact absurd h hne
   ·rw[okR_iff,h,meetE_back1,meetE_self (hd _ hej)]
    simp
  ·
   have key:∀e f,e∈l→f∈l→e.norm≠f.norm→(∃i j,∃hi:i<L.length,∃hj:j<L.length,i<j∧L[i]=e.norm∧L[j]=f.norm)→okR e f=true:=by
    rintro e f he hf hne ⟨i,j,hi,hj,hij,e1,e2⟩
    have hap:meetE e f≠2∧(meetE e f=1→shareB e f=true)∧(meetE e f=3→e.norm=f.norm∨e.norm=f.norm.back):=by
     by_cases hcut:∀m (hm:m<L.length),i<m→m≤j→L[m].a.x≤L[i].b.x
     ·have:=hS i j hi hj hij hcut
      rw[e1,e2,apartB_iff,meetE_norm,shareB_norm]at this
      exact this
     ·obtain⟨m,hm⟩:=Classical.not_forall.1 hcut
      obtain⟨hml,hm⟩:=Classical.not_forall.1 hm
      obtain⟨h1,hm⟩:=Classical.not_forall.1 hm
      obtain⟨h2,hm⟩:=Classical.not_forall.1 hm
      have hx:L[m].a.x≤L[j].a.x:=by
       rcases Nat.lt_or_ge m j with h|h
       ·exact(hs' m j hml hj h).2
       ·have:m=j:=Nat.le_antisymm h2 h
        subst this;exact Int.le_refl _
      have hi':=hgL _ (List.getElem_mem hi)
      have hj':=hgL _ (List.getElem_mem hj)
      have h0:=meetE_left hi'.1 hj'.1 hi'.2 hj'.2 (Int.lt_of_lt_of_le (Int.not_le.1 hm) hx)
      rw[e1,e2,meetE_norm]at h0
      rw[h0]
      simp
    rw[okR_iff]
    refine⟨hap.1,hap.2.1,fun h3=>?_⟩
    rcases hap.2.2 h3 with h|h
    ·exact absurd h hne
    ·exfalso
     have a1:=e.norm_le
     have a2:=f.norm_le
     rw[h]at a1
     unfold Ed.back at a1
     simp only at a1
     have heq:=ordI_both a2 a1
     have:=hd f hf
     rcases f.norm_or with g|g<;>rw[g]at heq
     ·exact this heq
     ·exact this heq.symm
   obtain⟨p,hp,hp'⟩:=List.getElem_of_mem ((hm l[i].norm).2 ⟨_,hei,rfl⟩)
   obtain⟨q,hq,hq'⟩:=List.getElem_of_mem ((hm l[j].norm).2 ⟨_,hej,rfl⟩)
   rcases Nat.lt_trichotomy p q with h|h|h
   ·exact key _ _ hei hej hnm ⟨p,q,hp,hq,h,hp',hq'⟩
   ·subst h
    exact absurd (hp'.symm.trans hq') hnm
   ·rw[←okR_comm]
    exact key _ _ hej hei (fun h=>hnm h.symm) ⟨q,p,hq,hp,h,hq',hp'⟩
 ·intro hP i j hi hj hij _
  obtain⟨hne,-⟩:=hs' i j hi hj hij
  obtain⟨e,he,h1⟩:=(hm _).1 (List.getElem_mem hi)
  obtain⟨f,hf,h2⟩:=(hm _).1 (List.getElem_mem hj)
  rw[h1,h2]at hne ⊢
  have hef:e≠f:=fun h=>hne (by rw[h])
  have hok:okR e f=true:=by
   obtain⟨p,hp,rfl⟩:=List.getElem_of_mem he
   obtain⟨q,hq,rfl⟩:=List.getElem_of_mem hf
   rcases Nat.lt_trichotomy p q with h|h|h
   ·exact hP p q hp hq h
   ·subst h;exact absurd rfl hef
   ·rw[←okR_comm];exact hP q p hq hp h
  rw[okR_iff]at hok
  rw[apartB_iff,meetE_norm,shareB_norm]
  refine⟨hok.1,hok.2.1,fun h3=>?_⟩
  exfalso
  have:=hok.2.2 h3
  rw[this,Ed.norm_back (hd f hf)]at hne
  exact hne rfl
end Go.Proofs.YtpkeacnacjnlcaaGreat
