/- Plain words: the order of numbers and points, the area of three points, and on which side one is. No condition; Operations of a drawn region that move the world: the steps in short; What has to be put, and what goes, to come from some items to others: the plain law of RecordDelta; Keys that rise: numbers as bytes, heads in common. Plain laws. -/
import Derived.Deep.RegionHeld3
import Derived.StillTailTactics
import Derived.Test.YtpkeacnacjnlcaaGreatK01
namespace Go.Proofs.YtpkeacnacjnlcaaGreat
def sgn (z:Int):Int:=if z<0 then -1 else if 0<z then 1 else 0
def cmpI (x y:Int):Int:=if x<y then -1 else if y<x then 1 else 0
/-- The order of points: by X, then by Y. -/
def orI (x y:Int):Int:=if x≠0 then x else y
def ordI (a b:Pt):Int:=orI (cmpI a.x b.x) (cmpI a.y b.y)
/-- Twice the area of three points, with a sign. -/
def cr (a b c:Pt):Int:=(b.x-a.x)*(c.y-a.y)-(b.y-a.y)*(c.x-a.x)
def btw (a b n:Int):Bool:=decide ((a≤n∧n≤b)∨(b≤n∧n≤a))
/-- Is p on the stretch? -/
def onB (a b p:Pt):Bool:=decide (cr a b p=0)&&(btw a.x b.x p.x&&btw a.y b.y p.y)
theorem cmpI_bd (x y:Int): -1≤cmpI x y∧cmpI x y≤1:=by unfold cmpI;split<;>(try split)<;>omega
theorem sgn_bd (z:Int): -1≤sgn z∧sgn z≤1:=cmpI_bd z 0
theorem sgn_eq {z:Int}:sgn z=0↔z=0:=by unfold sgn;split<;>(try split)<;>omega
theorem mulb (x y M:Int) (hx:0≤x) (h1: -M≤y) (h2:y≤M): -(x*M)≤x*y∧x*y≤x*M:=by
 have e1:=Int.mul_le_mul_of_nonneg_left h2 hx
 have e2:=Int.mul_le_mul_of_nonneg_left h1 hx
 rw[Int.mul_neg]at e2
 exact⟨e2,e1⟩
/-- A product of two numbers within 2^31. -/
theorem prod_bd (x y:Int) (h1: -2147483648≤x) (h2:x≤2147483648) (h3: -2147483648≤y) (h4:y≤2147483648): -4611686018427387904≤x*y∧x*y≤4611686018427387904:=by
 by_cases h:0≤x
 ·have:=mulb x y 2147483648 h h3 h4
  omega
 ·have:=mulb (-x) y 2147483648 (by omega) h3 h4
  simp only[Int.neg_mul]at this
  omega
theorem cr_bd' (u v s t:Int) (hu: -2147483648≤u∧u≤2147483648) (hv: -2147483648≤v∧v≤2147483648) (hs: -2147483648≤s∧s≤2147483648) (ht: -2147483648≤t∧t≤2147483648)
 (hut: -2147483648≤u-t∧u-t≤2147483648) (hvs: -2147483648≤v-s∧v-s≤2147483648): -4611686018427387904≤u*v-s*t∧u*v-s*t≤4611686018427387904:=by
 rw[Int.mul_comm s t]
 by_cases h1:0≤u<;>by_cases h2:0≤t
 ·by_cases h3:t≤u
  ·have e:u*v-t*s=(u-t)*v+t*(v-s):=by grind
   have a1:=mulb (u-t) v 2147483648 (by omega) hv.1 hv.2
   have a2:=mulb t (v-s) 2147483648 h2 hvs.1 hvs.2
   omega
  ·have e:u*v-t*s=u*(v-s)-(t-u)*s:=by grind
   have a1:=mulb (t-u) s 2147483648 (by omega) hs.1 hs.2
   have a2:=mulb u (v-s) 2147483648 h1 hvs.1 hvs.2
   omega
 ·have a1:=mulb u v 2147483648 h1 hv.1 hv.2
  have a2:=mulb (-t) s 2147483648 (by omega) hs.1 hs.2
  simp only[Int.neg_mul]at a2
  omega
 ·have a1:=mulb (-u) v 2147483648 (by omega) hv.1 hv.2
  have a2:=mulb t s 2147483648 (by omega) hs.1 hs.2
  simp only[Int.neg_mul]at a1
  omega
 ·by_cases h3:t≤u
  ·have e:u*v-t*s= -((-u)*(v-s))+(u-t)*s:=by grind
   have a1:=mulb (u-t) s 2147483648 (by omega) hs.1 hs.2
   have a2:=mulb (-u) (v-s) 2147483648 (by omega) hvs.1 hvs.2
   omega
  ·have e:u*v-t*s= -((t-u)*v)-(-t)*(v-s):=by grind
   have a1:=mulb (t-u) v 2147483648 (by omega) hv.1 hv.2
   have a2:=mulb (-t) (v-s) 2147483648 (by omega) hvs.1 hvs.2
   omega
theorem cr_bd {a b c:Pt} (ha:good a=true) (hb:good b=true) (hc:good c=true): -4611686018427387904≤cr a b c∧cr a b c≤4611686018427387904:=by
 rw[good_iff]at ha hb hc
 unfold cr
 exact cr_bd' _ _ _ _ (by omega) (by omega) (by omega) (by omega) (by omega) (by omega)
theorem cr_parts {a b c:Pt} (ha:good a=true) (hb:good b=true) (hc:good c=true):
 (-4611686018427387904≤(b.x-a.x)*(c.y-a.y)∧(b.x-a.x)*(c.y-a.y)≤4611686018427387904)∧ -4611686018427387904≤(b.y-a.y)*(c.x-a.x)∧(b.y-a.y)*(c.x-a.x)≤4611686018427387904:=by
 rw[good_iff]at ha hb hc
 exact⟨prod_bd _ _ (by omega) (by omega) (by omega) (by omega),prod_bd _ _ (by omega) (by omega) (by omega) (by omega)⟩
/-- The lesser end first. -/
def endA (a b:Pt):Pt:=if 0<ordI a b then b else a
def endB (a b:Pt):Pt:=if 0<ordI a b then a else b
/-- As the program asks whether p is on the stretch. -/
def onP (a b p:Pt):Bool:=decide (sgn (cr a b p)=0)&&(decide (ordI (endA a b) p≤0)&&decide (ordI p (endB a b)≤0))
theorem onP_cases (a b p:Pt):(¬sgn (cr a b p)=0∧onP a b p=false)∨(sgn (cr a b p)=0∧0<ordI (endA a b) p∧onP a b p=false)∨(sgn (cr a b p)=0∧ordI (endA a b) p≤0∧0<ordI p (endB a b)∧onP a b p=false)∨(sgn (cr a b p)=0∧ordI (endA a b) p≤0∧ordI p (endB a b)≤0∧onP a b p=true):=by
 unfold onP
 by_cases h1:sgn (cr a b p)=0
 ·right
  by_cases h2:ordI (endA a b) p≤0
  ·right
   by_cases h3:ordI p (endB a b)≤0
   ·right;exact⟨h1,h2,h3,by simp[h1,h2,h3]⟩
   ·left;exact⟨h1,h2,by omega,by simp[h3]⟩
  ·left;exact⟨h1,by omega,by simp[h2]⟩
 ·left;exact⟨h1,by simp[h1]⟩
def lnF (a b c d:Pt):Pt:=if 0<ordI (endA a b) (endA c d)then endA a b else endA c d
def lnT (a b c d:Pt):Pt:=if ordI (endB c d) (endB a b)<0 then endB c d else endB a b
def lineI (a b c d:Pt):Int:=if 0<ordI (lnF a b c d) (lnT a b c d)then 0 else if ordI (lnF a b c d) (lnT a b c d)=0 then 1 else 3
theorem lineI_cases (a b c d:Pt):(0<ordI (lnF a b c d) (lnT a b c d)∧lineI a b c d=0)∨(ordI (lnF a b c d) (lnT a b c d)=0∧lineI a b c d=1)∨(ordI (lnF a b c d) (lnT a b c d)<0∧lineI a b c d=3):=by
 unfold lineI
 split
 ·exact .inl ⟨by assumption,rfl⟩
 ·split
  ·exact .inr (.inl ⟨by assumption,rfl⟩)
  ·exact .inr (.inr ⟨by omega,rfl⟩)
def mx (x y:Int):Int:=if x<y then y else x
def mn (x y:Int):Int:=if y<x then y else x
/-- Do the stretches lie beyond one another? -/
def apB (a b c d:Pt):Bool:=decide (mx a.x b.x<mn c.x d.x∨mx c.x d.x<mn a.x b.x∨mx a.y b.y<mn c.y d.y∨mx c.y d.y<mn a.y b.y)
def zeB (a b c d:Pt):Bool:=decide (sgn (cr a b c)=0∧sgn (cr a b d)=0∧sgn (cr c d a)=0∧sgn (cr c d b)=0)
def prB (a b c d:Pt):Bool:=decide (sgn (cr a b c)*sgn (cr a b d)<0∧sgn (cr c d a)*sgn (cr c d b)<0)
def oeB (a b c d:Pt):Bool:=onP a b c||(onP a b d||(onP c d a||onP c d b))
def meetP (a b c d:Pt):Int:=if apB a b c d=true then 0 else if zeB a b c d=true then lineI a b c d else if prB a b c d=true then 2 else if oeB a b c d=true then 1 else 0
theorem cmpI_cases (x y:Int):(x<y∧cmpI x y= -1)∨(y<x∧cmpI x y=1)∨(x=y∧cmpI x y=0):=by unfold cmpI;split<;>(try split)<;>omega
/-- A point as one number, by X, then by Y. -/
def key (p:Pt):Int:=p.x*8589934592+p.y
theorem key_ord {p q:Pt} (hp:good p=true) (hq:good q=true):(key p<key q∧ordI p q= -1)∨(key q<key p∧ordI p q=1)∨(p=q∧key p=key q∧ordI p q=0):=by
 rw[good_iff]at hp hq
 unfold key ordI orI
 rcases cmpI_cases p.x q.x with ⟨h,e⟩|⟨h,e⟩|⟨h,e⟩<;>rw[e]
 ·left;exact⟨by omega,by simp⟩
 ·right;left;exact⟨by omega,by simp⟩
 ·rcases cmpI_cases p.y q.y with ⟨h',e'⟩|⟨h',e'⟩|⟨h',e'⟩<;>rw[e']
  ·left;exact⟨by omega,by simp⟩
  ·right;left;exact⟨by omega,by simp⟩
  ·right;right
   obtain⟨px,py⟩:=p
   obtain⟨qx,qy⟩:=q
   simp only at h h'
   subst h h'
   exact⟨rfl,rfl,by simp⟩
theorem ends_key {a b:Pt} (ha:good a=true) (hb:good b=true):(key a≤key b∧endA a b=a∧endB a b=b)∨(key b<key a∧endA a b=b∧endB a b=a):=by
 unfold endA endB
 rcases key_ord ha hb with ⟨h,e⟩|⟨h,e⟩|⟨h,h',e⟩<;>rw[e]
 ·left;exact⟨by omega,by simp,by simp⟩
 ·right;exact⟨by omega,by simp,by simp⟩
 ·left;exact⟨by omega,by simp,by simp⟩
/-- Is p on the stretch, by keys? -/
theorem onP_key {a b p:Pt} (ha:good a=true) (hb:good b=true) (hp:good p=true):onP a b p=true↔cr a b p=0∧((key a≤key p∧key p≤key b)∨(key b≤key p∧key p≤key a)):=by
 unfold onP
 simp only[Bool.and_eq_true,decide_eq_true_eq,sgn_eq]
 rcases ends_key ha hb with ⟨h,e1,e2⟩|⟨h,e1,e2⟩<;>rw[e1,e2]
 ·have h1:=key_ord ha hp
  have h2:=key_ord hp hb
  constructor
  ·rintro⟨h0,h3,h4⟩;exact⟨h0,by omega⟩
  ·rintro⟨h0,h3⟩;exact⟨h0,by omega,by omega⟩
 ·have h1:=key_ord hb hp
  have h2:=key_ord hp ha
  constructor
  ·rintro⟨h0,h3,h4⟩;exact⟨h0,by omega⟩
  ·rintro⟨h0,h3⟩;exact⟨h0,by omega,by omega⟩
theorem nn_of_mul {u t:Int} (hu:0<u) (h:0≤u*t):0≤t:=by
 by_cases ht:0≤t
 ·exact ht
 ·have:=Int.mul_neg_of_pos_of_neg hu (by omega:t<0)
  omega
theorem le_of_mul {u s t:Int} (hu:0<u) (h:u*s≤u*t):s≤t:=by
 have:0≤u*(t-s):=by rw[Int.mul_sub];omega
 have:=nn_of_mul hu this
 omega
/-- Along a stretch that is not upright: where x lies between, so does y. -/
theorem line_btw {u v s t:Int} (hu:0<u) (h:u*t=v*s) (h0:0≤s) (h1:s≤u):(0≤t∧t≤v)∨(v≤t∧t≤0):=by
 by_cases hv:0≤v
 ·left
  have a1:=Int.mul_nonneg hv h0
  have a2:=Int.mul_le_mul_of_nonneg_left h1 hv
  refine⟨nn_of_mul hu (by omega),le_of_mul hu ?_⟩
  rw[h,Int.mul_comm u v];exact a2
 ·right
  have a1:=Int.mul_nonneg (by omega:0≤ -v) h0
  have a2:=Int.mul_le_mul_of_nonneg_left h1 (by omega:0≤ -v)
  simp only[Int.neg_mul]at a1 a2
  refine⟨le_of_mul hu ?_,?_⟩
  ·rw[h,Int.mul_comm u v];omega
  ·have:0≤u*(-t):=by rw[Int.mul_neg,h];exact a1
   have:=nn_of_mul hu this
   omega
theorem line_zero {u t:Int} (hu:u≠0) (h:u*t=0):t=0:=by
 rcases Int.mul_eq_zero.1 h with h|h
 ·exact absurd h hu
 ·exact h
/-- The two ways to ask whether p is between. -/
theorem btw_key {a b p:Pt} (ha:good a=true) (hb:good b=true) (hp:good p=true) (h:cr a b p=0):
 ((key a≤key p∧key p≤key b)∨(key b≤key p∧key p≤key a))↔(((a.x≤p.x∧p.x≤b.x)∨(b.x≤p.x∧p.x≤a.x))∧((a.y≤p.y∧p.y≤b.y)∨(b.y≤p.y∧p.y≤a.y))):=by
 rw[good_iff]at ha hb hp
 unfold cr at h
 unfold key
 obtain⟨u,hu⟩:∃u,u=b.x-a.x:=⟨_,rfl⟩
 obtain⟨v,hv⟩:∃v,v=b.y-a.y:=⟨_,rfl⟩
 obtain⟨s,hs⟩:∃s,s=p.x-a.x:=⟨_,rfl⟩
 obtain⟨t,ht⟩:∃t,t=p.y-a.y:=⟨_,rfl⟩
 rw[←hu,←hv,←hs,←ht]at h
 have h3:0<u∨u<0∨u=0:=by omega
 rcases h3 with h3|h3|h3
 ·have e:=line_btw (s:=s) (t:=t) (v:=v) h3 (by omega)
  have z1:s=0→t=0:=fun q=>line_zero (by omega:u≠0) (by rw[q]at h;simpa using h)
  have z2:s=u→t=v:=fun q=>by
   have:u*(t-v)=0:=by rw[Int.mul_sub];rw[q,Int.mul_comm v u]at h;omega
   have:=line_zero (by omega:u≠0) this
   omega
  constructor
  ·intro q
   have:=e (by omega) (by omega)
   omega
  ·intro q
   have:=e (by omega) (by omega)
   by_cases q1:s=0
   ·have:=z1 q1;omega
   ·by_cases q2:s=u
    ·have:=z2 q2;omega
    ·omega
 ·have e:=line_btw (u:= -u) (s:= -s) (t:= -t) (v:= -v) (by omega) (by rw[Int.neg_mul_neg,Int.neg_mul_neg];omega)
  have z1:s=0→t=0:=fun q=>line_zero (by omega:u≠0) (by rw[q]at h;simpa using h)
  have z2:s=u→t=v:=fun q=>by
   have:u*(t-v)=0:=by rw[Int.mul_sub];rw[q,Int.mul_comm v u]at h;omega
   have:=line_zero (by omega:u≠0) this
   omega
  constructor
  ·intro q
   have:=e (by omega) (by omega)
   omega
  ·intro q
   have:=e (by omega) (by omega)
   by_cases q1:s=0
   ·have:=z1 q1;omega
   ·by_cases q2:s=u
    ·have:=z2 q2;omega
    ·omega
 ·subst h3
  have h':v*s=0:=by simp only[Int.zero_mul]at h;omega
  rcases Int.mul_eq_zero.1 h' with q|q
  ·constructor
   ·intro;omega
   ·intro;omega
  ·constructor
   ·intro;omega
   ·intro;omega
theorem onB_iff (a b p:Pt):onB a b p=true↔cr a b p=0∧((a.x≤p.x∧p.x≤b.x)∨(b.x≤p.x∧p.x≤a.x))∧((a.y≤p.y∧p.y≤b.y)∨(b.y≤p.y∧p.y≤a.y)):=by
 unfold onB btw
 simp only[Bool.and_eq_true,decide_eq_true_eq]
theorem onP_eq {a b p:Pt} (ha:good a=true) (hb:good b=true) (hp:good p=true):onP a b p=onB a b p:=by
 rw[Bool.eq_iff_iff,onP_key ha hb hp,onB_iff]
 constructor
 ·rintro⟨h,q⟩;exact⟨h,(btw_key ha hb hp h).1 q⟩
 ·rintro⟨h,q⟩;exact⟨h,(btw_key ha hb hp h).2 q⟩
/-- Is one of them another one than the first? -/
def difB:List Pt→Bool
 |[]=>false
 |e::t=>t.any fun p=>decide (p≠e)
/-- The ends that both have. -/
def endsL (a b c d:Pt):List Pt:=(if onB c d a=true then[a]else[])++((if onB c d b=true then[b]else[])++((if onB a b c=true then[c]else[])++(if onB a b d=true then[d]else[])))
def meetR (a b c d:Pt):Int:=if difB (endsL a b c d)=true then 3 else if endsL a b c d≠[]then 1 else if prB a b c d=true then 2 else 0
theorem onB_self (a b:Pt):onB a b a=true∧onB a b b=true:=by
 rw[onB_iff,onB_iff]
 unfold cr
 refine⟨⟨by grind,by omega,by omega⟩,by grind,by omega,by omega⟩
theorem endsL_mem {a b c d e:Pt} (h:e∈endsL a b c d):onB a b e=true∧onB c d e=true:=by
 unfold endsL at h
 simp only[List.mem_append]at h
 rcases h with h|h|h|h<;>split at h<;>simp at h<;>subst h
 ·exact⟨(onB_self _ _).1,by assumption⟩
 ·exact⟨(onB_self _ _).2,by assumption⟩
 ·exact⟨by assumption,(onB_self _ _).1⟩
 ·exact⟨by assumption,(onB_self _ _).2⟩
theorem difB_two {l:List Pt} (h:difB l=true):∃p q,p∈l∧q∈l∧p≠q:=by
 rcases l with _|⟨e,t⟩
 ·simp[difB]at h
 ·simp only[difB,List.any_eq_true,decide_eq_true_eq]at h
  obtain⟨p,hp,hne⟩:=h
  exact⟨p,e,by simp[hp],by simp,hne⟩
/-- Two ways along one third are along one another. -/
theorem par {w1 w2 p1 p2 q1 q2:Int} (hw:w1≠0∨w2≠0) (hp:w1*p2-w2*p1=0) (hq:w1*q2-w2*q1=0):p1*q2-p2*q1=0:=by
 have e1:w1*(p1*q2-p2*q1)=p1*(w1*q2-w2*q1)-q1*(w1*p2-w2*p1):=by grind
 have e2:w2*(p1*q2-p2*q1)=p2*(w1*q2-w2*q1)-q2*(w1*p2-w2*p1):=by grind
 rw[hp,hq]at e1 e2
 simp only[Int.mul_zero,Int.sub_self]at e1 e2
 rcases hw with hw|hw
 ·exact line_zero hw e1
 ·exact line_zero hw e2
theorem pt_ne {p q:Pt} (h:p≠q):p.x≠q.x∨p.y≠q.y:=by
 obtain⟨a,b⟩:=p
 obtain⟨c,d⟩:=q
 by_cases h1:a=c
 ·right
  rintro rfl
  exact h (by rw[h1])
 ·exact .inl h1
theorem two_common {a b c d P Q:Pt} (hne:P≠Q) (h1:onB a b P=true) (h2:onB a b Q=true) (h3:onB c d P=true) (h4:onB c d Q=true):
 cr a b c=0∧cr a b d=0∧cr c d a=0∧cr c d b=0:=by
 rw[onB_iff]at h1 h2 h3 h4
 obtain⟨z1,x1,y1⟩:=h1
 obtain⟨z2,x2,y2⟩:=h2
 obtain⟨z3,x3,y3⟩:=h3
 obtain⟨z4,x4,y4⟩:=h4
 have hne':=pt_ne hne
 unfold cr at *
 have hw:Q.x-P.x≠0∨Q.y-P.y≠0:=by omega
 have hv:b.x-a.x≠0∨b.y-a.y≠0:=by omega
 have hv':d.x-c.x≠0∨d.y-c.y≠0:=by omega
 have e1:(Q.x-P.x)*(b.y-a.y)-(Q.y-P.y)*(b.x-a.x)=0:=by grind
 have e2:(Q.x-P.x)*(d.y-c.y)-(Q.y-P.y)*(d.x-c.x)=0:=by grind
 have e3:=par hw e1 e2
 have f1:(b.x-a.x)*(P.y-c.y)-(b.y-a.y)*(P.x-c.x)=0:=by
  have:=par hv' (p1:=b.x-a.x) (p2:=b.y-a.y) (q1:=P.x-c.x) (q2:=P.y-c.y) (by grind) (by grind)
  exact this
 have f2:(d.x-c.x)*(P.y-a.y)-(d.y-c.y)*(P.x-a.x)=0:=by
  have:=par hv (p1:=d.x-c.x) (p2:=d.y-c.y) (q1:=P.x-a.x) (q2:=P.y-a.y) (by grind) (by grind)
  exact this
 have g1:(b.x-a.x)*(P.y-d.y)-(b.y-a.y)*(P.x-d.x)=0:=by
  have:=par hv' (p1:=b.x-a.x) (p2:=b.y-a.y) (q1:=P.x-d.x) (q2:=P.y-d.y) (by grind) (by grind)
  exact this
 have g2:(d.x-c.x)*(P.y-b.y)-(d.y-c.y)*(P.x-b.x)=0:=by
  have:=par hv (p1:=d.x-c.x) (p2:=d.y-c.y) (q1:=P.x-b.x) (q2:=P.y-b.y) (by grind) (by grind)
  exact this
 refine⟨by grind,by grind,by grind,by grind⟩
/-- Two that lie beyond one another along one axis do not cross. -/
theorem apart {A B C D p q r s m:Int} (h:B*p-A*q=C*s-D*r) (hk:B-A=C-D) (h1:p≤m) (h2:q≤m) (h3:m<r) (h4:m<s) (hab:(A<0∧0<B)∨(B<0∧0<A)) (hcd:(C<0∧0<D)∨(D<0∧0<C)):False:=by
 rcases hab with ⟨hA,hB⟩|⟨hB,hA⟩
 ·have hC:D<0∧0<C:=by omega
  have a1:=Int.mul_nonneg (by omega:0≤B) (by omega:0≤m-p)
  have a2:=Int.mul_nonneg (by omega:0≤ -A) (by omega:0≤m-q)
  have a3:=Int.mul_pos hC.2 (by omega:0<s-m)
  have a4:=Int.mul_pos (by omega:0< -D) (by omega:0<r-m)
  have:B*(m-p)+(-A)*(m-q)+C*(s-m)+(-D)*(r-m)=0:=by grind
  omega
 ·have hC:C<0∧0<D:=by omega
  have a1:=Int.mul_nonneg (by omega:0≤ -B) (by omega:0≤m-p)
  have a2:=Int.mul_nonneg (by omega:0≤A) (by omega:0≤m-q)
  have a3:=Int.mul_pos (by omega:0< -C) (by omega:0<s-m)
  have a4:=Int.mul_pos hC.2 (by omega:0<r-m)
  have:(-B)*(m-p)+A*(m-q)+(-C)*(s-m)+D*(r-m)=0:=by grind
  omega
theorem cr_ids (a b c d:Pt):cr c d b*a.x-cr c d a*b.x=cr a b c*d.x-cr a b d*c.x∧cr c d b*a.y-cr c d a*b.y=cr a b c*d.y-cr a b d*c.y∧cr c d b-cr c d a=cr a b c-cr a b d:=by
 unfold cr
 refine⟨by grind,by grind,by grind⟩
theorem sgn_mul_neg {x y:Int}:sgn x*sgn y<0↔(x<0∧0<y)∨(y<0∧0<x):=by
 unfold sgn
 split
 ·split
  ·omega
  ·split<;>omega
 ·split
  ·split
   ·omega
   ·split<;>omega
  ·omega
theorem prB_iff (a b c d:Pt):prB a b c d=true↔((cr a b c<0∧0<cr a b d)∨(cr a b d<0∧0<cr a b c))∧((cr c d a<0∧0<cr c d b)∨(cr c d b<0∧0<cr c d a)):=by
 unfold prB
 rw[decide_eq_true_eq,sgn_mul_neg,sgn_mul_neg]
theorem mx_mn (x y:Int):x≤mx x y∧y≤mx x y∧mn x y≤x∧mn x y≤y∧(mx x y=x∨mx x y=y)∧(mn x y=x∨mn x y=y):=by
 unfold mx mn
 split<;>split<;>omega
theorem ap_pr {a b c d:Pt} (h:apB a b c d=true):prB a b c d=false:=by
 rcases hp:prB a b c d with _|_
 ·rfl
 ·exfalso
  rw[prB_iff]at hp
  obtain⟨hcd,hab⟩:=hp
  obtain⟨i1,i2,i3⟩:=cr_ids a b c d
  unfold apB at h
  rw[decide_eq_true_eq]at h
  have m1:=mx_mn a.x b.x
  have m2:=mx_mn c.x d.x
  have m3:=mx_mn a.y b.y
  have m4:=mx_mn c.y d.y
  rcases h with h|h|h|h
  ·exact apart i1 i3 m1.1 m1.2.1 (Int.lt_of_lt_of_le h m2.2.2.1) (Int.lt_of_lt_of_le h m2.2.2.2.1) hab hcd
  ·exact apart i1.symm i3.symm m2.2.1 m2.1 (Int.lt_of_lt_of_le h m1.2.2.2.1) (Int.lt_of_lt_of_le h m1.2.2.1) hcd.symm hab.symm
  ·exact apart i2 i3 m3.1 m3.2.1 (Int.lt_of_lt_of_le h m4.2.2.1) (Int.lt_of_lt_of_le h m4.2.2.2.1) hab hcd
  ·exact apart i2.symm i3.symm m4.2.1 m4.1 (Int.lt_of_lt_of_le h m3.2.2.2.1) (Int.lt_of_lt_of_le h m3.2.2.1) hcd.symm hab.symm
theorem btw_box {a b p:Int} (h:(a≤p∧p≤b)∨(b≤p∧p≤a)):p≤mx a b∧mn a b≤p:=by
 have:=mx_mn a b
 omega
theorem ap_ends {a b c d:Pt} (h:apB a b c d=true):endsL a b c d=[]:=by
 rw[List.eq_nil_iff_forall_not_mem]
 intro e he
 obtain⟨h1,h2⟩:=endsL_mem he
 rw[onB_iff]at h1 h2
 unfold apB at h
 rw[decide_eq_true_eq]at h
 have m1:=btw_box h1.2.1
 have m2:=btw_box h2.2.1
 have m3:=btw_box h1.2.2
 have m4:=btw_box h2.2.2
 clear h1 h2
 omega
theorem key_inj {p q:Pt} (hp:good p=true) (hq:good q=true):p=q↔key p=key q:=by
 rcases key_ord hp hq with ⟨h,_⟩|⟨h,_⟩|⟨h,h',_⟩
 ·exact⟨fun e=>by rw[e],fun e=>by omega⟩
 ·exact⟨fun e=>by rw[e],fun e=>by omega⟩
 ·exact⟨fun _=>h',fun _=>h⟩
/-- Two stretches of one line, by keys. -/
theorem lineI_key {a b c d:Pt} (ha:good a=true) (hb:good b=true) (hc:good c=true) (hd:good d=true):
 ∃lo1 hi1 lo2 hi2:Int,((key a≤key b∧lo1=key a∧hi1=key b)∨(key b<key a∧lo1=key b∧hi1=key a))∧((key c≤key d∧lo2=key c∧hi2=key d)∨(key d<key c∧lo2=key d∧hi2=key c))∧
  (((hi1<lo1∨hi1<lo2∨hi2<lo1∨hi2<lo2)∧lineI a b c d=0)∨((lo1≤hi1∧lo1≤hi2∧lo2≤hi1∧lo2≤hi2)∧(lo1=hi1∨lo1=hi2∨lo2=hi1∨lo2=hi2)∧lineI a b c d=1)∨((lo1<hi1∧lo1<hi2∧lo2<hi1∧lo2<hi2)∧lineI a b c d=3)):=by
 obtain⟨l1,hl1⟩:∃q,q=endA a b:=⟨_,rfl⟩
 obtain⟨h1,hh1⟩:∃q,q=endB a b:=⟨_,rfl⟩
 obtain⟨l2,hl2⟩:∃q,q=endA c d:=⟨_,rfl⟩
 obtain⟨h2,hh2⟩:∃q,q=endB c d:=⟨_,rfl⟩
 have e1:=ends_key ha hb
 have e2:=ends_key hc hd
 rw[←hl1,←hh1]at e1
 rw[←hl2,←hh2]at e2
 have gl1:good l1=true:=by rcases e1 with ⟨_,e,_⟩|⟨_,e,_⟩<;>rw[e]<;>assumption
 have gh1:good h1=true:=by rcases e1 with ⟨_,_,e⟩|⟨_,_,e⟩<;>rw[e]<;>assumption
 have gl2:good l2=true:=by rcases e2 with ⟨_,e,_⟩|⟨_,e,_⟩<;>rw[e]<;>assumption
 have gh2:good h2=true:=by rcases e2 with ⟨_,_,e⟩|⟨_,_,e⟩<;>rw[e]<;>assumption
 refine⟨key l1,key h1,key l2,key h2,?_,?_,?_⟩
 ·rcases e1 with ⟨h,e,e'⟩|⟨h,e,e'⟩<;>rw[e,e']
  ·exact .inl ⟨h,rfl,rfl⟩
  ·exact .inr ⟨h,rfl,rfl⟩
 ·rcases e2 with ⟨h,e,e'⟩|⟨h,e,e'⟩<;>rw[e,e']
  ·exact .inl ⟨h,rfl,rfl⟩
  ·exact .inr ⟨h,rfl,rfl⟩
 ·have hF:(0<ordI l1 l2∧lnF a b c d=l1)∨(ordI l1 l2≤0∧lnF a b c d=l2):=by
   unfold lnF
   rw[←hl1,←hl2]
   split
   ·exact .inl ⟨by assumption,rfl⟩
   ·exact .inr ⟨by omega,rfl⟩
  have hT:(ordI h2 h1<0∧lnT a b c d=h2)∨(0≤ordI h2 h1∧lnT a b c d=h1):=by
   unfold lnT
   rw[←hh1,←hh2]
   split
   ·exact .inl ⟨by assumption,rfl⟩
   ·exact .inr ⟨by omega,rfl⟩
  have kF:=key_ord gl1 gl2
  have kT:=key_ord gh2 gh1
  have hl:=lineI_cases a b c d
  rcases hF with ⟨q1,f⟩|⟨q1,f⟩<;>rcases hT with ⟨q2,t⟩|⟨q2,t⟩<;>rw[f,t]at hl
  ·have:=key_ord gl1 gh2;omega
  ·have:=key_ord gl1 gh1;omega
  ·have:=key_ord gl2 gh2;omega
  ·have:=key_ord gl2 gh1;omega
theorem line_meet {a b c d:Pt} (ha:good a=true) (hb:good b=true) (hc:good c=true) (hd:good d=true) (h:cr a b c=0∧cr a b d=0∧cr c d a=0∧cr c d b=0):lineI a b c d=meetR a b c d:=by
 obtain⟨z1,z2,z3,z4⟩:=h
 have hpr:prB a b c d=false:=by
  rcases hp:prB a b c d with _|_
  ·rfl
  ·rw[prB_iff]at hp;omega
 have o1:=onP_key hc hd ha
 have o2:=onP_key hc hd hb
 have o3:=onP_key ha hb hc
 have o4:=onP_key ha hb hd
 rw[onP_eq hc hd ha,z3]at o1
 rw[onP_eq hc hd hb,z4]at o2
 rw[onP_eq ha hb hc,z1]at o3
 rw[onP_eq ha hb hd,z2]at o4
 simp only[true_and]at o1 o2 o3 o4
 obtain⟨lo1,hi1,lo2,hi2,f1,f2,f3⟩:=lineI_key ha hb hc hd
 have kab:=key_inj ha hb
 have kac:=key_inj ha hc
 have kad:=key_inj ha hd
 have kbc:=key_inj hb hc
 have kbd:=key_inj hb hd
 have kcd:=key_inj hc hd
 unfold meetR endsL
 rw[hpr]
 rcases q1:onB c d a with _|_<;>rcases q2:onB c d b with _|_<;>rcases q3:onB a b c with _|_<;>rcases q4:onB a b d with _|_
 all_goals
  rw[q1]at o1
  rw[q2]at o2
  rw[q3]at o3
  rw[q4]at o4
  simp only[Bool.false_eq_true,false_iff,true_iff]at o1 o2 o3 o4
  simp only[Bool.false_eq_true,if_false,if_true,List.nil_append,List.cons_append,difB,List.any_cons,List.any_nil,Bool.or_false,ne_eq,Bool.or_eq_true,decide_eq_true_eq,not_true,not_false_iff,reduceCtorEq]
  first
  |omega
  |(rw [eq_comm (a:=b),kab,eq_comm (a:=c),kac,eq_comm (a:=d),kad];split<;>omega)
  |(simp only[eq_comm (a:=b) (b:=a),eq_comm (a:=c) (b:=a),eq_comm (a:=d) (b:=a),eq_comm (a:=c) (b:=b),eq_comm (a:=d) (b:=b),eq_comm (a:=d) (b:=c),kab,kac,kad,kbc,kbd,kcd];split<;>omega)
theorem ze_iff (a b c d:Pt):zeB a b c d=true↔cr a b c=0∧cr a b d=0∧cr c d a=0∧cr c d b=0:=by
 unfold zeB
 rw[decide_eq_true_eq,sgn_eq,sgn_eq,sgn_eq,sgn_eq]
theorem dif_ze {a b c d:Pt} (h:difB (endsL a b c d)=true):zeB a b c d=true:=by
 obtain⟨p,q,hp,hq,hne⟩:=difB_two h
 obtain⟨h1,h2⟩:=endsL_mem hp
 obtain⟨h3,h4⟩:=endsL_mem hq
 rw[ze_iff]
 exact two_common hne h1 h3 h2 h4
theorem oe_ends {a b c d:Pt} (ha:good a=true) (hb:good b=true) (hc:good c=true) (hd:good d=true):oeB a b c d=true↔endsL a b c d≠[]:=by
 unfold oeB endsL
 rw[onP_eq ha hb hc,onP_eq ha hb hd,onP_eq hc hd ha,onP_eq hc hd hb]
 cases onB c d a<;>cases onB c d b<;>cases onB a b c<;>cases onB a b d<;>simp
theorem pr_ends {a b c d:Pt} (h:prB a b c d=true):endsL a b c d=[]:=by
 rw[prB_iff]at h
 rw[List.eq_nil_iff_forall_not_mem]
 intro e he
 unfold endsL at he
 simp only[List.mem_append]at he
 rcases he with he|he|he|he<;>split at he<;>simp at he<;>subst he
 all_goals
  rename_i q
  rw[onB_iff]at q
  omega
theorem meet_eq {a b c d:Pt} (ha:good a=true) (hb:good b=true) (hc:good c=true) (hd:good d=true):meetP a b c d=meetR a b c d:=by
 unfold meetP
 split
 ·rename_i h
  unfold meetR
  rw[ap_ends h,ap_pr h]
  simp[difB]
 ·split
  ·rename_i h
   exact line_meet ha hb hc hd ((ze_iff _ _ _ _).1 h)
  ·rename_i hz
   have hdif:difB (endsL a b c d)=false:=by
    rcases h:difB (endsL a b c d)with _|_
    ·rfl
    ·exact absurd (dif_ze h) hz
   have ho:=oe_ends ha hb hc hd
   unfold meetR
   rcases hp:prB a b c d with _|_
   ·by_cases h:oeB a b c d=true
    ·have:=ho.1 h
     simp[hdif,h,this]
    ·have h':endsL a b c d=[]:=by
      rcases h0:endsL a b c d with _|⟨e,l⟩
      ·rfl
      ·exact absurd (ho.2 (by rw[h0];simp)) h
     simp[h,h',difB]
   ·simp[pr_ends hp,difB]
theorem meetR_pos (a b c d:Pt):0<meetR a b c d↔endsL a b c d≠[]∨prB a b c d=true:=by
 unfold meetR
 split
 ·rename_i h
  obtain⟨p,q,hp,_,_⟩:=difB_two h
  refine⟨fun _=> .inl (fun e=>?_),fun _=>by omega⟩
  rw[e]at hp
  cases hp
 ·split
  ·rename_i h
   exact⟨fun _=> .inl h,fun _=>by omega⟩
  ·rename_i h
   split
   ·rename_i h'
    exact⟨fun _=> .inr h',fun _=>by omega⟩
   ·rename_i h'
    refine⟨fun q=>by omega,fun q=>?_⟩
    rcases q with q|q
    ·exact absurd q h
    ·exact absurd q h'
end Go.Proofs.YtpkeacnacjnlcaaGreat
namespace Go.Proofs.YtpkeacnacjnlcaaGreat
open Go.RowKit
theorem nan_any (x:Int) (w:World):
 Calls Tryz.prog 118 #[.int .i64 x] w fun e w'=>e= .returned (.bool false)∧w=w':=by
 have h:(x != x)=false:=by simp
 go_enter Tryz.func118,Tryz.ntmps118
 go_wp2_with fail
 go_ret
 exact⟨rfl,rfl⟩
theorem compare_any (x y:Int) (w:World):
 Calls Tryz.prog 73 #[.int .i64 x,.int .i64 y] w fun e w'=>e= .returned (.int .i64 (cmpI x y))∧w=w':=by
 have h3:(x<y∧cmpI x y= -1)∨(y<x∧cmpI x y=1)∨(x=y∧cmpI x y=0):=by unfold cmpI;split<;>(try split)<;>omega
 rcases h3 with ⟨h,e⟩|⟨h,e⟩|⟨h,e⟩
 all_goals
  rw[e]
  clear e
  try subst h
  go_enter Tryz.func73,Tryz.ntmps73
  go_wp2_with (go_at_call 118;refine(nan_any _ _).mono ?_;rintro e w' ⟨rfl,rfl⟩)
  go_ret
  exact⟨rfl,rfl⟩
theorem compare_still (x y:Int) (w:World):
 Calls Tryz.prog 73 #[.int .i64 x,.int .i64 y] w fun e w'=>e= .returned (.int .i64 (cmpI x y))∧w'=w:=
 (compare_any x y w).mono fun _ _ ⟨h1,h2⟩=>⟨h1,h2.symm⟩
/-- The first of two numbers that is not 0. -/
theorem or_any (x y:Int) (b o c:Nat) (w:World) (h0:w.cell? ⟨b,o,none⟩=some (.int .i64 x)) (h1:w.cell? ⟨b,o+1,none⟩=some (.int .i64 y)):
 Calls Tryz.prog 147 #[.slice (some ⟨b,o,none⟩) 2 c] w fun e w'=>e= .returned (.int .i64 (orI x y))∧w=w':=by
 go_enter Tryz.func147,Tryz.ntmps147
 go_wp2
 go_loop [8] (fun i=>∃k:Nat,k≤2∧i= .int .i64 (k:Int)∧Hid ((1≤k→x=0)∧(k=2→y=0))) (fun i=>2-(intOf i).toNat)
 case atStart=>exact⟨0,by omega,rfl,⟨fun h=>absurd h (by omega),fun h=>absurd h (by omega)⟩⟩
 case round=>
  obtain⟨k,hk,rfl,HK⟩:=hrel
  have h3:k=0∨k=1∨k=2:=by omega
  rcases h3 with rfl|rfl|rfl
  ·by_cases hx:x=0
   ·subst hx
    go_wp2
    go_round
    case rel=>exact⟨1,by omega,rfl,by show _∧_;simp⟩
    case measure=>simp[intOf]
   ·have hx':(x != 0)=true:=by simpa using hx
    have HE:Hid (orI x y=x):=by show _=_;unfold orI;rw[if_pos hx]
    clear hx
    go_wp2
    go_ret
    exact⟨by rw[HE.out];rfl,rfl⟩
  ·have hx:=HK.out.1 (by omega)
   subst hx
   by_cases hy:y=0
   ·subst hy
    go_wp2
    go_round
    case rel=>exact⟨2,by omega,rfl,by show _∧_;simp⟩
    case measure=>simp[intOf]
   ·have hy':(y != 0)=true:=by simpa using hy
    clear hy
    go_wp2
    go_ret
    exact⟨rfl,rfl⟩
  ·have hx:=HK.out.1 (by omega)
   have hy:=HK.out.2 rfl
   subst hx hy
   go_wp2
   go_ret
   exact⟨rfl,rfl⟩
set_option maxRecDepth 100000 in
set_option maxHeartbeats 400000 in
theorem order_any (a b:Pt) (w:World):
 Calls Tryz.prog 113 #[ptV a,ptV b] w fun e w'=>e= .returned (.int .i64 (ordI a b))∧Below w.heap.size w w':=by
 have hA:=(HasPt.new w a 23).alloc (.cells #[.int .i64 b.x,.int .i64 b.y] 23)
 have hC:=HasPt.new (w.alloc (.cells #[.int .i64 a.x,.int .i64 a.y] 23)) b 23
 rw[World.size_alloc]at hC
 have hB:Below w.heap.size w ((w.alloc (.cells #[.int .i64 a.x,.int .i64 a.y] 23)).alloc (.cells #[.int .i64 b.x,.int .i64 b.y] 23)):=((Below.refl _ _).alloc (Nat.le_refl _) _).alloc (by simp) _
 unfold ptV ordI
 go_enter Tryz.func113,Tryz.ntmps113
 go_wp2
 obtain⟨W0,hW0⟩:∃W0,W0=(w.alloc (.cells #[.int .i64 a.x,.int .i64 a.y] 23)).alloc (.cells #[.int .i64 b.x,.int .i64 b.y] 23):=⟨_,rfl⟩
 rw[←hW0]at hA hC hB ⊢
 clear hW0
 refine wp_region_still_tail 10 (by kernel_rfl) (by kernel_rfl) ?_
 change wpStill _ _ W0.drew _ _ _
 obtain⟨hax,hay,haz⟩:=hA
 obtain⟨hbx,hby,hbz⟩:=hC
 simp only[List.take_succ_cons,List.take_zero,List.drop_succ_cons,List.drop_zero]
 repeat (first|still_step|still_call (compare_still _ _ _))
 try refine wpStill_nil ?_
 change wpList _ _ _ _ _ W0.drew
 have hB:=hB.drew
 generalize W0.drew=W1 at *
 clear hax hay haz hbx hby hbz
 go_wp2_with fail
 refine(or_any (cmpI a.x b.x) (cmpI a.y b.y) W1.heap.size 0 _ _ (by simp) (by simp)).mono ?_
 rintro e w' ⟨rfl,rfl⟩
 go_wp2
 go_ret
 exact⟨rfl,hB.alloc hB.size _⟩
theorem cross_any (a b c:Pt) (w:World) (ha:good a=true) (hb:good b=true) (hc:good c=true):
 Calls Tryz.prog 207 #[ptV a,ptV b,ptV c] w fun e w'=>e= .returned (.int .i64 (cr a b c))∧Below w.heap.size w w':=by
 have HC:=Lib.hid (cr_bd ha hb hc)
 have HP:=Lib.hid (cr_parts ha hb hc)
 rw[good_iff]at ha hb hc
 obtain⟨a1,a2,a3,a4⟩:=ha
 obtain⟨b1,b2,b3,b4⟩:=hb
 obtain⟨c1,c2,c3,c4⟩:=hc
 unfold ptV
 go_enter Tryz.func207,Tryz.ntmps207
 go_wp2
 go_ret
 refine⟨?_,(((Below.refl _ _).alloc (Nat.le_refl _) _).alloc (by simp) _).alloc (by simp;omega) _⟩
 show Ending.returned (.int .i64 (wrap64 (wrap64 ((b.x-a.x)*(c.y-a.y))-wrap64 ((b.y-a.y)*(c.x-a.x)))))=_
 have h1:=HC.out
 have h2:=HP.out
 unfold cr at h1 ⊢
 congr 2
 unfold wrap64
 omega
theorem turn_any (a b c:Pt) (w:World) (ha:good a=true) (hb:good b=true) (hc:good c=true):
 Calls Tryz.prog 188 #[ptV a,ptV b,ptV c] w fun e w'=>e= .returned (.int .i64 (sgn (cr a b c)))∧Below w.heap.size w w':=by
 have H:=Lib.hid (And.intro ha (And.intro hb hc))
 clear ha hb hc
 unfold ptV
 go_enter Tryz.func188,Tryz.ntmps188
 go_wp2_with fail
 refine(cross_any a b c _ H.out.1 H.out.2.1 H.out.2.2).mono ?_
 rintro e w1 ⟨rfl,hb1⟩
 have hB:=((((Below.refl w.heap.size w).alloc (Nat.le_refl _) _).alloc (by simp) _).alloc (by simp;omega) _).trans (hb1.mono (by simp;omega))
 clear hb1
 go_wp2_with fail
 refine(compare_any _ _ _).mono ?_
 rintro e w2 ⟨rfl,rfl⟩
 go_wp2
 go_ret
 exact⟨rfl,hB⟩
set_option maxHeartbeats 400000 in
theorem ends_any (a b:Pt) (w:World):
 Calls Tryz.prog 187 #[ptV a,ptV b] w fun e w'=>e= .returned (.tuple #[ptV (endA a b),ptV (endB a b)])∧Below w.heap.size w w':=by
 have hcase:(0<ordI a b∧endA a b=b∧endB a b=a)∨(¬0<ordI a b∧endA a b=a∧endB a b=b):=by
  unfold endA endB
  by_cases h:0<ordI a b
  ·left;exact⟨h,if_pos h,if_pos h⟩
  ·right;exact⟨h,if_neg h,if_neg h⟩
 rcases hcase with ⟨h,e1,e2⟩|⟨h,e1,e2⟩
 all_goals
  rw[e1,e2]
  clear e1 e2
  unfold ptV
  go_enter Tryz.func187,Tryz.ntmps187
  go_wp2_with fail
  refine(order_any a b _).mono ?_
  rintro e w1 ⟨rfl,hb1⟩
  obtain⟨hc,hf⟩:=bcell hb1
  have hz:=hb1.size
  simp only[World.size_alloc]at hz
  have hB:=(((((Below.refl w.heap.size w).alloc (Nat.le_refl _) _).alloc (by simp) _).alloc (by simp;omega) _).alloc (by simp;omega) _).trans (hb1.mono (by simp;omega))
  clear hb1
  go_wp2
  go_region
  go_wp2
 ·refine bodyPost_ret (v:= .tuple #[.agg #[.int .i64 b.x,.int .i64 b.y],.agg #[.int .i64 a.x,.int .i64 a.y]]) (by simp[results,Tryz.results187,go_sem,hc]) rfl ⟨rfl,?_⟩
  exact((((hB.setCell (p:=⟨w.heap.size+1+1,0,none⟩) (by simp;omega) _).setCell (p:=⟨w.heap.size+1+1,1,none⟩) (by simp;omega) _).setCell (p:=⟨w.heap.size+1+1+1,0,none⟩) (by simp;omega) _).setCell (p:=⟨w.heap.size+1+1+1,1,none⟩) (by simp;omega) _).drew
 ·refine bodyPost_ret (v:= .tuple #[.agg #[.int .i64 a.x,.int .i64 a.y],.agg #[.int .i64 b.x,.int .i64 b.y]]) (by simp[results,Tryz.results187,go_sem,hc]) rfl ⟨rfl,?_⟩
  exact((((hB.setCell (p:=⟨w.heap.size+1+1,0,none⟩) (by simp;omega) _).setCell (p:=⟨w.heap.size+1+1,1,none⟩) (by simp;omega) _).setCell (p:=⟨w.heap.size+1+1+1,0,none⟩) (by simp;omega) _).setCell (p:=⟨w.heap.size+1+1+1,1,none⟩) (by simp;omega) _).drew
/-- Three points just boxed. -/
theorem three_new (w:World) (a b c:Pt) (e:TypeId):
 HasPt (((w.alloc (.cells #[.int .i64 a.x,.int .i64 a.y] e)).alloc (.cells #[.int .i64 b.x,.int .i64 b.y] e)).alloc (.cells #[.int .i64 c.x,.int .i64 c.y] e)) w.heap.size a∧
 HasPt (((w.alloc (.cells #[.int .i64 a.x,.int .i64 a.y] e)).alloc (.cells #[.int .i64 b.x,.int .i64 b.y] e)).alloc (.cells #[.int .i64 c.x,.int .i64 c.y] e)) (w.heap.size+1) b∧
 HasPt (((w.alloc (.cells #[.int .i64 a.x,.int .i64 a.y] e)).alloc (.cells #[.int .i64 b.x,.int .i64 b.y] e)).alloc (.cells #[.int .i64 c.x,.int .i64 c.y] e)) (w.heap.size+1+1) c∧
 Below w.heap.size w (((w.alloc (.cells #[.int .i64 a.x,.int .i64 a.y] e)).alloc (.cells #[.int .i64 b.x,.int .i64 b.y] e)).alloc (.cells #[.int .i64 c.x,.int .i64 c.y] e)):=by
 have h1:=((HasPt.new w a e).alloc (.cells #[.int .i64 b.x,.int .i64 b.y] e)).alloc (.cells #[.int .i64 c.x,.int .i64 c.y] e)
 have h2:=(HasPt.new (w.alloc (.cells #[.int .i64 a.x,.int .i64 a.y] e)) b e).alloc (.cells #[.int .i64 c.x,.int .i64 c.y] e)
 have h3:=HasPt.new ((w.alloc (.cells #[.int .i64 a.x,.int .i64 a.y] e)).alloc (.cells #[.int .i64 b.x,.int .i64 b.y] e)) c e
 simp only[World.size_alloc]at h2 h3
 exact⟨h1,h2,h3,(((Below.refl _ _).alloc (Nat.le_refl _) _).alloc (by simp) _).alloc (by simp;omega) _⟩
theorem two_new (w:World) (a b:Pt) (e:TypeId):
 HasPt ((w.alloc (.cells #[.int .i64 a.x,.int .i64 a.y] e)).alloc (.cells #[.int .i64 b.x,.int .i64 b.y] e)) w.heap.size a∧
 HasPt ((w.alloc (.cells #[.int .i64 a.x,.int .i64 a.y] e)).alloc (.cells #[.int .i64 b.x,.int .i64 b.y] e)) (w.heap.size+1) b∧
 Below w.heap.size w ((w.alloc (.cells #[.int .i64 a.x,.int .i64 a.y] e)).alloc (.cells #[.int .i64 b.x,.int .i64 b.y] e)):=by
 have h1:=(HasPt.new w a e).alloc (.cells #[.int .i64 b.x,.int .i64 b.y] e)
 have h2:=HasPt.new (w.alloc (.cells #[.int .i64 a.x,.int .i64 a.y] e)) b e
 simp only[World.size_alloc]at h2
 exact⟨h1,h2,((Below.refl _ _).alloc (Nat.le_refl _) _).alloc (by simp) _⟩
set_option maxHeartbeats 800000 in
theorem on_any (a b p:Pt) (w:World) (ha:good a=true) (hb:good b=true) (hp:good p=true):
 Calls Tryz.prog 158 #[ptV a,ptV b,ptV p] w fun e w'=>e= .returned (.bool (onP a b p))∧Below w.heap.size w w':=by
 have H:=Lib.hid (And.intro ha (And.intro hb hp))
 clear ha hb hp
 have hcase:=onP_cases a b p
 obtain⟨r,hr⟩:∃r,r=onP a b p:=⟨_,rfl⟩
 rw[←hr]at hcase
 rw[←hr]
 clear hr
 obtain⟨hA,hC,hP,hB⟩:=three_new w a b p 23
 unfold ptV
 go_enter Tryz.func158,Tryz.ntmps158
 go_wp2_with fail
 refine(ends_any a b _).mono ?_
 rintro e w1 ⟨rfl,hb1⟩
 have hA1:=hA.on hb1
 have hC1:=hC.on hb1
 have hP1:=hP.on hb1
 have hB1:=hB.trans (hb1.mono hB.size)
 obtain⟨low,hlow⟩:∃q,q=endA a b:=⟨_,rfl⟩
 obtain⟨high,hhigh⟩:∃q,q=endB a b:=⟨_,rfl⟩
 rw[←hlow,←hhigh]at hcase ⊢
 have HQ:=Lib.hid (And.intro hlow hhigh)
 have HK:=Lib.hid hcase
 clear hb1 hA hC hP hB hlow hhigh hcase
 obtain⟨kL,kH,kB⟩:=two_new w1 low high 23
 have kA:=(hA1.alloc (.cells #[.int .i64 low.x,.int .i64 low.y] 23)).alloc (.cells #[.int .i64 high.x,.int .i64 high.y] 23)
 have kC:=(hC1.alloc (.cells #[.int .i64 low.x,.int .i64 low.y] 23)).alloc (.cells #[.int .i64 high.x,.int .i64 high.y] 23)
 have kP:=(hP1.alloc (.cells #[.int .i64 low.x,.int .i64 low.y] 23)).alloc (.cells #[.int .i64 high.x,.int .i64 high.y] 23)
 have kB:=hB1.trans (kB.mono hB1.size)
 clear hA1 hC1 hP1 hB1
 obtain⟨a1,a2,a3⟩:=kA
 obtain⟨c1,c2,c3⟩:=kC
 obtain⟨p1,p2,p3⟩:=kP
 unfold ptV
 go_wp2_with fail
 refine(turn_any a b p _ H.out.1 H.out.2.1 H.out.2.2).mono ?_
 rintro e w2 ⟨rfl,hb2⟩
 have hL2:=kL.on hb2
 have hH2:=kH.on hb2
 have hP2:=HasPt.on ⟨p1,p2,p3⟩ hb2
 have hB2:=below_on kB (Nat.le_refl _) hb2
 clear hb2 kL kH kB a1 a2 a3 c1 c2 c3 p1 p2 p3
 obtain⟨t,ht⟩:∃t,t=sgn (cr a b p):=⟨_,rfl⟩
 have hcase:=HK.out
 rw[←ht]at hcase
 rw[←ht]
 obtain⟨l1,l2,l3⟩:=hL2
 obtain⟨h1,h2,h3⟩:=hH2
 obtain⟨p1,p2,p3⟩:=hP2
 have HT:=Lib.hid ht
 clear ht HK
 rcases hcase with ⟨g,rfl⟩|⟨rfl,g,rfl⟩|⟨rfl,g,g',rfl⟩|⟨rfl,g,g',rfl⟩
 ·have g2:(t==0)=false:=by simpa using g
  clear g
  go_wp2
  go_ret
  exact⟨rfl,hB2⟩
 ·have G:=Lib.hid g
  clear g
  go_wp2_with fail
  refine(order_any low p _).mono ?_
  rintro e w3 ⟨rfl,hb3⟩
  have hB3:=below_on hB2 (Nat.le_refl _) hb3
  have g:=G.out
  clear hb3 l1 l2 l3 h1 h2 h3 p1 p2 p3
  go_wp2
  go_ret
  exact⟨rfl,hB3⟩
 ·have G:=Lib.hid (And.intro g g')
  clear g g'
  go_wp2_with fail
  refine(order_any low p _).mono ?_
  rintro e w3 ⟨rfl,hb3⟩
  obtain⟨h1,h2,h3⟩:=HasPt.on ⟨h1,h2,h3⟩ hb3
  obtain⟨p1,p2,p3⟩:=HasPt.on ⟨p1,p2,p3⟩ hb3
  have hB3:=below_on hB2 (Nat.le_refl _) hb3
  have g:=G.out.1
  clear hb3
  go_wp2_with fail
  refine(order_any p high _).mono ?_
  rintro e w4 ⟨rfl,hb4⟩
  have hB4:=below_on hB3 (Nat.le_refl _) hb4
  have g':=G.out.2
  clear hb4 h1 h2 h3 p1 p2 p3
  go_wp2
  go_ret
  exact⟨by show Ending.returned (.bool (decide (ordI p high≤0)))=_;rw[decide_eq_false (by omega)],hB4⟩
 ·have G:=Lib.hid (And.intro g g')
  clear g g'
  go_wp2_with fail
  refine(order_any low p _).mono ?_
  rintro e w3 ⟨rfl,hb3⟩
  obtain⟨h1,h2,h3⟩:=HasPt.on ⟨h1,h2,h3⟩ hb3
  obtain⟨p1,p2,p3⟩:=HasPt.on ⟨p1,p2,p3⟩ hb3
  have hB3:=below_on hB2 (Nat.le_refl _) hb3
  have g:=G.out.1
  clear hb3
  go_wp2_with fail
  refine(order_any p high _).mono ?_
  rintro e w4 ⟨rfl,hb4⟩
  have hB4:=below_on hB3 (Nat.le_refl _) hb4
  have g':=G.out.2
  clear hb4 h1 h2 h3 p1 p2 p3
  go_wp2
  go_ret
  exact⟨rfl,hB4⟩
end Go.Proofs.YtpkeacnacjnlcaaGreat
namespace Go.Proofs.YtpkeacnacjnlcaaGreat
/-- One of a stretch's points lies within, and the first such one is its begin, or on a border. -/
def HitE (ax ay bx b_y lx ly hx hy:Int):Prop:=
 ∃N t:Int,0<N∧0≤t∧t≤N∧(N*lx≤(N-t)*ax+t*bx∧(N-t)*ax+t*bx≤N*hx∧N*ly≤(N-t)*ay+t*b_y∧(N-t)*ay+t*b_y≤N*hy)∧
  (t=0∨(N-t)*ax+t*bx=N*lx∨(N-t)*ax+t*bx=N*hx∨(N-t)*ay+t*b_y=N*ly∨(N-t)*ay+t*b_y=N*hy)
theorem lb {ax ay bx b_y lx ly hx hy:Int} (hdx:ax≤bx) (hdy:ay≤b_y) (h1:lx≤hx) (h2:ly≤hy) (b1:lx≤bx) (b2:ax≤hx) (b3:ly≤b_y) (b4:ay≤hy)
 (c1:0≤(bx-ax)*(hy-ay)-(b_y-ay)*(lx-ax)) (c2:(bx-ax)*(ly-ay)-(b_y-ay)*(hx-ax)≤0):HitE ax ay bx b_y lx ly hx hy:=by
 by_cases q1:lx≤ax
 ·by_cases q2:ly≤ay
  ·exact⟨1,0,by omega,by omega,by omega,⟨by omega,by omega,by omega,by omega⟩,.inl rfl⟩
  ·have m1:=Int.mul_nonneg (by omega:0≤b_y-ay) (by omega:0≤ax-lx)
   have m2:=Int.mul_nonneg (by omega:0≤ly-ay) (by omega:0≤bx-ax)
   have m3:=Int.mul_nonneg (by omega:0≤b_y-ay) (by omega:0≤hy-ly)
   exact⟨b_y-ay,ly-ay,by omega,by omega,by omega,⟨by grind,by grind,by grind,by grind⟩,.inr (.inr (.inr (.inl (by grind))))⟩
 ·by_cases q2:ly≤ay∨(ly-ay)*(bx-ax)≤(lx-ax)*(b_y-ay)
  ·have m1:=Int.mul_nonneg (by omega:0≤lx-ax) (by omega:0≤b_y-ay)
   have m3:=Int.mul_nonneg (by omega:0≤bx-ax) (by omega:0≤hx-lx)
   refine⟨bx-ax,lx-ax,by omega,by omega,by omega,⟨by grind,by grind,?_,by grind⟩,.inr (.inl (by grind))⟩
   rcases q2 with q2|q2
   ·have m2:=Int.mul_nonneg (by omega:0≤bx-ax) (by omega:0≤ay-ly)
    grind
   ·grind
  ·have q3:ay<ly:=by omega
   have q4:(lx-ax)*(b_y-ay)<(ly-ay)*(bx-ax):=by omega
   have m3:=Int.mul_nonneg (by omega:0≤b_y-ay) (by omega:0≤hy-ly)
   exact⟨b_y-ay,ly-ay,by omega,by omega,by omega,⟨by grind,by grind,by grind,by grind⟩,.inr (.inr (.inr (.inl (by grind))))⟩
/-- Have two stretches a point in common? -/
def Touch (a b c d:Pt):Prop:=onB c d a=true∨onB c d b=true∨onB a b c=true∨onB a b d=true∨prB a b c d=true
theorem onB_swap (a b p:Pt):onB a b p=onB b a p:=by
 rw[Bool.eq_iff_iff,onB_iff,onB_iff]
 have e:cr b a p= - cr a b p:=by unfold cr;grind
 rw[e]
 omega
theorem cr_swapT (a b p:Pt):cr b a p= - cr a b p:=by unfold cr;grind
theorem mul_lt {N x y:Int} (hN:0<N):N*x<N*y↔x<y:=by
 constructor
 ·intro h
  have:=le_of_mul hN (by omega:N*x≤N*y)
  by_cases e:x=y
  ·subst e;omega
  ·omega
 ·intro h
  exact Int.mul_lt_mul_of_pos_left h hN
theorem mul_eq {N x y:Int} (hN:0<N):N*x=N*y↔x=y:=⟨fun h=>Int.eq_of_mul_eq_mul_left (by omega) h,fun h=>by rw[h]⟩
theorem pos_sgn {N x y:Int} (hN:0<N) (h:N*x=y):(0<x↔0<y)∧(x<0↔y<0)∧(x=0↔y=0):=by
 have h1:=mul_lt (x:=0) (y:=x) hN
 have h2:=mul_lt (x:=x) (y:=0) hN
 have h3:=mul_eq (x:=x) (y:=0) hN
 rw[Int.mul_zero]at h1 h2 h3
 rw[h]at h1 h2 h3
 exact⟨h1.symm,h2.symm,h3.symm⟩
end Go.Proofs.YtpkeacnacjnlcaaGreat
namespace Go.Proofs.YtpkeacnacjnlcaaGreat
open Go Go.RowKit
section
variable {P:Program} {ops:Array Oper} {Q:Exit→Act→World→Prop} {md:Region.Mode} {S:World→Prop}
theorem sb0 {α:Type} {l:List α} {i:Nat} {a:α}:l.toArray.setIfInBounds i a=(l.set i a).toArray:=List.setIfInBounds_toArray ..
theorem sc0 {α:Type} {x a:α} {l:List α}:(x::l).set 0 a=a::l:=List.set_cons_zero
theorem sc1 {α:Type} {x a:α} {l:List α} {i:Nat}:(x::l).set (i+1) a=x::l.set i a:=List.set_cons_succ
/-- Operation i comes up, and all is well behind it. -/
def OneH (P:Program) (md:Region.Mode) (ops:Array Oper) (Q:Exit→Act→World→Prop) (S:World→Prop) (fuel:Nat) (l:Array Bool) (a:Act) (w:World) (i:Nat):Prop:=
 wpOp P ops Q i (fun a' w'=>S w'∧wpAnyH P md ops Q S fuel (l.setIfInBounds i true) a' w') a w
theorem oneH (i:Nat) {fuel:Nat} {l:Array Bool} {a:Act} {w:World} (h:OneH P md ops Q S fuel l a w i) (hr:Region.ready md ops l=[i]:=by kernel_rfl):wpAnyH P md ops Q S (fuel+1) l a w:=
 wpAnyH_ready hr (by simp) fun j hj=>by rw[List.mem_singleton.1 hj];exact h
theorem rdH {i:Nat} {o:Oper} {fuel:Nat} {l:Array Bool} {a:Act} {w:World}
 (h:∀K':Act→World→Prop,Shut (∀a w,S w→(S w→wpAnyH P md ops Q S fuel (l.setIfInBounds i true) a w)→K' a w)→if Region.wanted o (yielded ops a.tmps)=true then Oper.wp P o a w K' Q else K' (a.put o.dst undef) w)
 (ho:ops[i]?=some o:=by rfl):OneH P md ops Q S fuel l a w i:=AllReadyH.cons ho h AllReadyH.nil i (List.mem_singleton.2 rfl)
theorem twoH (i j:Nat) {fuel:Nat} {l:Array Bool} {a:Act} {w:World} (h:OneH P md ops Q S fuel l a w i) (h':OneH P md ops Q S fuel l a w j) (hr:Region.ready md ops l=[i,j]:=by kernel_rfl):wpAnyH P md ops Q S (fuel+1) l a w:=
 wpAnyH_ready hr (by simp) fun k hk=>by
  rcases List.mem_cons.1 hk with e|hk
  ·rw[e];exact h
  ·rw[List.mem_singleton.1 hk];exact h'
theorem threeH (i j m:Nat) {fuel:Nat} {l:Array Bool} {a:Act} {w:World} (h:OneH P md ops Q S fuel l a w i) (h':OneH P md ops Q S fuel l a w j) (h'':OneH P md ops Q S fuel l a w m) (hr:Region.ready md ops l=[i,j,m]:=by kernel_rfl):wpAnyH P md ops Q S (fuel+1) l a w:=
 wpAnyH_ready hr (by simp) fun k hk=>by
  rcases List.mem_cons.1 hk with e|hk
  ·rw[e];exact h
  ·rcases List.mem_cons.1 hk with e|hk
   ·rw[e];exact h'
   ·rw[List.mem_singleton.1 hk];exact h''
theorem rd1 (i:Nat) {o:Oper} {fuel:Nat} {l:Array Bool} {a:Act} {w:World}
 (h:∀K':Act→World→Prop,Shut (∀a w,S w→(S w→wpAnyH P md ops Q S fuel (l.setIfInBounds i true) a w)→K' a w)→if Region.wanted o (yielded ops a.tmps)=true then Oper.wp P o a w K' Q else K' (a.put o.dst undef) w)
 (ho:ops[i]?=some o:=by rfl) (hr:Region.ready md ops l=[i]:=by kernel_rfl):wpAnyH P md ops Q S (fuel+1) l a w:=wpAnyH_ready hr (by simp) (AllReadyH.cons ho h AllReadyH.nil)
theorem rd2 (i j:Nat) {o o':Oper} {fuel:Nat} {l:Array Bool} {a:Act} {w:World}
 (h:∀K':Act→World→Prop,Shut (∀a w,S w→(S w→wpAnyH P md ops Q S fuel (l.setIfInBounds i true) a w)→K' a w)→if Region.wanted o (yielded ops a.tmps)=true then Oper.wp P o a w K' Q else K' (a.put o.dst undef) w)
 (h':∀K':Act→World→Prop,Shut (∀a w,S w→(S w→wpAnyH P md ops Q S fuel (l.setIfInBounds j true) a w)→K' a w)→if Region.wanted o' (yielded ops a.tmps)=true then Oper.wp P o' a w K' Q else K' (a.put o'.dst undef) w)
 (ho:ops[i]?=some o:=by rfl) (ho':ops[j]?=some o':=by rfl) (hr:Region.ready md ops l=[i,j]:=by kernel_rfl):wpAnyH P md ops Q S (fuel+1) l a w:=wpAnyH_ready hr (by simp) (AllReadyH.cons ho h (AllReadyH.cons ho' h' AllReadyH.nil))
theorem rd3 (i j m:Nat) {o o' p:Oper} {fuel:Nat} {l:Array Bool} {a:Act} {w:World}
 (h:∀K':Act→World→Prop,Shut (∀a w,S w→(S w→wpAnyH P md ops Q S fuel (l.setIfInBounds i true) a w)→K' a w)→if Region.wanted o (yielded ops a.tmps)=true then Oper.wp P o a w K' Q else K' (a.put o.dst undef) w)
 (h':∀K':Act→World→Prop,Shut (∀a w,S w→(S w→wpAnyH P md ops Q S fuel (l.setIfInBounds j true) a w)→K' a w)→if Region.wanted o' (yielded ops a.tmps)=true then Oper.wp P o' a w K' Q else K' (a.put o'.dst undef) w)
 (h'':∀K':Act→World→Prop,Shut (∀a w,S w→(S w→wpAnyH P md ops Q S fuel (l.setIfInBounds m true) a w)→K' a w)→if Region.wanted p (yielded ops a.tmps)=true then Oper.wp P p a w K' Q else K' (a.put p.dst undef) w)
 (ho:ops[i]?=some o:=by rfl) (ho':ops[j]?=some o':=by rfl) (ho'':ops[m]?=some p:=by rfl) (hr:Region.ready md ops l=[i,j,m]:=by kernel_rfl):wpAnyH P md ops Q S (fuel+1) l a w:=wpAnyH_ready hr (by simp) (AllReadyH.cons ho h (AllReadyH.cons ho' h' (AllReadyH.cons ho'' h'' AllReadyH.nil)))
theorem app1 {o:Oper} {a:Act} {w:World} {K:Act→World→Prop} {E:Prop} (s x:Operand) (t:TypeId) (base:Nat) (e:TypeId) (i:TypeInfo) (z:Value) (size bytes:Nat) (ht:P.underlying t=some (.slice e)) (hi:P.info? e=some i) (hz:i.zero=some z)
 (hsize:i.size=size) (hby:i.bytes=bytes) (v:Value) (n:Nat) (xs:List Value) (hown:w.ownsRow base e size v n xs)
 (B:Nat) (A:Option Addr) (m c:Nat) (news:List Value) (hr:Reads w B size A m news) (h1:∀u∈news,u.oneCell'=true)
 (h63:n+m≤maxLen) (hbytes:(n+m)*bytes≤140737488355328) (hbase:base≤w.heap.size)
 (h:∀v' w',w'.ownsRow base e size v' (n+m) (xs++news)→w.grownBy w' v.ownBlock→(v'.ownBlock=v.ownBlock∨v'.ownBlock=some w.heap.size)→K (a.put o.dst v') w')
 (hop:o.op= .call { callee:= .builtin .append,args:=#[s,x],argTypes:=#[t,t] }:=by rfl) (hg:o.guard=none:=by rfl) (hs:a.eval s=v:=by rfl) (hx:a.eval x= .slice A m c:=by rfl) (hzs:z.cells.size=size:=by rfl) (hsz:0<size:=by exact Nat.zero_lt_succ _):
 if Region.wanted o (yielded ops a.tmps)=true then Oper.wp P o a w K Q else E:=
 step_append_any _ hg s x t hop base e i z size bytes ht hi hz hsize hby hzs hsz v n xs hs hown B A m c news hx hr h1 h63 hbytes hbase h
/-- What is to be shown behind a call. -/
def Nxt (P:Program) (md:Region.Mode) (ops:Array Oper) (Q:Exit→Act→World→Prop) (S:World→Prop) (fuel:Nat) (l:Array Bool) (a:Act) (dst:Option Nat) (e:Ending) (w:World):Prop:=
 ∃v,e= .returned v∧S w∧(S w→wpAnyH P md ops Q S fuel l (a.put dst v) w)
theorem nxt {fuel:Nat} {l:Array Bool} {a a1:Act} {dst:Option Nat} {v:Value} {w:World} (hS:S w) (h:S w→wpAnyH P md ops Q S fuel l a1 w)
 (ha:a.put dst v=a1:=by conv=>(lhs;simp only[Act.put,List.setIfInBounds_toArray,List.set_cons_zero,List.set_cons_succ,List.getElem_toArray,List.getElem_cons_zero,List.getElem_cons_succ])):Nxt P md ops Q S fuel l a dst (.returned v) w:=⟨v,rfl,hS,by subst ha;exact h⟩
/-- An operation that yields a value and may move the world. -/
theorem yieldH {i:Nat} {o:Oper} {v:Value} {w':World} {fuel:Nat} {l l1:Array Bool} {a a1:Act} {w:World} (hS:S w') (h:S w'→wpAnyH P md ops Q S fuel l1 a1 w')
 (ho:ops[i]?=some o:=by rfl) (hw:Region.wanted o (yielded ops a.tmps)=true:=by first|rfl|kernel_rfl)
 (hrun:(execOp a.eval o).run P w= .ok (.value v) w':=by go_simp;try with_reducible rfl)
 (hl:l.setIfInBounds i true=l1:=by conv=>(lhs;simp only[List.setIfInBounds_toArray,List.set_cons_zero,List.set_cons_succ]))
 (ha:a.put o.dst v=a1:=by conv=>(lhs;simp only[Act.put,List.setIfInBounds_toArray,List.set_cons_zero,List.set_cons_succ,List.getElem_toArray,List.getElem_cons_zero,List.getElem_cons_succ])):OneH P md ops Q S fuel l a w i:=by
 subst hl ha
 refine wpOp_step ho fun K' hK=>?_
 rw[if_pos hw]
 unfold Oper.wp
 rw[hrun]
 exact hK _ _ ⟨hS,h hS⟩
/-- The built-in append. -/
theorem appH {i:Nat} {o:Oper} {fuel:Nat} {l l1:Array Bool} {a:Act} {w:World} (s x:Operand) (t:TypeId) (base:Nat) (e:TypeId) (inf:TypeInfo) (z:Value) (size bytes:Nat) (ht:P.underlying t=some (.slice e)) (hi:P.info? e=some inf) (hz:inf.zero=some z)
 (hsize:inf.size=size) (hby:inf.bytes=bytes) (v:Value) (n:Nat) (xs:List Value) (hown:w.ownsRow base e size v n xs)
 (B:Nat) (A:Option Addr) (m c:Nat) (news:List Value) (hr:Reads w B size A m news) (h1:∀u∈news,u.oneCell'=true)
 (h63:n+m≤maxLen) (hbytes:(n+m)*bytes≤140737488355328) (hbase:base≤w.heap.size)
 (h:∀v' w',w'.ownsRow base e size v' (n+m) (xs++news)→w.grownBy w' v.ownBlock→(v'.ownBlock=v.ownBlock∨v'.ownBlock=some w.heap.size)→Nxt P md ops Q S fuel l1 a o.dst (.returned v') w')
 (ho:ops[i]?=some o:=by rfl) (hop:o.op= .call { callee:= .builtin .append,args:=#[s,x],argTypes:=#[t,t] }:=by rfl) (hg:o.guard=none:=by rfl) (hs:a.eval s=v:=by rfl) (hx:a.eval x= .slice A m c:=by rfl) (hzs:z.cells.size=size:=by rfl) (hsz:0<size:=by exact Nat.zero_lt_succ _)
 (hl:l.setIfInBounds i true=l1:=by conv=>(lhs;simp only[List.setIfInBounds_toArray,List.set_cons_zero,List.set_cons_succ])):OneH P md ops Q S fuel l a w i:=by
 subst hl
 refine wpOp_step ho fun K' hK=>?_
 refine step_append_any _ hg s x t hop base e inf z size bytes ht hi hz hsize hby hzs hsz v n xs hs hown B A m c news hx hr h1 h63 hbytes hbase fun v' w' h2 h3 h4=>?_
 obtain⟨v2,e2,hS,hn⟩:=h v' w' h2 h3 h4
 cases e2
 exact hK _ _ ⟨hS,hn hS⟩
end
end Go.Proofs.YtpkeacnacjnlcaaGreat
namespace Go.Proofs.YtpkeacnacjnlcaaGreat
def itAt (l:List It) (k:Nat):It:=(l[k]?).getD ⟨[],[]⟩
theorem itAt_lt {l:List It} {k:Nat} (h:k<l.length):itAt l k=l[k]:=by unfold itAt;rw[List.getElem?_eq_getElem h];rfl
theorem itAt_mem {l:List It} {k:Nat} (h:k<l.length):itAt l k∈l:=by rw[itAt_lt h];exact List.getElem_mem _
/-- The last place, among the first n, of an item with a key; -1: none. -/
def findN (l:List It) (k:List UInt8):Nat→Int
 |0=> -1
 |n+1=>if (itAt l n).k=k then(n:Int)else findN l k n
def findI (l:List It) (k:List UInt8):Int:=findN l k l.length
theorem findN_cases (l:List It) (k:List UInt8):∀n:Nat,(findN l k n= -1∧∀j,j<n→(itAt l j).k≠k)∨∃i:Nat,i<n∧findN l k n=(i:Int)∧(itAt l i).k=k∧∀j,i<j→j<n→(itAt l j).k≠k
 |0=> .inl ⟨rfl,fun j h=>absurd h (Nat.not_lt_zero _)⟩
 |n+1=>by
  unfold findN
  by_cases h:(itAt l n).k=k
  ·rw[if_pos h]
   exact .inr ⟨n,by omega,rfl,h,fun j h1 h2=>by omega⟩
  ·rw[if_neg h]
   rcases findN_cases l k n with ⟨e,h1⟩|⟨i,hi,e,h1,h2⟩
   ·exact .inl ⟨e,fun j hj=>by
     by_cases ej:j=n
     ·rw[ej];exact h
     ·exact h1 j (by omega)⟩
   ·exact .inr ⟨i,by omega,e,h1,fun j h3 h4=>by
     by_cases ej:j=n
     ·rw[ej];exact h
     ·exact h2 j h3 (by omega)⟩
theorem findI_cases (l:List It) (k:List UInt8):(findI l k= -1∧∀x∈l,x.k≠k)∨∃i:Nat,i<l.length∧findI l k=(i:Int)∧(itAt l i).k=k∧∀j,i<j→j<l.length→(itAt l j).k≠k:=by
 rcases findN_cases l k l.length with ⟨e,h⟩|h
 ·refine .inl ⟨e,fun x hx=>?_⟩
  obtain⟨j,hj,rfl⟩:=List.mem_iff_getElem.1 hx
  rw[←itAt_lt hj]
  exact h j hj
 ·exact .inr h
/-- The value of the last item with a key. -/
def lastV (l:List It) (k:List UInt8):Option (List UInt8):=if findI l k<0 then none else some (itAt l (findI l k).toNat).v
open Go.Lib (compareBytes)
theorem cb_cons (c:UInt8) (a b:List UInt8):compareBytes (c::a) (c::b)=compareBytes a b:=by
 rw[compareBytes.eq_def]
 simp only
 rw[if_neg (UInt8.lt_irrefl c),if_neg (UInt8.lt_irrefl c)]
theorem ltK_cons {c:UInt8} {a b:List UInt8}:ltK (c::a) (c::b)↔ltK a b:=by unfold ltK;rw[cb_cons]
theorem ltK_head {c d:UInt8} {a b:List UInt8} (h:c<d):ltK (c::a) (d::b):=by
 unfold ltK compareBytes
 rw[if_pos h]
 decide
theorem ltK_left:∀ {u a b:List UInt8},ltK a b→ltK (u++a) (u++b)
 |[],_,_,h=>h
 |_::_,_,_,h=>ltK_cons.2 (ltK_left h)
theorem ltK_append:∀ {a b u v:List UInt8},a.length=b.length→ltK a b→ltK (a++u) (b++v)
 |[],[],_,_,_,h=>absurd h (ltK_irrefl _)
 |[],_::_,_,_,h,_=>by simp at h
 |_::_,[],_,_,h,_=>by simp at h
 |c::a,d::b,u,v,h,h2=>by
  by_cases e:c=d
  ·subst e
   exact ltK_cons.2 (ltK_append (by simpa using h) (ltK_cons.1 h2))
  ·have:c<d:=by
    by_cases hc:c<d
    ·exact hc
    ·exfalso
     have hd:d<c:=UInt8.lt_of_le_of_ne (UInt8.not_lt.1 hc) (Ne.symm e)
     exact ltK_asymm h2 (ltK_head hd)
   exact ltK_head this
theorem numL_fold (l:List UInt8):∀n:Nat,l.foldl (fun n b=>n*256+b.toNat) n=n*256^l.length+l.foldl (fun n b=>n*256+b.toNat) 0:=by
 induction l with
 |nil=>intro n;simp
 |cons a l ih=>
  intro n
  rw[List.foldl_cons,List.foldl_cons,ih,ih (0*256+a.toNat),List.length_cons,Nat.pow_succ]
  have:(n*256+a.toNat)*256^l.length=n*(256^l.length*256)+a.toNat*256^l.length:=by
   rw[Nat.add_mul,Nat.mul_assoc,Nat.mul_comm 256]
  rw[this,Nat.zero_mul,Nat.zero_add]
  omega
theorem numL_cons (a:UInt8) (l:List UInt8):numL (a::l)=a.toNat*256^l.length+numL l:=by
 unfold numL
 rw[List.foldl_cons,numL_fold]
 simp
theorem ltK_num:∀ {a b:List UInt8},a.length=b.length→numL a<numL b→ltK a b
 |[],[],_,h=>absurd h (Nat.lt_irrefl _)
 |[],_::_,h,_=>by simp at h
 |_::_,[],h,_=>by simp at h
 |c::a,d::b,h,h2=>by
  have hl:a.length=b.length:=by simpa using h
  rw[numL_cons,numL_cons,hl]at h2
  by_cases e:c=d
  ·subst e
   exact ltK_cons.2 (ltK_num hl (by omega))
  ·refine ltK_head ?_
   by_cases hc:c<d
   ·exact hc
   ·exfalso
    have hd:d<c:=UInt8.lt_of_le_of_ne (UInt8.not_lt.1 hc) (Ne.symm e)
    have h3:d.toNat+1≤c.toNat:=UInt8.lt_iff_toNat_lt.1 hd
    have h4:=Nat.mul_le_mul_right (256^b.length) h3
    rw[Nat.succ_mul]at h4
    have h5:=numL_lt b
    omega
theorem ltK_beB {n m s:Nat} (h:n<m) (hm:m<256^s):ltK (beB n s) (beB m s):=
 ltK_num (by rw[beB_length,beB_length]) (by rw[numL_beB,numL_beB,Nat.mod_eq_of_lt hm,Nat.mod_eq_of_lt (Nat.lt_trans h hm)];exact h)
end Go.Proofs.YtpkeacnacjnlcaaGreat
