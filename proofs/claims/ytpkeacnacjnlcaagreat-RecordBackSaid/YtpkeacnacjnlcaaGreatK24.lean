/- plan.clean: the walk. -/
import Derived.Test.YtpkeacnacjnlcaaGreatK23
namespace Go.Proofs.YtpkeacnacjnlcaaGreat
open Go.RowKit
attribute [local go_sem] Oper.semAt_some
theorem marks_row {B:Nat} {Ds:List Nat} {W W':World} {base:Nat} {t:TypeId} {size n:Nat} {v:Value} {xs:List Value} (h:Marks B Ds W) (ho:W.ownsRow base t size v n xs) (hg:W.grownBy W' v.ownBlock):Marks B Ds W':=
 h.kept fun D hD=>hg.block D (h.lt hD) (fun e=>by
  rcases ho.2 with ⟨rfl,-⟩|⟨g,c,cur,rfl,-,hc,-⟩
  ·simp[Value.ownBlock]at e
  ·have:g=D:=by simpa[Value.ownBlock]using e.symm
   subst this
   have h1:=(h.2 _ hD).2
   rw[hc]at h1
   cases h1)
theorem normE_take {ps:List Parc} {k:Nat} (hk:k<ps.length):normE (ps.take (k+1))=normE (ps.take k)++(edgesOf (pcAt ps k).ring).map Ed.norm:=by
 unfold normE
 rw[allE_take hk,List.map_append]
/-- What lies below the mark, and the one box, is as it was. -/
theorem cleanK_below {S bs:Nat} {W W':World} (h:Below W.heap.size W W') (h1:S≤W.heap.size) (h2:bs<W.heap.size):KeepsOthers W W'∧KeepE S bs W W':=⟨keeps_below h,KeepE.below h h1 h2⟩
theorem own_heap {W W':World} {base:Nat} {t:TypeId} {size n:Nat} {v:Value} {xs:List Value} (h:W.ownsRow base t size v n xs) (hk:∀g,v.ownBlock=some g→W'.heap[g]?=W.heap[g]?):W'.ownsRow base t size v n xs:=by
 refine⟨h.1,?_⟩
 rcases h.2 with h2|⟨g,c,cur,e,h3,hc,h4⟩
 ·exact .inl h2
 ·exact .inr ⟨g,c,cur,e,h3,(hk g (by rw[e];rfl)).trans hc,h4⟩
theorem heap_put4 (W:World) (B:Nat) (a b c d:Value) {k:Nat} (hk:k≠B):((((W.setCell ⟨B,0,none⟩ a).setCell ⟨B,1,none⟩ b).setCell ⟨B,2,none⟩ c).setCell ⟨B,3,none⟩ d).heap[k]?=W.heap[k]?:=by
 rw[Below.heap_setCell _ _ _ k (by simpa using hk),Below.heap_setCell _ _ _ k (by simpa using hk),Below.heap_setCell _ _ _ k (by simpa using hk),Below.heap_setCell _ _ _ k (by simpa using hk)]
theorem four_cells (W:World) (a b c d:Value) (t:TypeId) (k:Nat) (hk:k=W.heap.size):∀(j:Nat) (u:Value),[a,b,c,d][j]?=some u→(W.alloc (.cells #[a,b,c,d] t)).cell? ((⟨k,0,none⟩:Addr).add j)=some u:=by
 subst hk
 intro j u hu
 rw[add_row,World.cell?_alloc_mark,←Array.getElem?_toList]
 exact hu
theorem blk_row {W:World} {g base size n:Nat} {t e:TypeId} {cs:Array Value} {v:Value} {xs:List Value} (h:Blk W g t cs) (hne:t≠e) (ho:W.ownsRow base e size v n xs):some g≠v.ownBlock:=by
 rcases ho.2 with ⟨rfl,-⟩|⟨k,c,cur,rfl,-,hc,-⟩
 ·simp[Value.ownBlock]
 ·intro e'
  obtain rfl:g=k:=by simpa[Value.ownBlock]using e'
  rw[show W.heap[g]?=_ from h]at hc
  cases hc
  exact hne rfl
theorem clean_append {w W V w3:World} {S bs B k m:Nat} {v v' rv:Value} {xs ys:List Value} {tmp:Obj} {A A':Option Addr} {n c n' c':Nat} {Ds:List Nat}
 (h1:KeepsOthers W V) (h2:KeepE S bs W V) (bv:Boxed V (S+1) 71 v) (ho:V.ownsRow S 76 4 v k xs) (dr:Boxed V bs 25 rv)
 (dK:PlK V S A n c A' n' c') (dk:Marks S Ds V) (dB:Below S w V) (hbs:bs≠S+1) (hown':w3.ownsRow S 76 4 v' m ys) (hgrow:(V.alloc tmp).grownBy w3 v.ownBlock):
 KeepsFrom B W (w3.setCell ⟨S+1,0,none⟩ v')∧KeepE S bs W (w3.setCell ⟨S+1,0,none⟩ v')∧(Boxed (w3.setCell ⟨S+1,0,none⟩ v') (S+1) 71 v'∧(w3.setCell ⟨S+1,0,none⟩ v').ownsRow S 76 4 v' m ys)∧
 Boxed (w3.setCell ⟨S+1,0,none⟩ v') bs 25 rv∧PlK (w3.setCell ⟨S+1,0,none⟩ v') S A n c A' n' c'∧Marks S Ds (w3.setCell ⟨S+1,0,none⟩ v')∧Below S w (w3.setCell ⟨S+1,0,none⟩ v')∧w3.cell? ⟨S+1,0,none⟩=some v∧w3.frozen? ⟨S+1,0,none⟩=false:=by
 have hlt:=bv.lt
 obtain⟨q1,q2,q3,q4,q5⟩:=Boxed.appended bv (by decide) ho (by omega) (by omega) hown' hgrow
 have r1:Boxed (w3.setCell ⟨S+1,0,none⟩ v') bs 25 rv:=((dr.alloc tmp).kept hgrow (dr.not_row (by decide) ho)).other (B':=S+1) hbs v'
 refine⟨(h1.trans q4).from _,⟨Nat.le_trans h2.1 q4.size,fun i hi=>?_⟩,⟨q2,q3⟩,r1,?_,?_,dB.trans q5,q1.cell,q1.frozen⟩
 ·rw[←h2.2 i hi]
  rcases hi with hi|rfl
  ·exact q5.block i hi
  ·exact(show _=_ from r1).trans (show _=_ from dr).symm
 ·exact Blk.far (Blk.grown (Blk.alloc dK tmp) hgrow (blk_row dK (by decide) ho)) (by simp) _
 ·have hm:=marks_row (dk.on ((Below.refl _ _).alloc (Nat.le_refl _) tmp)) (ho.alloc tmp) hgrow
  exact hm.kept fun D hD=>Below.heap_setCell _ _ _ D (marks_box hm q1 hD)
theorem Reads.other {W:World} {B g m size:Nat} {xs:List Value} (h:Reads W B size (some ⟨g,0,none⟩) m xs) {q:Addr} (hq:g≠q.block) (u:Value):Reads (W.setCell q u) B size (some ⟨g,0,none⟩) m xs:=by
 refine⟨h.1,fun h0=>?_⟩
 obtain⟨ad,e,hb,hc⟩:=h.2 h0
 cases e
 refine⟨_,rfl,hb,fun j u hu=>Eq.trans ?_ (hc j u hu)⟩
 have hne:(⟨g,0,none⟩:Addr).add j≠q:=fun e=>hq (by have:=congrArg Addr.block e;rw[block_of_add]at this;exact this)
 first
  |exact World.cell?_setCell_other _ _ _ _ hne
  |exact World.cell?_setCell_other _ _ _ _ hne.symm
  |exact World.cell?_setCell_other hne
  |exact World.cell?_setCell_other hne.symm
set_option maxRecDepth 100000 in
set_option maxHeartbeats 6400000 in
theorem clean_any (p:Plan) (A A':Option Addr) (n c n' c':Nat) (w:World) (h:PlanAt w w.heap.size A n c A' n' c' p) (hE:PreC p) (b:Bool) (hb:b=true↔PairsE (allE p.parcels)):
 Calls Tryz.prog 93 #[planV A n c A' n' c'] w fun e w'=>e= .returned (.bool b)∧Below w.heap.size w w':=by
 obtain⟨hl1,hl2,hl3,hl4⟩:=h.lens
 obtain⟨i0,hi0,hz0,hz1,hz2⟩:=info_parts info_ed
 have hB0:Below w.heap.size w ((w.alloc (.cells #[.slice A n c,.slice A' n' c'] 30)).alloc (.cells #[.slice none 0 0] 71)):=((Below.refl _ _).alloc (Nat.le_refl _) _).alloc (by simp) _
 have hK0:PlK ((w.alloc (.cells #[.slice A n c,.slice A' n' c'] 30)).alloc (.cells #[.slice none 0 0] 71)) w.heap.size A n c A' n' c':=Blk.alloc (PlK.new w A n c A' n' c') _
 have hL0:=Boxed.new (w.alloc (.cells #[.slice A n c,.slice A' n' c'] 30)) 71 (.slice none 0 0)
 rw[World.size_alloc]at hL0
 obtain⟨hE,hEd,hEg,hEn⟩:=hE
 have HP:=Lib.hid (And.intro h hE)
 have HC:Hid (∀d:List Ed,d.Perm (normE p.parcels)→d.Pairwise (fun e f=>¬cmpE f e<0)→(b=true↔SweepE (cp d))∧(∀e∈cp d,good e.a=true∧good e.b=true)∧(cp d).Pairwise fun e f=>e≠f∧ordI e.a f.a≤0):=fun d h1 h2=>by
  obtain⟨g1,g2⟩:=clean_law h1 h2 hEn hEd hEg
  exact⟨hb.trans g1.symm,g2⟩
 clear hEd hEg hEn hb
 have HL2:=Lib.hid hl2
 have H0:=Lib.hid (And.intro hB0 (And.intro hK0 hL0))
 obtain⟨q1,q2,-⟩:=hK0.facts
 clear hB0 hK0 hL0 h hE hl1 hl2
 refine(callsIn_wide (n:=3)).1 ?_
 refine callsIn_of_wp_marks Tryz.func93 rfl trivial ?_ rfl
 simp only[Tryz.ntmps93,List.size_toArray,List.length_cons,List.length_nil,Nat.reduceAdd,Nat.reduceSub,Array.replicate_succ,Array.replicate_zero,List.push_toArray,List.append_toArray,List.nil_append,List.cons_append]
 gi_wp2_with fail
 obtain⟨wo,hwo⟩:∃wo:World,wo=(w.alloc (.cells #[.slice A n c,.slice A' n' c'] 30)).alloc (.cells #[.slice none 0 0] 71):=⟨_,rfl⟩
 rw[←hwo]at H0 q1 q2
 rw[←hwo]
 clear hwo q1 q2
 refine wpIn_loop (fun a' wr=>∃(u5 u16 u17 u18 u19 u20 u21 u36:Value) (k:Nat) (Ds:List Nat),(k≤n'∧Marks w.heap.size Ds wr∧Below w.heap.size w wr∧PlK wr w.heap.size A n c A' n' c'∧∃sl,Boxed wr (w.heap.size+1) 71 sl∧wr.ownsRow w.heap.size 76 4 sl (normE (p.parcels.take k)).length (edsV (normE (p.parcels.take k))))∧
  a'={ tmps:=#[planV A n c A' n' c',.pointer (some ⟨w.heap.size,0,none⟩),.bool false,.pointer (some ⟨w.heap.size+1,0,none⟩),undef,u5,undef,undef,undef,undef,undef,undef,.pointer (some ⟨w.heap.size,1,none⟩),.slice A' n' c',.int .i64 (n':Int),.int .i64 (k:Int),u16,u17,u18,u19,u20,u21,undef,undef,undef,undef,undef,undef,undef,undef,undef,undef,undef,undef,undef,undef,u36,undef,undef,undef,undef,undef,undef,undef,undef,undef,undef,undef,undef,undef,undef,undef,undef,undef,undef,undef,undef,undef,undef,undef,undef,undef,undef,undef,undef,undef,undef,undef,undef,undef],defers:=marksL Ds }) (fun a' _=>n'-(intOf (a'.tmps.getD 15 undef)).toNat) ?_ ?_
 ·exact⟨undef,undef,undef,undef,undef,undef,undef,undef,0,[],⟨Nat.zero_le _,Marks.nil _ _,H0.out.1,H0.out.2.1,_,H0.out.2.2,World.ownsRow_nil _ _ _ _⟩,rfl⟩
 rintro a' wr ⟨u5,u16,u17,u18,u19,u20,u21,u36,k,Ds,⟨hk,hmk,hbel,hK,sl,bL,hown⟩,rfl⟩
 clear H0
 by_cases hlt:k<n'
 ·have hlt':(k:Int)<(n':Int):=by omega
  have hw1:IntKind.i64.wrap ((k:Int)+1)=(k:Int)+1:=by rw[IntKind.wrap_i64];omega
  obtain⟨ad,rfl⟩:=HP.out.1.parcs.some_ (by omega)
  obtain⟨-,p1,⟨Ak,nk,ck,p2,hrk,hk1,hk2⟩,p3⟩:=(HP.out.1.parcs.below hbel).at_ hlt
  obtain⟨x,hx⟩:∃x,x=pcAt p.parcels k:=⟨_,rfl⟩
  rw[←hx]at p1 p3 hrk
  have HXX:=Lib.hid hx
  have HX:=Lib.hid (And.intro hmk (And.intro hbel (And.intro hK (And.intro bL (And.intro hown hrk)))))
  clear hx hmk hbel hK bL hown hrk
  gi_wp2_with fail
  refine⟨trivial,?_⟩
  refine(callsIn_wide.2 (edges_any Ak nk ck _)).mono ?_
  rintro e w3 ⟨rfl,rfl⟩
  gi_wp2_with fail
  obtain⟨hmk,hbel,hK,bL,hown,hrk⟩:=HX.out
  have hsz:w.heap.size+1<wr.heap.size:=bL.lt
  have c2:=Boxed.new (wr.alloc (.cells #[.int .i64 x.id,.slice Ak nk ck,.string x.owner] 27)) 25 (.slice Ak nk ck)
  rw[World.size_alloc]at c2
  have hB1:Below wr.heap.size wr ((wr.alloc (.cells #[.int .i64 x.id,.slice Ak nk ck,.string x.owner] 27)).alloc (.cells #[.slice Ak nk ck] 25)):=((Below.refl _ _).alloc (Nat.le_refl _) _).alloc (by simp) _
  have hz1':((wr.alloc (.cells #[.int .i64 x.id,.slice Ak nk ck,.string x.owner] 27)).alloc (.cells #[.slice Ak nk ck] 25)).heap.size=wr.heap.size+2:=by simp
  generalize (wr.alloc (.cells #[.int .i64 x.id,.slice Ak nk ck,.string x.owner] 27)).alloc (.cells #[.slice Ak nk ck] 25)=w1 at *
  obtain⟨L0,hL0⟩:∃L0,L0=normE (p.parcels.take k):=⟨_,rfl⟩
  rw[←hL0]at hown
  have hDl:∀D∈Ds,D<w1.heap.size:=fun D hD=>by have:=hmk.lt hD;omega
  have HNK:=Lib.hid hrk.lenPt
  have hfx:x.fits:=by rw[HXX.out,pcAt_lt (by have:=HL2.out;omega)];exact HP.out.1.fits.2.2 _ (List.getElem_mem _)
  have hlen:nk≤4611686018427387904:=by have:=hfx.1;have:=HNK.out;omega
  refine wpIn_rangeFunc_ownH rfl (by omega) (gf:=153) (lb:=#[.pointer (some ⟨wr.heap.size+1,0,none⟩)]) rfl trivial (enters_of Tryz.func153 (by kernel_rfl) rfl)
   (edges_stopsR 2 (by omega) w.heap.size (wr.heap.size+1) ck nk Ak x.ring hlen w1 (by omega) (by omega) c2.cell (hrk.below (hB1.mono (by omega)))) (fun h k=>h.trans k)
   (fun W l o o' hl h _ _=>⟨by simp,fun i hi=>World.putObj_heap_other (by omega)⟩) (Below.refl _ _) (fun _=>rfl)
   (fun pre W=>(∃v,Boxed W (w.heap.size+1) 71 v∧W.ownsRow w.heap.size 76 4 v (L0++pre.map fun y=>(edgeK x.ring y.1).norm).length (edsV (L0++pre.map fun y=>(edgeK x.ring y.1).norm))∧True)∧Boxed W (wr.heap.size+1) 25 (.slice Ak nk ck)∧PlK W w.heap.size A n c (some ad) n' c'∧Marks w.heap.size Ds W∧Below w.heap.size w W)
   (fun _ _ _=>False)
   (OwnFrom.and (Own.from (holdsRow_own w.heap.size (w.heap.size+1) _ _ 4 (fun pre:List {k:Nat // k<nk}=>(L0++pre.map fun y=>(edgeK x.ring y.1).norm).length) (fun pre=>edsV (L0++pre.map fun y=>(edgeK x.ring y.1).norm)) (fun _ _=>True)) _)
     (OwnFrom.and (Own.from (boxed_own _ _ _) _) (OwnFrom.and (Own.from (blk_own _ _ _) _) (OwnFrom.and (marks_from hDl) (ownFrom_below (Nat.le_refl _) (by omega))))))
   (fun _ _ _ _ _ hs _ _=>hs)
   ⟨⟨sl,Blk.below bL hB1 bL.lt,by simpa using own_below hown hB1,trivial⟩,c2,hK.on hB1,hmk.on hB1,below_on hbel (Nat.le_refl _) hB1⟩
   (fun y a' W=>∃(Bx:Nat) (v16 v17 v18 v19 v20 v21 v22 v23 v36:Value),w1.heap.size≤Bx∧Blk W Bx 76 #[.int .i64 (ptAt x.ring y.1).x,.int .i64 (ptAt x.ring y.1).y,.int .i64 (ptAt x.ring ((y.1+1)%x.ring.length)).x,.int .i64 (ptAt x.ring ((y.1+1)%x.ring.length)).y]∧(∃v0,Boxed W (w.heap.size+1) 71 v0∧v0.ownBlock≠some Bx)∧
     a'={ tmps:=#[planV A n c (some ad) n' c',.pointer (some ⟨w.heap.size,0,none⟩),.bool false,.pointer (some ⟨w.heap.size+1,0,none⟩),undef,.pointer (some ⟨wr.heap.size,0,none⟩),undef,.pointer (some ⟨Bx,0,none⟩),undef,undef,undef,undef,.pointer (some ⟨w.heap.size,1,none⟩),.slice (some ad) n' c',.int .i64 (n':Int),.int .i64 (k:Int),v16,v17,v18,v19,v20,v21,v22,v23,undef,undef,undef,undef,undef,undef,undef,undef,undef,undef,undef,undef,v36,undef,undef,undef,undef,undef,undef,undef,undef,undef,undef,undef,undef,undef,undef,undef,undef,undef,undef,undef,undef,undef,undef,undef,undef,undef,undef,undef,undef,undef,undef,undef,undef,undef],defers:=[] })
   (fun y a'=>fun s X Y row ⟨Bx,v16,v17,v18,v19,v20,v21,v22,v23,v36,hbx,hs,⟨v0,hv0,hv1⟩,e⟩ hg hrow=>⟨Bx,v16,v17,v18,v19,v20,v21,v22,v23,v36,hbx,blk_own Bx _ (fun _:Unit=>_) () X Y row hs hg (fun r hr=>(hrow r hr).2),⟨v0,boxed_own _ _ (fun _:Unit=>_) () X Y row hv0 hg (fun r hr=>(hrow r hr).2),hv1⟩,e⟩) ?assign ?body ?done ?stop
  case assign=>
   rintro l pre y W K ⟨⟨v,bv,ho,_⟩,dr,dK,dk,dB⟩ hK'
   unfold edgeAt edgeV
   gi_wp2
   have h1:=dr.lt
   have h2:=dB.size
   exact hK' _ _ ((KeepsOthers.alloc _ _).from _) (KeepE.alloc (by omega) h1 _) ⟨⟨v,bv.alloc _,ho.alloc _,trivial⟩,dr.alloc _,Blk.alloc dK _,dk.on ((Below.refl _ _).alloc (Nat.le_refl _) _),dB.alloc dB.size _⟩ ⟨W.heap.size,_,_,_,_,_,_,_,_,_,by omega,Blk.new W _ _,⟨v,bv.alloc _,fun e=>by have:=(ho.lt _ e).2;omega⟩,rfl⟩
  case body=>
   rintro l pre ⟨y,hyn⟩ a' W hl' ⟨r,hrr⟩ ⟨⟨v,bv,ho,_⟩,dr,dK,dk,dB⟩ ⟨Bx,v16,v17,v18,v19,v20,v21,v22,v23,v36,hbx,hBx,⟨v0,hv0,hv1⟩,rfl⟩ hlen'
   obtain rfl:v=v0:=by
    have h1:=bv.cell
    rw[hv0.cell]at h1
    exact(Option.some.inj h1).symm
   obtain⟨e,he⟩:∃e,e=edgeK x.ring y:=⟨_,rfl⟩
   have he1:e.a=ptAt x.ring y:=by rw[he];rfl
   have he2:e.b=ptAt x.ring ((y+1)%x.ring.length):=by rw[he];rfl
   simp only[←he1,←he2]at hBx
   clear he1 he2
   have hap:(L0++(pre++[(⟨y,hyn⟩:{k:Nat // k<nk})]).map fun y=>(edgeK x.ring y.1).norm)=(L0++pre.map fun y=>(edgeK x.ring y.1).norm)++[e.norm]:=by rw[List.map_append,←List.append_assoc,List.map_singleton,he]
   have HE:=Lib.hid hap
   clear he hap
   obtain⟨M,hM⟩:∃M,M=(L0++pre.map fun y=>(edgeK x.ring y.1).norm):=⟨_,rfl⟩
   rw[←hM]at ho HE
   have hMl:M.length<1048576:=by
    have g1:=allE_take (ps:=p.parcels) (k:=k) (by have:=HL2.out;omega)
    have g2:=allE_take_le p.parcels (k+1)
    rw[g1,List.length_append,edgesOf_len,←HXX.out,HNK.out]at g2
    have g3:=HP.out.2.2
    rw[hM,List.length_append,List.length_map,hL0,normE,List.length_map]
    omega
   have HM:=Lib.hid hMl
   clear hM hMl
   have x1:W.cell? ⟨Bx,0,none⟩=some (.int .i64 e.a.x):=by rw[Blk.cell hBx 0];rfl
   have x2:W.cell? ⟨Bx,1,none⟩=some (.int .i64 e.a.y):=by rw[Blk.cell hBx 1];rfl
   have x3:W.cell? ⟨Bx,2,none⟩=some (.int .i64 e.b.x):=by rw[Blk.cell hBx 2];rfl
   have x4:W.cell? ⟨Bx,3,none⟩=some (.int .i64 e.b.y):=by rw[Blk.cell hBx 3];rfl
   have HW:=Lib.hid (And.intro bv (And.intro ho (And.intro dr (And.intro dK (And.intro dk (And.intro dB (And.intro hBx hv1)))))))
   clear bv ho dr dK dk dB hBx hv0 hv1 hrr
   gi_wp2_with fail
   refine⟨trivial,?_⟩
   refine(CallsIn.inRound l (callsIn_wide.2 (order_any e.a e.b W))).mono ?_
   rintro r' W1 ⟨rfl,hb1⟩
   obtain⟨bv,ho,dr,dK,dk,dB,hBx,hv1⟩:=HW.out
   have hn:e.norm=if 0<ordI e.a e.b then e.back else e:=rfl
   have HN:=Lib.hid hn
   clear hn
   generalize ordI e.a e.b=o at *
   by_cases hpos:0<o
   ·have hBx1:=Blk.below hBx hb1 (Blk.lt hBx)
    have x1:W1.cell? ⟨Bx,0,none⟩=some (.int .i64 e.a.x):=by rw[Blk.cell hBx1 0];rfl
    have x2:W1.cell? ⟨Bx,1,none⟩=some (.int .i64 e.a.y):=by rw[Blk.cell hBx1 1];rfl
    have x3:W1.cell? ⟨Bx,2,none⟩=some (.int .i64 e.b.x):=by rw[Blk.cell hBx1 2];rfl
    have x4:W1.cell? ⟨Bx,3,none⟩=some (.int .i64 e.b.y):=by rw[Blk.cell hBx1 3];rfl
    have HW1:=Lib.hid (And.intro hb1 hBx1)
    clear bv ho dr dK dk dB hBx hv1 hb1 hBx1
    gi_wp2_with fail
    refine⟨trivial,?_⟩
    refine(CallsIn.inRound l (callsIn_wide.2 (turnedEd_any e W1))).mono ?_
    rintro r2 W2 ⟨rfl,hb2⟩
    obtain⟨hb1,hBx1⟩:=HW1.out
    have hBx2:=Blk.below hBx1 hb2 (Blk.lt hBx1)
    have f1:=Blk.frozen hBx2 0
    have f2:=Blk.frozen hBx2 1
    have f3:=Blk.frozen hBx2 2
    have f4:=Blk.frozen hBx2 3
    have x1:W2.cell? ⟨Bx,0,none⟩=some (.int .i64 e.a.x):=by rw[Blk.cell hBx2 0];rfl
    have x2:W2.cell? ⟨Bx,1,none⟩=some (.int .i64 e.a.y):=by rw[Blk.cell hBx2 1];rfl
    have x3:W2.cell? ⟨Bx,2,none⟩=some (.int .i64 e.b.x):=by rw[Blk.cell hBx2 2];rfl
    have x4:W2.cell? ⟨Bx,3,none⟩=some (.int .i64 e.b.y):=by rw[Blk.cell hBx2 3];rfl
    have hBV:=Blk.set_ (Blk.set_ (Blk.set_ (Blk.set_ hBx2 0 (.int .i64 e.b.x)) 1 (.int .i64 e.b.y)) 2 (.int .i64 e.a.x)) 3 (.int .i64 e.a.y)
    simp only[List.setIfInBounds_toArray,List.set_cons_zero,List.set_cons_succ]at hBV
    have hq:∀g,g≠Bx→(((((W2.setCell ⟨Bx,0,none⟩ (.int .i64 e.b.x)).setCell ⟨Bx,1,none⟩ (.int .i64 e.b.y)).setCell ⟨Bx,2,none⟩ (.int .i64 e.a.x)).setCell ⟨Bx,3,none⟩ (.int .i64 e.a.y))).heap[g]?=W2.heap[g]?:=fun g=>heap_put4 W2 Bx (.int .i64 e.b.x) (.int .i64 e.b.y) (.int .i64 e.a.x) (.int .i64 e.a.y) (k:=g)
    have hsz4:(((((W2.setCell ⟨Bx,0,none⟩ (.int .i64 e.b.x)).setCell ⟨Bx,1,none⟩ (.int .i64 e.b.y)).setCell ⟨Bx,2,none⟩ (.int .i64 e.a.x)).setCell ⟨Bx,3,none⟩ (.int .i64 e.a.y))).heap.size=W2.heap.size:=by simp
    obtain⟨y1,y2,y3,y4⟩:(((((W2.setCell ⟨Bx,0,none⟩ (.int .i64 e.b.x)).setCell ⟨Bx,1,none⟩ (.int .i64 e.b.y)).setCell ⟨Bx,2,none⟩ (.int .i64 e.a.x)).setCell ⟨Bx,3,none⟩ (.int .i64 e.a.y))).cell? ⟨Bx,0,none⟩=some (.int .i64 e.b.x)∧(((((W2.setCell ⟨Bx,0,none⟩ (.int .i64 e.b.x)).setCell ⟨Bx,1,none⟩ (.int .i64 e.b.y)).setCell ⟨Bx,2,none⟩ (.int .i64 e.a.x)).setCell ⟨Bx,3,none⟩ (.int .i64 e.a.y))).cell? ⟨Bx,1,none⟩=some (.int .i64 e.b.y)∧(((((W2.setCell ⟨Bx,0,none⟩ (.int .i64 e.b.x)).setCell ⟨Bx,1,none⟩ (.int .i64 e.b.y)).setCell ⟨Bx,2,none⟩ (.int .i64 e.a.x)).setCell ⟨Bx,3,none⟩ (.int .i64 e.a.y))).cell? ⟨Bx,2,none⟩=some (.int .i64 e.a.x)∧(((((W2.setCell ⟨Bx,0,none⟩ (.int .i64 e.b.x)).setCell ⟨Bx,1,none⟩ (.int .i64 e.b.y)).setCell ⟨Bx,2,none⟩ (.int .i64 e.a.x)).setCell ⟨Bx,3,none⟩ (.int .i64 e.a.y))).cell? ⟨Bx,3,none⟩=some (.int .i64 e.a.y):=⟨by rw[Blk.cell hBV 0];rfl,by rw[Blk.cell hBV 1];rfl,by rw[Blk.cell hBV 2];rfl,by rw[Blk.cell hBV 3];rfl⟩
    obtain⟨V,hV⟩:∃V,((((W2.setCell ⟨Bx,0,none⟩ (.int .i64 e.b.x)).setCell ⟨Bx,1,none⟩ (.int .i64 e.b.y)).setCell ⟨Bx,2,none⟩ (.int .i64 e.a.x)).setCell ⟨Bx,3,none⟩ (.int .i64 e.a.y))=V:=⟨_,rfl⟩
    have hV2:=hV
    rw[hV]at hBV hsz4 y1 y2 y3 y4
    have hq:∀g,g≠Bx→V.heap[g]?=W2.heap[g]?:=fun g hg=>by rw[←hV];exact hq g hg
    obtain⟨bv,ho,dr,dK,dk,dB,hBx,hv1⟩:=HW.out
    have hb12:Below W.heap.size W W2:=below_on hb1 (Nat.le_refl _) hb2
    have hs2:=hb12.size
    have e1:=bv.lt
    have e2:=dr.lt
    have e3:=(Blk.lt hBx)
    have hq2:∀g,g<W.heap.size→g≠Bx→(V).heap[g]?=W.heap[g]?:=fun g hg hne=>(hq g hne).trans (hb12.block g hg)
    have HV:=Lib.hid (show KeepsOthers W (V)∧KeepE w.heap.size (wr.heap.size+1) W (V) from
     ⟨⟨by omega,fun g o hg ho=>(hq2 g (Array.getElem?_eq_some_iff.1 hg).1 (fun e'=>by subst e';rw[show W.heap[g]?=_ from hBx]at hg;cases hg;cases ho)).trans hg⟩,by omega,fun i hi=>hq2 i (by omega) (by omega)⟩)
    have bvV:Boxed (V) (w.heap.size+1) 71 v:=(hq2 _ e1 (by omega)).trans bv
    have hoV:=own_heap (W':=V) ho (fun g hg=>hq2 g (ho.lt g hg).2 (fun e'=>hv1 (by rw[hg,e'])))
    have drV:Boxed (V) (wr.heap.size+1) 25 (.slice Ak nk ck):=(hq2 _ e2 (by omega)).trans dr
    have dKV:PlK (V) w.heap.size A n c (some ad) n' c':=(hq2 _ (by omega) (by omega)).trans dK
    have dkV:Marks w.heap.size Ds (V):=dk.kept fun D hD=>hq2 D (dk.lt hD) (by have:=hDl D hD;omega)
    have dBV:Below w.heap.size w (V):=by rw[←hV2];exact((((below_on (below_on dB (Nat.le_refl _) hb1) (Nat.le_refl _) hb2).setCell (p:=⟨Bx,0,none⟩) (by simp only;omega) _).setCell (p:=⟨Bx,1,none⟩) (by simp only;omega) _).setCell (p:=⟨Bx,2,none⟩) (by simp only;omega) _).setCell (p:=⟨Bx,3,none⟩) (by simp only;omega) _
    have hbc:=bvV.cell
    have hn:=HN.out
    rw[if_pos hpos]at hn
    have HN:=Lib.hid (hn.trans (show e.back=⟨e.b,e.a⟩ from rfl))
    clear hV2 bv ho dr dK dk dB hBx hv1 hb1 hBx1 hb2 hb12 hBV hq hq2 hBx2 hn
    have c4:=four_cells (V) (.int .i64 e.b.x) (.int .i64 e.b.y) (.int .i64 e.a.x) (.int .i64 e.a.y) 76 W2.heap.size hsz4.symm
    have hMl:M.length<1048576:=HM.out
    have hszV:=bvV.lt
    gi_wp2_with (first
     |(gi_at_builtin;refine wpListIn_append_own _ rfl _ _ 71 rfl w.heap.size 76 i0 _ 4 32 Tryz.underlying71 hi0 hz0 hz1 hz2 rfl (by decide) v M.length _ rfl (hoV.alloc _) ⟨W2.heap.size,0,none⟩ 1 1 [.int .i64 e.b.x,.int .i64 e.b.y,.int .i64 e.a.x,.int .i64 e.a.y] rfl rfl c4 (by simp[Value.oneCell']) (by simp only[maxLen];omega) (by omega) (by simp;omega) ?_
       intro v' w3 hown' hgrow _
       obtain⟨g',cap',rfl⟩:=ownsRow_succ hown'
       obtain⟨z1,z2,z3,z4,z5,z6,z7,hc1,hf1⟩:=clean_append (B:=w1.heap.size) HV.out.1 HV.out.2 bvV hoV drV dKV dkV dBV (by omega) hown' hgrow))
    refine⟨z1,z2,⟨_,z3.1,?_,trivial⟩,z4,z5,z6,z7⟩
    rw[HE.out,HN.out,List.length_append]
    simp only[edsV,List.flatMap_append,List.flatMap_singleton]
    exact z3.2
   ·have hBx1:=Blk.below hBx hb1 (Blk.lt hBx)
    have hn:=HN.out
    rw[if_neg hpos]at hn
    have HN:=Lib.hid hn
    clear hn
    obtain⟨y1,y2,y3,y4⟩:W1.cell? ⟨Bx,0,none⟩=some (.int .i64 e.a.x)∧W1.cell? ⟨Bx,1,none⟩=some (.int .i64 e.a.y)∧W1.cell? ⟨Bx,2,none⟩=some (.int .i64 e.b.x)∧W1.cell? ⟨Bx,3,none⟩=some (.int .i64 e.b.y):=⟨by rw[Blk.cell hBx1 0];rfl,by rw[Blk.cell hBx1 1];rfl,by rw[Blk.cell hBx1 2];rfl,by rw[Blk.cell hBx1 3];rfl⟩
    have HV:=Lib.hid (cleanK_below (S:=w.heap.size) (bs:=wr.heap.size+1) hb1 (by have:=bv.lt;omega) dr.lt)
    have bvV:=Blk.below bv hb1 bv.lt
    have hoV:=own_heap (W':=W1) ho (fun g hg=>hb1.block g (ho.lt g hg).2)
    have drV:=Blk.below dr hb1 dr.lt
    have dKV:=dK.on hb1
    have dkV:=dk.on hb1
    have dBV:=below_on dB (Nat.le_refl _) hb1
    have hbc:=bvV.cell
    clear bv ho dr dK dk dB hBx hv1 hb1 hBx1
    have c4:=four_cells (W1) (.int .i64 e.a.x) (.int .i64 e.a.y) (.int .i64 e.b.x) (.int .i64 e.b.y) 76 (W1).heap.size rfl
    have hMl:M.length<1048576:=HM.out
    have hszV:=bvV.lt
    gi_wp2_with (first
     |(gi_at_builtin;refine wpListIn_append_own _ rfl _ _ 71 rfl w.heap.size 76 i0 _ 4 32 Tryz.underlying71 hi0 hz0 hz1 hz2 rfl (by decide) v M.length _ rfl (hoV.alloc _) ⟨(W1).heap.size,0,none⟩ 1 1 [.int .i64 e.a.x,.int .i64 e.a.y,.int .i64 e.b.x,.int .i64 e.b.y] rfl rfl c4 (by simp[Value.oneCell']) (by simp only[maxLen];omega) (by omega) (by simp;omega) ?_
       intro v' w3 hown' hgrow _
       obtain⟨g',cap',rfl⟩:=ownsRow_succ hown'
       obtain⟨z1,z2,z3,z4,z5,z6,z7,hc1,hf1⟩:=clean_append (B:=w1.heap.size) HV.out.1 HV.out.2 bvV hoV drV dKV dkV dBV (by omega) hown' hgrow))
    refine⟨z1,z2,⟨_,z3.1,?_,trivial⟩,z4,z5,z6,z7⟩
    rw[HE.out,HN.out,List.length_append]
    simp only[edsV,List.flatMap_append,List.flatMap_singleton]
    exact z3.2
  case done=>
   rintro D ys W hD hys ⟨⟨v,bv,ho,_⟩,dr,dK,dk,dB⟩ hK
   have hmap:(ys.map fun y=>(edgeK x.ring y.1).norm)=(edgesOf x.ring).map Ed.norm:=by
    rw[edgesOf_map,HNK.out,←hys,List.map_map,List.map_map];rfl
   rw[hmap,hL0]at ho
   have hlk:k<p.parcels.length:=by have:=HL2.out;omega
   have hn2:=normE_take hlk
   rw[←HXX.out]at hn2
   rw[←hn2]at ho
   have hmk2:Marks w.heap.size (D::Ds) W:=dk.cons (by omega) (fun h=>by have:=hDl D h;omega) hK
   have HD:=Lib.hid (And.intro hmk2 (And.intro dB (And.intro dK (And.intro bv ho))))
   clear hn2 hmap hmk2 dB dK bv ho hys dk dr hK hL0
   gi_wp2_with fail
   refine⟨⟨_,_,_,_,_,_,_,_,k+1,D::Ds,⟨by omega,HD.out.1,HD.out.2.1,HD.out.2.2.1,v,HD.out.2.2.2.1,HD.out.2.2.2.2⟩,rfl⟩,?_⟩
   simp[intOf];omega
  case stop=>
   rintro D c pre W _ _ h _
   exact h.elim
 ·have hkn:k=n':=by omega
  subst hkn
  have htk:p.parcels.take k=p.parcels:=List.take_of_length_le (by have:=HL2.out;omega)
  rw[htk]at hown
  have hN:(normE p.parcels).length=(allE p.parcels).length:=by simp[normE]
  obtain⟨L,hL⟩:∃L,L=normE p.parcels:=⟨_,rfl⟩
  rw[←hL]at hown hN
  obtain⟨N,hN0⟩:∃N,N=L.length:=⟨_,rfl⟩
  have hN2:2≤N∧N≤1048576:=by rw[hN0,hN];exact HP.out.2
  rw[←hN0]at hown
  obtain⟨A2,c2,rfl⟩:=own_form hown
  obtain⟨g,rfl,hg1,hg2⟩:=own_some hown (by omega)
  have x0:=bL.cell
  have x1:=bL.frozen
  have HX:=Lib.hid (And.intro hmk (And.intro hbel (And.intro hK (And.intro bL (And.intro hown hL)))))
  have kS:=Lib.hid (sortEd_any L g N c2 w.heap.size wr hown hN2.2)
  have HN:=Lib.hid hN2
  clear hmk hbel hK bL hL hown hN hN0 hN2 hlt htk hk
  gi_wp2_with fail
  refine⟨trivial,?_⟩
  refine(callsIn_wide.2 kS.out).mono ?_
  rintro e w2 ⟨rfl,d,hdp,hds,hown2,hgr⟩
  obtain⟨hmk,hbel,hK,bL,hown,hL⟩:=HX.out
  have bL2:Boxed w2 (w.heap.size+1) 71 (.slice (some ⟨g,0,none⟩) N c2):=Blk.grown bL hgr (blk_row bL (by decide) hown)
  have hmk2:=marks_row hmk hown hgr
  have hbel2:Below w.heap.size w w2:=hbel.grown hgr hbel.size (fun k e=>by cases e;exact hg1)
  have x0:=bL2.cell
  have x1:=bL2.frozen
  have kC:=Lib.hid (compactEd_any d g N c2 w.heap.size w2 hown2 HN.out.2 HN.out.1)
  rw[hL]at hdp
  have HD:=Lib.hid (HC.out d hdp hds)
  have HY:=Lib.hid (And.intro hmk2 (And.intro hbel2 (And.intro bL2 hown2)))
  clear hmk hbel hK bL hL hown hmk2 hbel2 bL2 hown2 hdp hds hgr HX kS HC
  gi_wp2_with fail
  refine⟨trivial,?_⟩
  refine(callsIn_wide.2 kC.out).mono ?_
  rintro e w3 ⟨m,rfl,hm,hrd,hgr⟩
  obtain⟨hmk,hbel,bL,hown⟩:=HY.out
  have bL3:Boxed w3 (w.heap.size+1) 71 (.slice (some ⟨g,0,none⟩) N c2):=Blk.grown bL hgr (blk_row bL (by decide) hown)
  have hmk3:=marks_row hmk hown hgr
  have hbel3:Below w.heap.size w w3:=hbel.grown hgr hbel.size (fun k e=>by cases e;exact hg1)
  have x0:=bL3.cell
  have x1:=bL3.frozen
  have hMm:=Lib.hid hm
  have hNl:d.length=N:=by have h:=hown.1;rw[edsV_length]at h;omega
  have hm20:m≤1048576∧m≤c2:=by
   have h1:=cp_len d
   have h2:=HN.out.2
   have h3:=own_cap hown
   omega
  clear hNl
  have hgb:g≠w.heap.size+1:=fun e=>blk_row bL (by decide) hown (by rw[e];rfl)
  have hrd4:Reads (w3.setCell ⟨w.heap.size+1,0,none⟩ (.slice (some ⟨g,0,none⟩) m c2)) (w3.setCell ⟨w.heap.size+1,0,none⟩ (.slice (some ⟨g,0,none⟩) m c2)).heap.size 4 (some ⟨g,0,none⟩) m (edsV (cp d)):=by
   rw[World.size_setCell]
   exact hrd.other hgb _
  have bL4:=bL3.set (.slice (some ⟨g,0,none⟩) m c2)
  have hbel4:=hbel3.setCell (p:=⟨w.heap.size+1,0,none⟩) (by simp) (.slice (some ⟨g,0,none⟩) m c2)
  have hmk4:Marks w.heap.size Ds (w3.setCell ⟨w.heap.size+1,0,none⟩ (.slice (some ⟨g,0,none⟩) m c2)):=hmk3.kept fun D hD=>by
   rw[Below.heap_setCell _ _ _ D (marks_box hmk3 bL3 hD)]
  have HZ:=Lib.hid (And.intro hmk4 (And.intro hbel4 (And.intro bL4 hrd4)))
  clear hm hmk hbel bL hown hmk3 hbel3 bL3 hgr hrd hrd4 bL4 hbel4 hmk4 HY kC
  gi_wp2_with fail
  obtain⟨wz,hwz⟩:∃wz,wz=w3.setCell ⟨w.heap.size+1,0,none⟩ (.slice (some ⟨g,0,none⟩) m c2):=⟨_,rfl⟩
  rw[←hwz]at HZ
  rw[←hwz]
  obtain⟨L2,hL2⟩:∃L2,L2=cp d:=⟨_,rfl⟩
  rw[←hL2]at HZ HD hMm
  clear hwz hL2 x0 x1 HN
  refine wpIn_loop (fun a' W=>∃(v8 v9 v11 v44 v45 v46 v47 v48 v49 v50 v51 v52 v53 v54 v55 v56 v57 v58 v59 v60 v61 v62 v63 v64 v65 v66 v67 v68 v69:Value) (i:Nat),(i≤m∧Hid (SwTo L2 i)∧Below wz.heap.size wz W)∧
   a'={ tmps:=#[planV A n c A' k c',.pointer (some ⟨w.heap.size,0,none⟩),.bool false,.pointer (some ⟨w.heap.size+1,0,none⟩),undef,u5,undef,undef,v8,v9,undef,v11,.pointer (some ⟨w.heap.size,1,none⟩),.slice A' k c',.int .i64 (k:Int),.int .i64 (k:Int),.bool false,u17,u18,u19,u20,u21,undef,undef,undef,undef,undef,undef,undef,undef,undef,undef,undef,undef,undef,undef,u36,.slice (some ⟨g,0,none⟩) N c2,.tuple #[],.slice (some ⟨g,0,none⟩) N c2,.slice (some ⟨g,0,none⟩) m c2,.slice (some ⟨g,0,none⟩) m c2,.int .i64 (m:Int),.int .i64 (i:Int),v44,v45,v46,v47,v48,v49,v50,v51,v52,v53,v54,v55,v56,v57,v58,v59,v60,v61,v62,v63,v64,v65,v66,v67,v68,v69],defers:=marksL Ds }) (fun a' _=>m-(intOf (a'.tmps.getD 43 undef)).toNat) ?_ ?_
  ·exact⟨undef,undef,undef,undef,undef,undef,undef,undef,undef,undef,undef,undef,undef,undef,undef,undef,undef,undef,undef,undef,undef,undef,undef,undef,undef,undef,undef,undef,undef,0,⟨Nat.zero_le _,fun i j h=>absurd h (by omega),Below.refl _ _⟩,rfl⟩
  rintro a' W ⟨v8,v9,v11,v44,v45,v46,v47,v48,v49,v50,v51,v52,v53,v54,v55,v56,v57,v58,v59,v60,v61,v62,v63,v64,v65,v66,v67,v68,v69,i,⟨hi,HSW,hbW⟩,rfl⟩
  by_cases hlt:i<m
  ·have hlt':(i:Int)<(m:Int):=by omega
   have hw1:IntKind.i64.wrap ((i:Int)+1)=(i:Int)+1:=by rw[IntKind.wrap_i64];omega
   have hs1:(i:Int)+1≤(m:Int):=by omega
   have hs2:(m:Int)≤(c2:Int):=by omega
   obtain⟨_,rfl',-,p1,p2,p3,p4⟩:=(HZ.out.2.2.2.below hbW).edA hlt
   cases rfl'
   simp only[add_row]at p1 p2 p3 p4
   obtain⟨e,he⟩:∃e,e=edAt L2 i:=⟨_,rfl⟩
   rw[←he]at p1 p2 p3 p4
   have hBA:=Blk.new W 76 #[.int .i64 e.a.x,.int .i64 e.a.y,.int .i64 e.b.x,.int .i64 e.b.y]
   have hb1:Below wz.heap.size wz (W.alloc (.cells #[.int .i64 e.a.x,.int .i64 e.a.y,.int .i64 e.b.x,.int .i64 e.b.y] 76)):=hbW.alloc hbW.size _
   have hbx:=Blk.below HZ.out.2.2.1 hb1 (Blk.lt HZ.out.2.2.1)
   have y0:=hbx.cell
   have HB:=Lib.hid (And.intro hb1 (And.intro hBA (And.intro he hbW.size)))
   clear hbW he hb1 hBA hbx
   by_cases hcap:c2=i+1
   ·obtain rfl:m=i+1:=by omega
    subst hcap
    clear hs2 hm20
    gi_wp2_with fail
    refine wpIn_loop (fun a' W'=>∃(y54:Value),Below wz.heap.size wz W'∧
     a'={ tmps:=#[planV A n c A' k c',.pointer (some ⟨w.heap.size,0,none⟩),.bool false,.pointer (some ⟨w.heap.size+1,0,none⟩),undef,u5,undef,undef,.int .i64 (i:Int),.pointer (some ⟨W.heap.size,0,none⟩),undef,v11,.pointer (some ⟨w.heap.size,1,none⟩),.slice A' k c',.int .i64 (k:Int),.int .i64 (k:Int),.bool false,u17,u18,u19,u20,u21,undef,undef,undef,undef,undef,undef,undef,undef,undef,undef,undef,undef,undef,undef,u36,.slice (some ⟨g,0,none⟩) N (i+1),.tuple #[],.slice (some ⟨g,0,none⟩) N (i+1),.slice (some ⟨g,0,none⟩) (i+1) (i+1),.slice (some ⟨g,0,none⟩) (i+1) (i+1),.int .i64 ((i:Int)+1),.int .i64 (i:Int),.bool (decide ((i:Int)<(i:Int)+1)),.int .i64 (i:Int),.pointer (some ⟨g,i*4,none⟩),.agg #[.int .i64 e.a.x,.int .i64 e.a.y,.int .i64 e.b.x,.int .i64 e.b.y],.slice (some ⟨g,0,none⟩) (i+1) (i+1),.int .i64 (i:Int),.int .i64 ((i:Int)+1),.slice (some ⟨g,0,none⟩) 0 0,.int .i64 0,.int .i64 0,y54,v55,v56,v57,v58,v59,v60,v61,v62,v63,v64,v65,v66,v67,v68,v69],defers:=marksL Ds }) (fun _ _=>0) ?_ ?_
    ·exact⟨_,HB.out.1,rfl⟩
    rintro a' W' ⟨y54,hbW',rfl⟩
    have HBW:=Lib.hid hbW'
    clear hbW'
    have HS2:Hid (SwTo L2 (i+1)):=swTo_next HSW.out (inTo_zero L2 i) (.inl (by rw[←hMm.out]))
    gi_wp2_with fail
    refine⟨⟨_,_,_,_,_,_,_,_,_,_,_,_,_,_,_,_,_,_,_,_,_,_,_,_,_,_,_,_,_,i+1,⟨by omega,HS2,HBW.out⟩,rfl⟩,?_⟩
    simp[intOf]
   ·have hcap2:¬i+1=c2:=by omega
    gi_wp2_with fail
    refine wpIn_loop (fun a' W'=>∃(v11 v54 v55 v56 v57 v58 v59 v60 v61 v62 v63 v64 v65 v66 v67 v68 v69:Value) (t:Nat),(t≤m-(i+1)∧Hid (InTo L2 i t)∧Below wz.heap.size wz W'∧Blk W' W.heap.size 76 #[.int .i64 e.a.x,.int .i64 e.a.y,.int .i64 e.b.x,.int .i64 e.b.y])∧
     a'={ tmps:=#[planV A n c A' k c',.pointer (some ⟨w.heap.size,0,none⟩),.bool false,.pointer (some ⟨w.heap.size+1,0,none⟩),undef,u5,undef,undef,.int .i64 (i:Int),.pointer (some ⟨W.heap.size,0,none⟩),undef,v11,.pointer (some ⟨w.heap.size,1,none⟩),.slice A' k c',.int .i64 (k:Int),.int .i64 (k:Int),.bool false,u17,u18,u19,u20,u21,undef,undef,undef,undef,undef,undef,undef,undef,undef,undef,undef,undef,undef,undef,u36,.slice (some ⟨g,0,none⟩) N c2,.tuple #[],.slice (some ⟨g,0,none⟩) N c2,.slice (some ⟨g,0,none⟩) m c2,.slice (some ⟨g,0,none⟩) m c2,.int .i64 (m:Int),.int .i64 (i:Int),.bool true,.int .i64 (i:Int),.pointer (some ⟨g,i*4,none⟩),.agg #[.int .i64 e.a.x,.int .i64 e.a.y,.int .i64 e.b.x,.int .i64 e.b.y],.slice (some ⟨g,0,none⟩) m c2,.int .i64 (i:Int),.int .i64 ((i:Int)+1),.slice (some ⟨g,(i+1)*4,none⟩) (m-(i+1)) (c2-(i+1)),.int .i64 ((m-(i+1):Nat):Int),.int .i64 (t:Int),v54,v55,v56,v57,v58,v59,v60,v61,v62,v63,v64,v65,v66,v67,v68,v69],defers:=marksL Ds }) (fun a' _=>m-(i+1)-(intOf (a'.tmps.getD 53 undef)).toNat) ?_ ?_
    ·exact⟨_,_,_,_,_,_,_,_,_,_,_,_,_,_,_,_,_,0,⟨Nat.zero_le _,inTo_zero _ _,HB.out.1,HB.out.2.1⟩,rfl⟩
    rintro a' W' ⟨v11,v54,v55,v56,v57,v58,v59,v60,v61,v62,v63,v64,v65,v66,v67,v68,v69,t,⟨ht,HIN,hbW',hBA⟩,rfl⟩
    by_cases hlt2:t<m-(i+1)
    ·have hlt2':(t:Int)<((m-(i+1):Nat):Int):=by omega
     have hw3:IntKind.i64.wrap ((t:Int)+1)=(t:Int)+1:=by rw[IntKind.wrap_i64];omega
     obtain⟨_,rfl',-,q1,q2,q3,q4⟩:=(HZ.out.2.2.2.below hbW').edA (k:=i+1+t) (by omega)
     cases rfl'
     simp only[add_row,Nat.add_mul (i+1) t 4]at q1 q2 q3 q4
     obtain⟨f,hf⟩:∃f,f=edAt L2 (i+1+t):=⟨_,rfl⟩
     rw[←hf]at q1 q2 q3 q4
     have hbF:=Blk.new W' 76 #[.int .i64 f.a.x,.int .i64 f.a.y,.int .i64 f.b.x,.int .i64 f.b.y]
     have hBA2:Blk (W'.alloc (.cells #[.int .i64 f.a.x,.int .i64 f.a.y,.int .i64 f.b.x,.int .i64 f.b.y] 76)) W.heap.size 76 #[.int .i64 e.a.x,.int .i64 e.a.y,.int .i64 e.b.x,.int .i64 e.b.y]:=Blk.alloc hBA _
     have hb2:Below wz.heap.size wz (W'.alloc (.cells #[.int .i64 f.a.x,.int .i64 f.a.y,.int .i64 f.b.x,.int .i64 f.b.y] 76)):=hbW'.alloc hbW'.size _
     have HF:=Lib.hid (And.intro hf (And.intro hbF (And.intro hBA2 hb2)))
     have r1:(W'.alloc (.cells #[.int .i64 f.a.x,.int .i64 f.a.y,.int .i64 f.b.x,.int .i64 f.b.y] 76)).cell? ⟨W.heap.size,0,none⟩=some (.int .i64 e.a.x):=by rw[Blk.cell hBA2 0];rfl
     have r2:(W'.alloc (.cells #[.int .i64 f.a.x,.int .i64 f.a.y,.int .i64 f.b.x,.int .i64 f.b.y] 76)).cell? ⟨W.heap.size,1,none⟩=some (.int .i64 e.a.y):=by rw[Blk.cell hBA2 1];rfl
     have r3:(W'.alloc (.cells #[.int .i64 f.a.x,.int .i64 f.a.y,.int .i64 f.b.x,.int .i64 f.b.y] 76)).cell? ⟨W.heap.size,2,none⟩=some (.int .i64 e.b.x):=by rw[Blk.cell hBA2 2];rfl
     have r4:(W'.alloc (.cells #[.int .i64 f.a.x,.int .i64 f.a.y,.int .i64 f.b.x,.int .i64 f.b.y] 76)).cell? ⟨W.heap.size,3,none⟩=some (.int .i64 e.b.y):=by rw[Blk.cell hBA2 3];rfl
     clear hf hbF hBA2 hb2 hbW' hBA
     by_cases hx:e.b.x<f.a.x
     ·have HS2:Hid (SwTo L2 (i+1)):=swTo_next HSW.out HIN.out (.inr ⟨by rw[←hMm.out];omega,by rw[←HF.out.1,←HB.out.2.2.1];exact hx⟩)
      gi_wp2_with fail
      have HBW:=Lib.hid HF.out.2.2.2
      refine⟨⟨_,_,_,_,_,_,_,_,_,_,_,_,_,_,_,_,_,_,_,_,_,_,_,_,_,_,_,_,_,i+1,⟨by omega,HS2,HBW.out⟩,rfl⟩,?_⟩
      simp[intOf];omega
     ·have hml:=hMm.out
      have hmE:=HD.out.2.1
      have hpw:=List.pairwise_iff_getElem.1 HD.out.2.2 i (i+1+t) (by omega) (by omega) (by omega)
      have hge:good e.a=true∧good e.b=true:=hmE _ (by rw[HB.out.2.2.1];exact edAt_mem (by omega))
      have hgf:good f.a=true∧good f.b=true:=hmE _ (by rw[HF.out.1];exact edAt_mem (by omega))
      have hne:e≠f:=by rw[HB.out.2.2.1,HF.out.1,edAt_lt (by omega:i<L2.length),edAt_lt (by omega:i+1+t<L2.length)];exact hpw.1
      have kA:=Lib.hid (fun V=>apart_any e f V hge hgf hne)
      have hx2:(edAt L2 (i+1+t)).a.x≤(edAt L2 i).b.x:=by rw[←HF.out.1,←HB.out.2.2.1];omega
      have HX2:=Lib.hid hx2
      have HAB:Hid (apartB e f=apartB (edAt L2 i) (edAt L2 (i+1+t))):=by rw[←HF.out.1,←HB.out.2.2.1];exact rfl
      clear hml hmE hpw hge hgf hne hx2
      generalize apartB e f=ab at *
      gi_wp2_with fail
      refine⟨trivial,?_⟩
      refine(callsIn_wide.2 (kA.out _)).mono ?_
      rintro r W2 ⟨rfl,hb3⟩
      have hbW':=HF.out.2.2.2.trans (hb3.mono HF.out.2.2.2.size)
      have hBA:=Blk.below HF.out.2.2.1 hb3 (Blk.lt HF.out.2.2.1)
      have HBW:=Lib.hid (And.intro hbW' hBA)
      clear hb3 kA hbW' hBA
      rcases ab with _|_
      ·have hbt:b=false:=by
        rcases hb':b with _|_
        ·rfl
        ·exact absurd (HD.out.1.1 hb') (sw_fail HIN.out (by rw[←hMm.out];omega) HX2.out HAB.out.symm)
       obtain⟨hmk,hbel,bL,-⟩:=HZ.out
       have hmk2:=hmk.on HBW.out.1
       have hbel2:=below_on hbel (Nat.le_refl _) HBW.out.1
       gi_wp2
       refine leaves_marks Ds W2 hmk2 hbel2.size fun w' hb' hk'=>?_
       refine⟨.bool false,?_,by rw[hbt],hbel2.trans hb'⟩
       simp[results,Tryz.results93]
      ·have HIN2:Hid (InTo L2 i (t+1)):=inTo_next HIN.out HX2.out HAB.out.symm
       gi_wp2_with fail
       refine⟨⟨_,_,_,_,_,_,_,_,_,_,_,_,_,_,_,_,_,t+1,⟨by omega,HIN2,HBW.out.1,HBW.out.2⟩,rfl⟩,?_⟩
       simp[intOf];omega
    ·have hlt3:¬(t:Int)<((m-(i+1):Nat):Int):=by omega
     have HBW:=Lib.hid hbW'
     clear hbW'
     have HS2:Hid (SwTo L2 (i+1)):=swTo_next HSW.out HIN.out (by left;rw[←hMm.out];omega)
     gi_wp2_with fail
     refine⟨⟨_,_,_,_,_,_,_,_,_,_,_,_,_,_,_,_,_,_,_,_,_,_,_,_,_,_,_,_,_,i+1,⟨by omega,HS2,HBW.out⟩,rfl,rfl,rfl,rfl,rfl,rfl,rfl,rfl,rfl,rfl,rfl,rfl,rfl,rfl,rfl,rfl,rfl,rfl,rfl,rfl,rfl,rfl,rfl,rfl,rfl,rfl,rfl,rfl,rfl,rfl⟩,?_⟩
     simp[intOf];omega
  ·have him:i=m:=by omega
   have hbt:b=true:=HD.out.1.2 (swTo_iff.2 (by rw[←hMm.out,←him];exact HSW.out))
   obtain⟨hmk,hbel,bL,-⟩:=HZ.out
   have hmk2:=hmk.on hbW
   have hbel2:=below_on hbel (Nat.le_refl _) hbW
   clear hmk hbel bL hbW
   gi_wp2_with fail
   refine leaves_marks Ds W hmk2 hbel2.size fun w' hb' hk'=>?_
   refine⟨.bool true,?_,by rw[hbt],hbel2.trans hb'⟩
   simp[results,Tryz.results93]
end Go.Proofs.YtpkeacnacjnlcaaGreat
