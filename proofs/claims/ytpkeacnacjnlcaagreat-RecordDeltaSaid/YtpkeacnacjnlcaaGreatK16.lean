/- plan.edges: the walk; slices.Equal, plan.normed, the document's normed, and slices.ContainsFunc of them: the walks; What lies beside Corn; What lies beside PlanLaw. -/
import Derived.Test.YtpkeacnacjnlcaaGreatK06
import Derived.Test.YtpkeacnacjnlcaaGreatK07
import Derived.Test.YtpkeacnacjnlcaaGreatK13
import Derived.Test.YtpkeacnacjnlcaaGreatK14
namespace Go.Proofs.YtpkeacnacjnlcaaGreat
open Go.RowKit
attribute [local go_sem] Oper.semAt_some
def edId (ps:List Parc):List (Ed×Value):=ps.flatMap fun x=>(edgesOf x.ring).map fun e=>(e,.int .i64 x.id)
theorem edId_keys (ps:List Parc):(edId ps).map (·.1)=allE ps:=by
 unfold edId allE
 rw[List.map_flatMap]
 congr 1
 funext x
 simp[Function.comp_def]
theorem edId_snoc (ps:List Parc) (x:Parc):edId (ps++[x])=edId ps++(edgesOf x.ring).map fun e=>(e,.int .i64 x.id):=by simp[edId]
def edgeK (xs:List Pt) (k:Nat):Ed:=⟨ptAt xs k,ptAt xs ((k+1)%xs.length)⟩
theorem edgesOf_map (xs:List Pt):edgesOf xs=(List.range xs.length).map (edgeK xs):=rfl
theorem edgesOf_sub {xs:List Pt} {k:Nat} (h:k≤xs.length):((List.range k).map (edgeK xs)).Sublist (edgesOf xs):=by
 rw[edgesOf_map]
 exact List.Sublist.map _ (List.range_sublist.2 h)
theorem allE_take_sub {ps:List Parc} {k j:Nat} (hk:k<ps.length) (hj:j≤(pcAt ps k).ring.length):(allE (ps.take k)++(List.range j).map (edgeK (pcAt ps k).ring)).Sublist (allE ps):=by
 have h1:ps=ps.take k++(pcAt ps k::ps.drop (k+1)):=by
  rw[pcAt_lt hk,←List.drop_eq_getElem_cons hk,List.take_append_drop]
 have h2:allE ps=allE (ps.take k)++(edgesOf (pcAt ps k).ring++allE (ps.drop (k+1))):=by
  conv=>lhs;rw[h1]
  unfold allE
  rw[List.flatMap_append,List.flatMap_cons]
 rw[h2]
 exact List.Sublist.append (List.Sublist.refl _) ((edgesOf_sub hj).trans (List.sublist_append_left _ _))
set_option maxRecDepth 100000 in
set_option maxHeartbeats 3200000 in
theorem planEdges_any (ps:List Parc) (A:Option Addr) (n cap:Nat) (w:World) (hr:PIn w w.heap.size A n ps) (hn:n≤8796093022208) (hf:∀x∈ps,x.fits):
 Calls Tryz.prog 143 #[.slice A n cap] w fun e w'=>((allE ps).Nodup→∃b,e= .returned (.tuple #[.map (some b),.bool true])∧MapB w' b encE (edId ps)∧w.heap.size≤b)∧(¬(allE ps).Nodup→e= .returned (.tuple #[.map none,.bool false]))∧Below w.heap.size w w':=by
 have HR:=Lib.hid (And.intro hr hf)
 clear hr hf
 have hmm:=@run_makeMap Tryz.prog
 refine(callsIn_wide (n:=3)).1 ?_
 refine callsIn_of_wp_marks Tryz.func143 rfl trivial ?_ rfl
 simp only[Tryz.ntmps143,List.size_toArray,List.length_cons,List.length_nil,Nat.reduceAdd,Nat.reduceSub,Array.replicate_succ,Array.replicate_zero,List.push_toArray,List.append_toArray,List.nil_append,List.cons_append]
 gi_wp2_with fail
 have b0:=(((Boxed.new w 179 (.map none)).alloc (.cells #[.bool false] 4)).alloc (.map #[] 0)).alloc (.cells #[.map (some (w.heap.size+1+1))] 179)
 have b1:=((Boxed.new (w.alloc (.cells #[.map none] 179)) 4 (.bool false)).alloc (.map #[] 0)).alloc (.cells #[.map (some (w.heap.size+1+1))] 179)
 have b3:=Boxed.new (((w.alloc (.cells #[.map none] 179)).alloc (.cells #[.bool false] 4)).alloc (.map #[] 0)) 179 (.map (some (w.heap.size+1+1)))
 have bm:MapB ((((w.alloc (.cells #[.map none] 179)).alloc (.cells #[.bool false] 4)).alloc (.map #[] 0)).alloc (.cells #[.map (some (w.heap.size+1+1))] 179)) (w.heap.size+1+1) encE []:=by
  have h:=MapB.made ((w.alloc (.cells #[.map none] 179)).alloc (.cells #[.bool false] 4)) encE
  simp only[World.size_alloc]at h
  exact h.kept (Below.heap_alloc _ _ _ h.lt)
 simp only[World.size_alloc]at b1 b3
 have hB0:=((((Below.refl w.heap.size w).alloc (Nat.le_refl _) (.cells #[.map none] 179)).alloc (by simp) (.cells #[.bool false] 4)).alloc (by simp;omega) (.map #[] 0)).alloc (by simp;omega) (.cells #[.map (some (w.heap.size+1+1))] 179)
 have H0:=Lib.hid (And.intro hB0 (And.intro b0 (And.intro b1 (And.intro b3 bm))))
 clear b0 b1 b3 bm hB0
 generalize (((w.alloc (.cells #[.map none] 179)).alloc (.cells #[.bool false] 4)).alloc (.map #[] 0)).alloc (.cells #[.map (some (w.heap.size+1+1))] 179)=w0 at *
 refine wpIn_loop (fun a' wr=>∃(u6 u15 u16 u17 u18 u19 u20 u34:Value) (k:Nat) (Ds:List Nat),(k≤n∧Marks w.heap.size Ds wr∧Hid (allE (ps.take k)).Nodup∧Below w.heap.size w wr∧Boxed wr w.heap.size 179 (.map none)∧Boxed wr (w.heap.size+1) 4 (.bool false)∧Boxed wr (w.heap.size+1+1+1) 179 (.map (some (w.heap.size+1+1)))∧MapB wr (w.heap.size+1+1) encE (edId (ps.take k)))∧
  a'={ tmps:=#[.slice A n cap,undef,.pointer (some ⟨w.heap.size,0,none⟩),.pointer (some ⟨w.heap.size+1,0,none⟩),.pointer (some ⟨w.heap.size+1+1+1,0,none⟩),undef,u6,undef,undef,undef,undef,.map (some (w.heap.size+1+1)),.slice A n cap,.int .i64 (n:Int),.int .i64 (k:Int),u15,u16,u17,u18,u19,u20,undef,undef,undef,undef,undef,undef,undef,undef,undef,undef,undef,undef,undef,u34,undef],defers:=marksL Ds }) (fun a' _=>n-(intOf (a'.tmps.getD 14 undef)).toNat) ?_ ?_
 ·exact⟨undef,undef,undef,undef,undef,undef,undef,undef,0,[],⟨Nat.zero_le _,Marks.nil _ _,List.nodup_nil,H0.out.1,H0.out.2.1,H0.out.2.2.1,H0.out.2.2.2.1,H0.out.2.2.2.2⟩,rfl⟩
 clear H0
 rintro a' wr ⟨u6,u15,u16,u17,u18,u19,u20,u34,k,Ds,⟨hk,hmk,hnd,hbel,b0,b1,b3,bm⟩,rfl⟩
 by_cases hlt:k<n
 ·have hlt':(k:Int)<(n:Int):=by omega
  have hw1:IntKind.i64.wrap ((k:Int)+1)=(k:Int)+1:=by rw[IntKind.wrap_i64];omega
  obtain⟨ad,rfl⟩:=HR.out.1.some_ (by omega)
  obtain⟨-,p1,⟨Ak,nk,ck,p2,hrk,hk1,hk2⟩,p3⟩:=(HR.out.1.below hbel).at_ hlt
  have HX:=Lib.hid (And.intro hmk (And.intro hnd (And.intro hbel (And.intro b0 (And.intro b1 (And.intro b3 bm))))))
  clear hmk hnd hbel b0 b1 b3 bm
  obtain⟨x,hx⟩:∃x,x=pcAt ps k:=⟨_,rfl⟩
  rw[←hx]at p1 p3 hrk
  have HXX:=Lib.hid hx
  clear hx
  have hrk':=Lib.hid hrk
  clear hrk
  gi_wp2_with fail
  refine⟨trivial,?_⟩
  refine(callsIn_wide.2 (edges_any Ak nk ck _)).mono ?_
  rintro e w3 ⟨rfl,rfl⟩
  gi_wp2_with fail
  have hsz:w.heap.size+1+1+1<wr.heap.size:=HX.out.2.2.2.2.2.1.lt
  have c1:PcK ((wr.alloc (.cells #[.int .i64 x.id,.slice Ak nk ck,.string x.owner] 27)).alloc (.cells #[.slice Ak nk ck] 25)) wr.heap.size x Ak nk ck:=Blk.alloc (PcK.new wr x Ak nk ck) _
  have c2:=Boxed.new (wr.alloc (.cells #[.int .i64 x.id,.slice Ak nk ck,.string x.owner] 27)) 25 (.slice Ak nk ck)
  rw[World.size_alloc]at c2
  have hB1:Below wr.heap.size wr ((wr.alloc (.cells #[.int .i64 x.id,.slice Ak nk ck,.string x.owner] 27)).alloc (.cells #[.slice Ak nk ck] 25)):=((Below.refl _ _).alloc (Nat.le_refl _) _).alloc (by simp) _
  have hz1:((wr.alloc (.cells #[.int .i64 x.id,.slice Ak nk ck,.string x.owner] 27)).alloc (.cells #[.slice Ak nk ck] 25)).heap.size=wr.heap.size+2:=by simp
  generalize (wr.alloc (.cells #[.int .i64 x.id,.slice Ak nk ck,.string x.owner] 27)).alloc (.cells #[.slice Ak nk ck] 25)=w1 at *
  obtain⟨L0,hL0⟩:∃L0,L0=edId (ps.take k):=⟨_,rfl⟩
  have hK0:L0.map (·.1)=allE (ps.take k):=by rw[hL0,edId_keys]
  obtain⟨hmk,hnd,hbel,b0,b1,b3,bm⟩:=HX.out
  rw[←hL0]at bm
  have hDl:∀D∈Ds,D<w1.heap.size:=fun D hD=>by have:=hmk.lt hD;omega
  have hnk:x.ring.length=nk:=hrk'.out.lenPt
  have hfx:x.fits:=by rw[HXX.out,pcAt_lt (by have:=HR.out.1.1;omega)];exact HR.out.2 _ (List.getElem_mem _)
  have hlen:nk≤4611686018427387904:=by have:=hfx.1;omega
  have HNK:=Lib.hid hnk
  clear hnk
  refine wpIn_rangeFunc_ownH rfl (by omega) (gf:=153) (lb:=#[.pointer (some ⟨wr.heap.size+1,0,none⟩)]) rfl trivial (enters_of Tryz.func153 (by kernel_rfl) rfl)
   (edges_stopsR 2 (by omega) w.heap.size (wr.heap.size+1) ck nk Ak x.ring hlen w1 (by omega) (by omega) c2.cell (hrk'.out.below (hB1.mono (by omega)))) (fun h k=>h.trans k)
   (fun W l o o' hl h _ _=>⟨by simp,fun i hi=>World.putObj_heap_other (by omega)⟩) (Below.refl _ _) (fun _=>rfl)
   (fun pre W=>(Boxed W w.heap.size 179 (.map none)∧Boxed W (w.heap.size+1) 4 (.bool false)∧Boxed W (w.heap.size+1+1+1) 179 (.map (some (w.heap.size+1+1)))∧PcK W wr.heap.size x Ak nk ck∧Boxed W (wr.heap.size+1) 25 (.slice Ak nk ck)∧(allE (ps.take k)++pre.map fun y=>edgeK x.ring y.1).Nodup)∧MapB W (w.heap.size+1+1) encE (L0++pre.map fun y=>(edgeK x.ring y.1,.int .i64 x.id))∧Marks w.heap.size Ds W∧Below w.heap.size w W)
   (fun c pre W=>(c= .ret∧¬(allE (ps.take k)++pre.map fun y=>edgeK x.ring y.1).Nodup∧Boxed W w.heap.size 179 (.map none)∧Boxed W (w.heap.size+1) 4 (.bool false))∧Marks w.heap.size Ds W∧Below w.heap.size w W)
   (OwnFrom.and (Own.from (fun s X Y row hs hg hrow=>⟨boxed_own _ _ (fun _:Unit=>_) () X Y row hs.1 hg hrow,boxed_own _ _ (fun _:Unit=>_) () X Y row hs.2.1 hg hrow,boxed_own _ _ (fun _:Unit=>_) () X Y row hs.2.2.1 hg hrow,blk_own _ _ (fun _:Unit=>_) () X Y row hs.2.2.2.1 hg hrow,boxed_own _ _ (fun _:Unit=>_) () X Y row hs.2.2.2.2.1 hg hrow,hs.2.2.2.2.2⟩) _) (OwnFrom.and (mapB_from (by omega) encE _) (OwnFrom.and (marks_from hDl) (ownFrom_below (Nat.le_refl _) (by omega)))))
   (fun c=>OwnFrom.and (Own.from (fun s X Y row hs hg hrow=>⟨hs.1,hs.2.1,boxed_own _ _ (fun _:Unit=>_) () X Y row hs.2.2.1 hg hrow,boxed_own _ _ (fun _:Unit=>_) () X Y row hs.2.2.2 hg hrow⟩) _) (OwnFrom.and (marks_from hDl) (ownFrom_below (Nat.le_refl _) (by omega))))
   ⟨⟨Blk.below b0 hB1 b0.lt,Blk.below b1 hB1 b1.lt,Blk.below b3 hB1 b3.lt,c1,c2,by simpa using hnd.out⟩,by simpa using bm.kept (hB1.block _ bm.lt),hmk.on hB1,below_on hbel (Nat.le_refl _) hB1⟩
   (fun y a' W=>∃(Bx:Nat) (v15 v16 v17 v18 v19 v20 v21 v22 v34:Value),Blk W Bx 76 #[.int .i64 (ptAt x.ring y.1).x,.int .i64 (ptAt x.ring y.1).y,.int .i64 (ptAt x.ring ((y.1+1)%x.ring.length)).x,.int .i64 (ptAt x.ring ((y.1+1)%x.ring.length)).y]∧
     a'={ tmps:=#[.slice (some ad) n cap,undef,.pointer (some ⟨w.heap.size,0,none⟩),.pointer (some ⟨w.heap.size+1,0,none⟩),.pointer (some ⟨w.heap.size+1+1+1,0,none⟩),undef,.pointer (some ⟨wr.heap.size,0,none⟩),undef,.pointer (some ⟨Bx,0,none⟩),undef,undef,.map (some (w.heap.size+1+1)),.slice (some ad) n cap,.int .i64 (n:Int),.int .i64 (k:Int),v15,v16,v17,v18,v19,v20,v21,v22,undef,undef,undef,undef,undef,undef,undef,undef,undef,undef,undef,v34,undef],defers:=[] })
   (fun y a'=>fun s X Y row ⟨Bx,v15,v16,v17,v18,v19,v20,v21,v22,v34,hs,e⟩ hg hrow=>⟨Bx,v15,v16,v17,v18,v19,v20,v21,v22,v34,blk_own Bx _ (fun _:Unit=>_) () X Y row hs hg (fun r hr=>(hrow r hr).2),e⟩) ?assign ?body ?done ?stop
  case assign=>
   rintro l pre y W K ⟨⟨d0,d1,d3,dx,dr,hne⟩,dm,dk,dB⟩ hK
   unfold edgeAt edgeV
   gi_wp2
   have h1:=dr.lt
   have h2:=dB.size
   refine hK _ _ ((KeepsOthers.alloc _ _).from _) (KeepE.alloc (by omega) h1 _) ⟨⟨d0.alloc _,d1.alloc _,d3.alloc _,Blk.alloc dx _,dr.alloc _,hne⟩,dm.kept (Below.heap_alloc _ _ _ dm.lt),dk.on ((Below.refl _ _).alloc (Nat.le_refl _) _),dB.alloc dB.size _⟩ ⟨W.heap.size,_,_,_,_,_,_,_,_,_,Blk.new W _ _,rfl⟩
  case body=>
   rintro l pre ⟨y,hyn⟩ a' W hl' ⟨r,hrr⟩ ⟨⟨d0,d1,d3,dx,dr,hne⟩,dm,dk,dB⟩ ⟨Bx,v15,v16,v17,v18,v19,v20,v21,v22,v34,hBx,rfl⟩ hlen'
   obtain⟨e,he⟩:∃e,e=edgeK x.ring y:=⟨_,rfl⟩
   have he1:e.a=ptAt x.ring y:=by rw[he];rfl
   have he2:e.b=ptAt x.ring ((y+1)%x.ring.length):=by rw[he];rfl
   simp only[←he1,←he2]at hBx
   clear he1 he2
   have HE:=Lib.hid he
   clear he
   have HY:=Lib.hid (And.intro d0 (And.intro d1 (And.intro d3 (And.intro dx (And.intro dr (And.intro hne (And.intro dk dB)))))))
   have x1:W.cell? ⟨Bx,0,none⟩=some (.int .i64 e.a.x):=by rw[Blk.cell hBx 0];rfl
   have x2:W.cell? ⟨Bx,1,none⟩=some (.int .i64 e.a.y):=by rw[Blk.cell hBx 1];rfl
   have x3:W.cell? ⟨Bx,2,none⟩=some (.int .i64 e.b.x):=by rw[Blk.cell hBx 2];rfl
   have x4:W.cell? ⟨Bx,3,none⟩=some (.int .i64 e.b.y):=by rw[Blk.cell hBx 3];rfl
   have x5:=d3.cell
   obtain⟨y1,y2,y3,-⟩:=dx.facts
   have hgl:=dm.lt
   have hk0:(L0++pre.map fun y=>(edgeK x.ring y.1,Value.int .i64 x.id)).map (·.1)=allE (ps.take k)++pre.map fun y=>edgeK x.ring y.1:=by rw[List.map_append,hK0,List.map_map];rfl
   rcases hq:look (L0++pre.map fun y=>(edgeK x.ring y.1,Value.int .i64 x.id)) e with _|v
   ·have hlk:Sem.run Tryz.prog (Instr.lookup 179 (.map (some (w.heap.size+1+1))) (.agg #[.int .i64 e.a.x,.int .i64 e.a.y,.int .i64 e.b.x,.int .i64 e.b.y]) true) W= .ok (.tuple #[.int .i64 0,.bool false]) W:=run_look_out edKey Tryz.underlying179 Tryz.zeroValue3 dm hq
    obtain⟨W',hup,hm',hg'⟩:=run_put_new edKey Tryz.underlying179 dm (.int .i64 x.id) hq
    have hup':Sem.run Tryz.prog (Instr.mapUpdate 179 (.map (some (w.heap.size+1+1))) (.agg #[.int .i64 e.a.x,.int .i64 e.a.y,.int .i64 e.b.x,.int .i64 e.b.y]) (.int .i64 x.id)) W= .ok () W':=hup
    have hnot:e∉allE (ps.take k)++pre.map fun y=>edgeK x.ring y.1:=by rw[←hk0];exact look_none.1 hq
    have HZ:=Lib.hid (And.intro hm' (And.intro hg' hnot))
    have HDM:=Lib.hid dm
    clear d0 d1 d3 dx dr hne dk dB dm hBx hq hup hm' hg' hnot hk0
    gi_wp2_with fail
    obtain⟨e0,e1,e3,ex,er,hne,ek,eB⟩:=HY.out
    obtain⟨hm',hg',hnot⟩:=HZ.out
    have hbb:∀i,i<W.heap.size→i≠w.heap.size+1+1→W'.heap[i]?=W.heap[i]?:=fun i hi hne'=>hg'.block i hi (fun e=>hne' (by cases e;rfl))
    refine⟨KeepsFrom.of_grownBy hg' (fun j e=>by have:=Option.some.inj e;omega),⟨hg'.size,fun i hi=>hbb i (by have:=er.lt;omega) (by omega)⟩,⟨e0.kept hg' (fun e=>by have:=Option.some.inj e;omega),e1.kept hg' (fun e=>by have:=Option.some.inj e;omega),e3.kept hg' (fun e=>by have:=Option.some.inj e;omega),(hbb _ (Blk.lt ex) (by omega)).trans ex,er.kept hg' (fun e=>by have:=Option.some.inj e;omega),?_⟩,?_,ek.kept fun D hD=>hbb D (ek.lt hD) (fun e'=>?_),eB.grown hg' eB.size (fun j e=>by have:=Option.some.inj e;omega)⟩
    ·rw[List.map_append,←List.append_assoc,List.nodup_append]
     refine⟨hne,by simp,fun p hp q hq e'=>?_⟩
     simp at hq
     rw[hq,←HE.out]at e'
     exact hnot (e'▸hp)
    ·rw[List.map_append,←List.append_assoc,List.map_singleton,←HE.out]
     exact hm'
    ·have h1:=(ek.2 D hD).2
     rw[e']at h1
     rw[show W.heap[w.heap.size+1+1]?=_ from HDM.out]at h1
     cases h1
   ·have hlk:Sem.run Tryz.prog (Instr.lookup 179 (.map (some (w.heap.size+1+1))) (.agg #[.int .i64 e.a.x,.int .i64 e.a.y,.int .i64 e.b.x,.int .i64 e.b.y]) true) W= .ok (.tuple #[v,.bool true]) W:=run_look_in edKey Tryz.underlying179 dm hq
    have hin:e∈allE (ps.take k)++pre.map fun y=>edgeK x.ring y.1:=by rw[←hk0];exact List.mem_map.2 ⟨_,look_mem hq,rfl⟩
    have HZ:=Lib.hid hin
    have z0:=d0.cell
    have z1:=d0.frozen
    have z2:=d1.cell
    have z3:=d1.frozen
    clear d0 d1 d3 dx dr hne dk dB dm hBx hq hin hk0
    gi_wp2_with fail
    obtain⟨e0,e1,-,-,-,-,ek,eB⟩:=HY.out
    refine⟨((KeepsOthers.setCell _ _ _).trans (KeepsOthers.setCell _ _ _)).from _,⟨rfl,?_,(e0.set _).other (by omega) _,(e1.other (by omega) _).set _⟩,ek.kept fun D hD=>?_,(eB.setCell (p:=⟨w.heap.size,0,none⟩) (Nat.le_refl _) _).setCell (p:=⟨w.heap.size+1,0,none⟩) (by simp) _⟩
    ·intro hnd'
     rw[List.map_append,←List.append_assoc,List.nodup_append]at hnd'
     exact hnd'.2.2 _ HZ.out _ (by simp) HE.out
    ·rw[Below.heap_setCell _ _ _ D (marks_box ek e1 hD),Below.heap_setCell _ _ _ D (marks_box ek e0 hD)]
  case done=>
   rintro D ys W hD hys ⟨⟨d0,d1,d3,dx,dr,hne⟩,dm,dk,dB⟩ hK
   have hmap:∀ {β:Type} (f:Nat→β),(ys.map fun y=>f y.1)=(List.range nk).map f:=fun f=>by rw[←hys,List.map_map];rfl
   rw[hmap (edgeK x.ring)]at hne
   rw[hmap (fun y=>(edgeK x.ring y,Value.int .i64 x.id))]at dm
   have hxk:ps.take (k+1)=ps.take k++[x]:=by
    have hlk:k<ps.length:=by have:=HR.out.1.1;omega
    rw[List.take_succ_eq_append_getElem hlk,HXX.out,pcAt_lt hlk]
   have hnd2:(allE (ps.take (k+1))).Nodup:=by
    rw[hxk]
    unfold allE at hne ⊢
    rw[List.flatMap_append,List.flatMap_singleton,edgesOf_map,HNK.out]
    exact hne
   have hm2:MapB W (w.heap.size+1+1) encE (edId (ps.take (k+1))):=by
    rw[hxk,edId_snoc,←hL0,edgesOf_map,HNK.out,List.map_map]
    exact dm
   have hmk2:Marks w.heap.size (D::Ds) W:=dk.cons (by omega) (fun h=>by have:=hDl D h;omega) hK
   have HD:=Lib.hid (And.intro hmk2 (And.intro hnd2 (And.intro dB (And.intro d0 (And.intro d1 (And.intro d3 hm2))))))
   clear hne dm hnd2 hm2 hmk2 hxk hmap hys dk dB d0 d1 d3 dx dr hK
   gi_wp2_with fail
   refine⟨⟨_,_,_,_,_,_,_,_,k+1,D::Ds,⟨by omega,HD.out.1,HD.out.2.1,HD.out.2.2.1,HD.out.2.2.2.1,HD.out.2.2.2.2.1,HD.out.2.2.2.2.2.1,HD.out.2.2.2.2.2.2⟩,rfl⟩,?_⟩
   simp[intOf];omega
  case stop=>
   rintro D c pre W hD ⟨j,hj,hpre⟩ ⟨⟨rfl,hno,d0,d1⟩,dk,dB⟩ hK
   have hmap:(pre.map fun y=>edgeK x.ring y.1)=(List.range j).map (edgeK x.ring):=by rw[←hpre,List.map_map];rfl
   rw[hmap]at hno
   have hnn:¬(allE ps).Nodup:=fun h=>hno (by
    have hlk:k<ps.length:=by have:=HR.out.1.1;omega
    have:=allE_take_sub hlk (j:=j) (by rw[←HXX.out,HNK.out];exact hj)
    rw[←HXX.out]at this
    exact h.sublist this)
   have hmk2:Marks w.heap.size (D::Ds) W:=dk.cons (by omega) (fun h=>by have:=hDl D h;omega) hK
   gi_wp2
   refine leaves_marks (D::Ds) W hmk2 dB.size fun w' hb' hk'=>?_
   have r0:Boxed w' w.heap.size 179 (.map none):=(hk' _ (fun h=>marks_box hmk2 d0 h rfl)).trans d0
   have r1:Boxed w' (w.heap.size+1) 4 (.bool false):=(hk' _ (fun h=>marks_box hmk2 d1 h rfl)).trans d1
   have s0:=r0.cell
   have s1:=r1.cell
   refine⟨.tuple #[.map none,.bool false],?_,fun h=>absurd h hnn,fun _=>rfl,dB.trans hb'⟩
   simp[results,Tryz.results143,go_sem,s0,s1]
 ·have hkn:k=n:=by omega
  subst hkn
  have x0:=b0.cell
  have x1:=b0.frozen
  have x2:=b1.cell
  have x3:=b1.frozen
  have x4:=b3.cell
  have htk:ps.take k=ps:=List.take_of_length_le (by have:=HR.out.1.1;omega)
  rw[htk]at hnd bm
  have HX:=Lib.hid (And.intro hmk (And.intro hnd (And.intro hbel (And.intro b0 (And.intro b1 bm)))))
  clear hmk hnd hbel b0 b1 b3 bm htk
  gi_wp2_with fail
  obtain⟨hmk,hnd,hbel,b0,b1,bm⟩:=HX.out
  have c0:=(b0.set (.map (some (w.heap.size+1+1)))).other (B':=w.heap.size+1) (by omega) (.bool true)
  have c1:=(b1.other (B':=w.heap.size) (by omega) (.map (some (w.heap.size+1+1)))).set (.bool true)
  have cm:MapB ((wr.setCell ⟨w.heap.size,0,none⟩ (.map (some (w.heap.size+1+1)))).setCell ⟨w.heap.size+1,0,none⟩ (.bool true)) (w.heap.size+1+1) encE (edId ps):=bm.kept (by rw[Below.heap_setCell _ _ _ _ (by simp only;omega),Below.heap_setCell _ _ _ _ (by simp only;omega)])
  have hmk2:Marks w.heap.size Ds ((wr.setCell ⟨w.heap.size,0,none⟩ (.map (some (w.heap.size+1+1)))).setCell ⟨w.heap.size+1,0,none⟩ (.bool true)):=hmk.kept fun D hD=>by
   rw[Below.heap_setCell _ _ _ D (marks_box hmk b1 hD),Below.heap_setCell _ _ _ D (marks_box hmk b0 hD)]
  have hB2:=(hbel.setCell (p:=⟨w.heap.size,0,none⟩) (Nat.le_refl _) (.map (some (w.heap.size+1+1)))).setCell (p:=⟨w.heap.size+1,0,none⟩) (by simp) (.bool true)
  generalize (wr.setCell ⟨w.heap.size,0,none⟩ (.map (some (w.heap.size+1+1)))).setCell ⟨w.heap.size+1,0,none⟩ (.bool true)=W at *
  refine leaves_marks Ds W hmk2 hB2.size fun w' hb' hk'=>?_
  have r0:Boxed w' w.heap.size 179 (.map (some (w.heap.size+1+1))):=(hk' _ (fun h=>marks_box hmk2 c0 h rfl)).trans c0
  have r1:Boxed w' (w.heap.size+1) 4 (.bool true):=(hk' _ (fun h=>marks_box hmk2 c1 h rfl)).trans c1
  have rm:MapB w' (w.heap.size+1+1) encE (edId ps):=cm.kept (hk' _ (fun h=>by
   have h1:=(hmk2.2 _ h).2
   rw[show W.heap[w.heap.size+1+1]?=_ from cm]at h1
   cases h1))
  have s0:=r0.cell
  have s1:=r1.cell
  refine⟨.tuple #[.map (some (w.heap.size+1+1)),.bool true],?_,fun _=>⟨_,rfl,rm,by omega⟩,fun h=>absurd hnd.out h,hB2.trans hb'⟩
  simp[results,Tryz.results143,go_sem,s0,s1]
end Go.Proofs.YtpkeacnacjnlcaaGreat
namespace Go.Proofs.YtpkeacnacjnlcaaGreat
open Go.RowKit
open Classical in
noncomputable def normB (xs:List Pt):Bool:=decide (NormedP xs)
set_option maxHeartbeats 800000 in
theorem equalPt_any (xs ys:List Pt) (A B:Option Addr) (n m ca cb:Nat) (w:World) (hr:Reads w w.heap.size 2 A n (ptsV xs)) (hs:Reads w w.heap.size 2 B m (ptsV ys)) (hn:n≤9223372036854775807) (hm:m≤9223372036854775807):
 Calls Tryz.prog 142 #[.slice A n ca,.slice B m cb] w fun e w'=>e= .returned (.bool (decide (xs=ys)))∧Below w.heap.size w w':=by
 have HL:=Lib.hid (And.intro hr.lenPt hs.lenPt)
 by_cases hnm:n=m
 case neg=>
  have hf:Hid (decide (xs=ys)=false):=by
   apply decide_eq_false
   rintro rfl
   have:=HL.out
   omega
  have hb:((n:Int) != (m:Int))=true:=by simp;omega
  clear hnm
  go_enter Tryz.func142,Tryz.ntmps142
  go_wp2
  go_ret
  exact⟨by rw[hf.out];rfl,Below.refl _ _⟩
 subst hnm
 go_enter Tryz.func142,Tryz.ntmps142
 go_wp2
 go_loopw [13] (fun i wr=>∃k:Nat,k≤n∧Hid (xs.take k=ys.take k)∧i= .int .i64 (k:Int)∧Below w.heap.size w wr) (fun i _=>n-(intOf i).toNat)
 case atStart=>exact⟨0,Nat.zero_le _,rfl,rfl,Below.refl _ _⟩
 case round=>
  obtain⟨k,hk,hg,rfl,hbel⟩:=hrel
  by_cases hlt:k<n
  ·have hw1:IntKind.i64.wrap ((k:Int)+1)=(k:Int)+1:=by rw[IntKind.wrap_i64];omega
   have hlt':(k:Int)<(n:Int):=by omega
   obtain⟨ad,rfl,hb,hkl,hcx,hcy⟩:=(hr.below hbel).pt hlt
   obtain⟨bd,rfl,hb',hkl',hdx,hdy⟩:=(hs.below hbel).pt hlt
   have HE1:=Lib.hid (take_same hg.out hkl hkl')
   have HE2:=Lib.hid (not_same hkl hkl')
   obtain⟨⟨x,y⟩,hp⟩:∃p,p=xs[k]:=⟨_,rfl⟩
   obtain⟨⟨x',y'⟩,hq⟩:∃p,p=ys[k]:=⟨_,rfl⟩
   rw[←hp]at hcx hcy
   rw[←hq]at hdx hdy
   have HP:=Lib.hid (And.intro hp hq)
   simp only at hcx hcy hdx hdy
   clear hp hq hr hs
   by_cases hx:x=x'
   ·by_cases hy:y=y'
    ·subst hx hy
     have HE:=Lib.hid (HE1.out (HP.out.1.symm.trans HP.out.2))
     clear HE1 HE2 HP
     go_wp2
     go_quiet (fail)
     go_wp2
     go_roundw
     case rel=>exact⟨k+1,by omega,HE,by go_num,below_drewN hbel _⟩
     case measure=>simp[intOf];omega
    ·have HE:=Lib.hid (HE2.out (by rw[←HP.out.1,←HP.out.2];simp[hy]))
     subst hx
     have hy':(y != y')=true:=by simpa using hy
     clear HE1 HE2 HP
     go_wp2
     go_quiet (fail)
     go_wp2
     go_ret
     exact⟨by rw[HE.out];rfl,below_drewN hbel _⟩
   ·have HE:=Lib.hid (HE2.out (by rw[←HP.out.1,←HP.out.2];simp[hx]))
    have hx':(x != x')=true:=by simpa using hx
    clear HE1 HE2 HP
    go_wp2
    go_quiet (fail)
    go_wp2
    go_ret
    exact⟨by rw[HE.out];rfl,below_drewN hbel _⟩
  ·have hkn:k=n:=by omega
   subst hkn
   have HF:Hid (decide (xs=ys)=true):=by
    show _=_
    rw[decide_eq_true_iff]
    have h1:=hg.out
    have:=HL.out
    rw[List.take_of_length_le (by omega),List.take_of_length_le (by omega)]at h1
    exact h1
   have hlt':¬(k:Int)<(k:Int):=by omega
   go_wp2
   go_ret
   exact⟨by rw[HF.out];rfl,hbel⟩
set_option maxHeartbeats 800000 in
theorem normed_any (xs:List Pt) (A:Option Addr) (n cap:Nat) (w:World) (hr:Reads w w.heap.size 2 A n (ptsV xs)) (hc:n≤cap) (hn:n≤8796093022208) (hx:∀p∈xs,p.inI):
 Calls Tryz.prog 89 #[.slice A n cap] w fun e w'=>e= .returned (.bool (normB xs))∧Below w.heap.size w w':=by
 have hl:xs.length=n:=hr.lenPt
 have hb:normB xs=(decide (checkI xs=0)&&decide (xs=rot (leastN xs n) xs)):=by
  unfold normB NormedP
  rw[hl,Bool.eq_iff_iff]
  simp
 rw[hb]
 clear hb
 have hL:checkI xs=0→n≤128:=fun h=>by
  obtain⟨h1,h2,h3,-⟩:=checkI_zero h
  omega
 have kC:=Lib.hid (check_any xs A n cap w hr (by omega) hx)
 have HR:=Lib.hid (And.intro hr (And.intro hL hc))
 clear hr hL hx hl hc
 generalize checkI xs=e0 at *
 by_cases he:e0=0
 ·subst he
  rw[decide_eq_true rfl]
  have h128:=HR.out.2.1 rfl
  go_enter Tryz.func89,Tryz.ntmps89
  go_wp2_with fail
  refine kC.out.mono ?_
  rintro e w1 ⟨rfl,hb1⟩
  have kL:=Lib.hid (leastP_any xs A n cap w1 (HR.out.1.on hb1) HR.out.2.2 (by omega))
  have HB:=Lib.hid hb1
  clear hb1 kC
  go_wp2_with fail
  refine kL.out.mono ?_
  rintro e w2 ⟨A',c',rfl,ho,hb2⟩
  have kS:=Lib.hid (equalPt_any xs (rot (leastN xs n) xs) A A' n n cap c' w2 ((HR.out.1.on HB.out).on hb2) (Reads.of_own ho) (by omega) (by omega))
  have HB2:=Lib.hid (below_on HB.out (Nat.le_refl _) hb2)
  clear ho hb2 HB kL
  go_wp2_with fail
  refine kS.out.mono ?_
  rintro e w3 ⟨rfl,hb3⟩
  have HB3:=Lib.hid (below_on HB2.out (Nat.le_refl _) hb3)
  clear hb3 HB2 kS
  go_wp2_with fail
  go_ret
  exact⟨by rw[Bool.true_and];rfl,HB3.out⟩
 ·rw[decide_eq_false he]
  have he':(e0==0)=false:=by simpa using he
  go_enter Tryz.func89,Tryz.ntmps89
  go_wp2_with fail
  refine kC.out.mono ?_
  rintro e w1 ⟨rfl,hb1⟩
  have HB:=Lib.hid hb1
  clear hb1 kC
  go_wp2_with fail
  go_ret
  exact⟨rfl,HB.out⟩
set_option maxHeartbeats 800000 in
theorem normedR_any (xs:List Pt) (A:Option Addr) (n cap:Nat) (w:World) (hr:Reads w w.heap.size 2 A n (ptsV xs)) (hc:n≤cap) (hn:n≤8796093022208) (hx:∀p∈xs,p.inI):
 Calls Tryz.prog 34 #[.slice A n cap] w fun e w'=>e= .returned (.bool (normB xs))∧Below w.heap.size w w':=by
 have hl:xs.length=n:=hr.lenPt
 have hb:normB xs=(decide (checkI xs=0)&&decide (xs=rot (leastN xs n) xs)):=by
  unfold normB NormedP
  rw[hl,Bool.eq_iff_iff]
  simp
 rw[hb]
 clear hb
 have hL:checkI xs=0→n≤128:=fun h=>by
  obtain⟨h1,h2,h3,-⟩:=checkI_zero h
  omega
 have kC:=Lib.hid (checkR_any xs A n cap w hr (by omega) hx)
 have HR:=Lib.hid (And.intro hr (And.intro hL hc))
 clear hr hL hx hl hc
 generalize checkI xs=e0 at *
 by_cases he:e0=0
 ·subst he
  rw[decide_eq_true rfl]
  have h128:=HR.out.2.1 rfl
  go_enter Tryz.func34,Tryz.ntmps34
  go_wp2_with fail
  refine kC.out.mono ?_
  rintro e w1 ⟨rfl,hb1⟩
  have kL:=Lib.hid (leastR_any xs A n cap w1 (HR.out.1.on hb1) h128)
  have HB:=Lib.hid hb1
  clear hb1 kC
  go_wp2_with fail
  refine kL.out.mono ?_
  rintro e w2 ⟨A',c',rfl,ho,hb2⟩
  have kS:=Lib.hid (sameR_any xs (rot (leastN xs n) xs) A A' n n cap c' w2 ((HR.out.1.on HB.out).on hb2) (Reads.of_own ho) (by omega) (by omega))
  have HB2:=Lib.hid (below_on HB.out (Nat.le_refl _) hb2)
  clear ho hb2 HB kL
  go_wp2_with fail
  refine kS.out.mono ?_
  rintro e w3 ⟨rfl,hb3⟩
  have HB3:=Lib.hid (below_on HB2.out (Nat.le_refl _) hb3)
  clear hb3 HB2 kS
  go_wp2_with fail
  go_ret
  exact⟨by rw[Bool.true_and];rfl,HB3.out⟩
 ·rw[decide_eq_false he]
  have he':(e0==0)=false:=by simpa using he
  go_enter Tryz.func34,Tryz.ntmps34
  go_wp2_with fail
  refine kC.out.mono ?_
  rintro e w1 ⟨rfl,hb1⟩
  have HB:=Lib.hid hb1
  clear hb1 kC
  go_wp2_with fail
  go_ret
  exact⟨rfl,HB.out⟩
set_option maxHeartbeats 800000 in
theorem check1_any (x:Parc) (A:Option Addr) (n c:Nat) (w:World) (hr:Reads w w.heap.size 2 A n (ptsV x.ring)) (hc:n≤c) (hf:x.fits):
 Calls Tryz.prog 91 #[.agg #[.int .i64 x.id,.slice A n c,.string x.owner]] w fun e w'=>e= .returned (.bool (!normB x.ring))∧Below w.heap.size w w':=by
 obtain⟨f1,f2,-,-⟩:=hf
 have hb0:=(Below.refl w.heap.size w).alloc (Nat.le_refl _) (.cells #[.int .i64 x.id,.slice A n c,.string x.owner] 27)
 have hK:=PcK.new w x A n c
 have kN:=Lib.hid (normed_any x.ring A n c (w.alloc (.cells #[.int .i64 x.id,.slice A n c,.string x.owner] 27)) (hr.on hb0) hc (by have:=hr.lenPt;omega) f2)
 have HB:=Lib.hid hb0
 obtain⟨q1,q2,q3,-⟩:=hK.facts
 clear hb0 hr f2 hK
 generalize normB x.ring=b at *
 go_enter Tryz.func91,Tryz.ntmps91
 go_wp2_with fail
 refine kN.out.mono ?_
 rintro e w1 ⟨rfl,hb1⟩
 have HB2:=Lib.hid (below_on HB.out (Nat.le_refl _) hb1)
 clear hb1 HB kN
 go_wp2_with fail
 go_ret
 exact⟨rfl,HB2.out⟩
set_option maxHeartbeats 1600000 in
theorem indexC1_any (ps:List Parc) (A:Option Addr) (n cap:Nat) (w:World) (hr:PIn w w.heap.size A n ps) (hn:n≤8796093022208) (hK:∀x∈ps,x.fits):
 Calls Tryz.prog 109 #[.slice A n cap,.func (.func 91) #[] #[]] w fun e w'=>∃i:Int,e= .returned (.int .i64 i)∧((i= -1∧∀k,k<n→(fun x=>!normB x.ring) (pcAt ps k)=false)∨∃k:Nat,k<n∧i=(k:Int)∧(fun x=>!normB x.ring) (pcAt ps k)=true∧∀j,j<k→(fun x=>!normB x.ring) (pcAt ps j)=false)∧Below w.heap.size w w':=by
 have HR:=Lib.hid (And.intro hr hK)
 clear hr hK
 go_enter Tryz.func109,Tryz.ntmps109
 go_wp2_with fail
 go_loopw [8] (fun i wr=>∃k:Nat,k≤n∧i= .int .i64 (k:Int)∧Hid (∀j,j<k→(fun x=>!normB x.ring) (pcAt ps j)=false)∧Below w.heap.size w wr) (fun i _=>n-(intOf i).toNat)
 case atStart=>exact⟨0,Nat.zero_le _,rfl,fun j hj=>absurd hj (Nat.not_lt_zero _),Below.refl _ _⟩
 case round=>
  obtain⟨k,hk,rfl,HA,hbel⟩:=hrel
  by_cases hlt:k<n
  ·have hlt':(k:Int)<(n:Int):=by omega
   have hw1:IntKind.i64.wrap ((k:Int)+1)=(k:Int)+1:=by rw[IntKind.wrap_i64];omega
   obtain⟨ad,rfl⟩:=HR.out.1.some_ (by omega)
   obtain⟨-,p1,⟨Ak,nk,ck,p2,hrk,hk1,hk2⟩,p3⟩:=(HR.out.1.below hbel).at_ hlt
   have kF:Calls Tryz.prog 91 #[.agg #[.int .i64 (pcAt ps k).id,.slice Ak nk ck,.string (pcAt ps k).owner]] wr fun e w'=>e= .returned (.bool ((fun x=>!normB x.ring) (pcAt ps k)))∧Below wr.heap.size wr w':=check1_any (pcAt ps k) Ak nk ck wr (hrk.more hbel.size) hk1 (by rw[pcAt_lt (by have:=HR.out.1.1;omega)];exact HR.out.2 _ (List.getElem_mem _))
   obtain⟨x,hx⟩:∃x,x=pcAt ps k:=⟨_,rfl⟩
   rw[←hx]at p1 p3 kF
   have HX:=Lib.hid hx
   have HB:=Lib.hid hbel
   clear hx hbel hrk
   obtain⟨b,hb⟩:∃b,b=(fun x=>!normB x.ring) x:=⟨_,rfl⟩
   rw[←hb]at kF
   have HBB:=Lib.hid hb
   clear hb
   rcases b with _|_
   ·go_wp2_with (go_at_call 91;(with_reducible refine kF.mono ?_);rintro e w' ⟨rfl,hb'⟩)
    go_roundw
    case rel=>
     refine⟨k+1,by omega,by go_num,(fun j hj=>?_:∀j,j<k+1→_),below_on HB.out (Nat.le_refl _) (by assumption)⟩
     by_cases e:j=k
     ·rw[e,←HX.out];exact HBB.out.symm
     ·exact HA.out j (by omega)
    case measure=>simp[intOf];omega
   ·go_wp2_with (go_at_call 91;(with_reducible refine kF.mono ?_);rintro e w' ⟨rfl,hb'⟩)
    go_ret
    exact⟨k,rfl,.inr ⟨k,hlt,rfl,by rw[←HX.out];exact HBB.out.symm,HA.out⟩,below_on HB.out (Nat.le_refl _) (by assumption)⟩
  ·have hkn:k=n:=by omega
   subst hkn
   have HB:=Lib.hid hbel
   clear hbel
   go_wp2_with fail
   go_ret
   exact⟨-1,rfl,.inl ⟨rfl,fun j hj=>by have:=HA.out j hj;simpa using this⟩,HB.out⟩
theorem containsC1_any (ps:List Parc) (A:Option Addr) (n cap:Nat) (w:World) (hr:PIn w w.heap.size A n ps) (hn:n≤8796093022208) (hK:∀x∈ps,x.fits):
 Calls Tryz.prog 90 #[.slice A n cap,.func (.func 91) #[] #[]] w fun e w'=>e= .returned (.bool (ps.any (fun x=>!normB x.ring)))∧Below w.heap.size w w':=by
 have hl:=hr.1
 have kI:=Lib.hid (indexC1_any ps A n cap w hr hn hK)
 clear hr hK
 go_enter Tryz.func90,Tryz.ntmps90
 go_wp2_with fail
 refine kI.out.mono ?_
 rintro e w1 ⟨i,rfl,hi,hb⟩
 have hany:Hid (ps.any (fun x=>!normB x.ring)=decide (0≤i)):=by
  show _=_
  rcases hi with ⟨rfl,h⟩|⟨k,hk,rfl,h,-⟩
  ·rw[decide_eq_false (by omega),List.any_eq_false]
   intro x hx
   obtain⟨k,hk,rfl⟩:=List.getElem_of_mem hx
   have:=h k (by omega)
   rw[pcAt_lt hk]at this
   rw[this];decide
  ·rw[decide_eq_true (by omega),List.any_eq_true]
   exact⟨ps[k]'(by omega),List.getElem_mem _,by rw[pcAt_lt (by omega)]at h;exact h⟩
 have HB:=Lib.hid hb
 clear hb hi kI
 go_wp2_with fail
 go_ret
 exact⟨by rw[hany.out];rfl,HB.out⟩
end Go.Proofs.YtpkeacnacjnlcaaGreat
namespace Go.Proofs.YtpkeacnacjnlcaaGreat
open Go.RowKit
def atP (ps:List Parc) (id:Int):Int:=if ps.any (fun x=>decide (x.id=id))then(ps.findIdx (fun x=>decide (x.id=id)):Int)else -1
theorem atP_none {ps:List Parc} {id:Int} (h:∀j,j<ps.length→(pcAt ps j).id≠id):atP ps id= -1:=by
 unfold atP
 rw[if_neg]
 rw[List.any_eq_true]
 rintro⟨x,hx,he⟩
 obtain⟨j,hj,rfl⟩:=List.getElem_of_mem hx
 exact h j hj (by rw[pcAt_lt hj];simpa using he)
theorem atP_at {ps:List Parc} {id:Int} {k:Nat} (hk:k<ps.length) (h1:(pcAt ps k).id=id) (h2:∀j,j<k→(pcAt ps j).id≠id):atP ps id=(k:Int):=by
 unfold atP
 rw[if_pos (by rw[List.any_eq_true];exact⟨_,List.getElem_mem hk,by rw[pcAt_lt hk]at h1;simpa using h1⟩)]
 congr 1
 rw[List.findIdx_eq hk]
 refine⟨by rw[←pcAt_lt hk];simpa using h1,fun j hj=>?_⟩
 rw[←pcAt_lt (by omega)]
 simpa using h2 j hj
theorem atP_cases (ps:List Parc) (id:Int):(atP ps id= -1∧∀j,j<ps.length→(pcAt ps j).id≠id)∨∃k:Nat,k<ps.length∧atP ps id=(k:Int)∧(pcAt ps k).id=id:=by
 by_cases h:∃k,k<ps.length∧(pcAt ps k).id=id
 ·refine .inr ?_
  have hl:ps.findIdx (fun x=>decide (x.id=id))<ps.length:=by
   obtain⟨k,hk,he⟩:=h
   rw[pcAt_lt hk]at he
   exact List.findIdx_lt_length_of_exists ⟨_,List.getElem_mem hk,by simpa using he⟩
  refine⟨_,hl,?_,?_⟩
  ·unfold atP
   rw[if_pos]
   rw[List.any_eq_true]
   obtain⟨k,hk,he⟩:=h
   rw[pcAt_lt hk]at he
   exact⟨_,List.getElem_mem hk,by simpa using he⟩
  ·rw[pcAt_lt hl]
   have:=List.findIdx_getElem (w:=hl)
   simpa using this
 ·exact .inl ⟨atP_none fun j hj he=>h ⟨j,hj,he⟩,fun j hj he=>h ⟨j,hj,he⟩⟩
set_option maxHeartbeats 1600000 in
theorem atR_any (p:Plan) (id:Int) (A A':Option Addr) (n c n' c':Nat) (w:World) (h:PlanAt w w.heap.size A n c A' n' c' p):
 Calls Tryz.prog 50 #[planV A n c A' n' c',.int .i64 id] w fun e w'=>e= .returned (.int .i64 (atP p.parcels id))∧Below w.heap.size w w':=by
 obtain⟨hl1,hl2,hl3,hl4⟩:=h.lens
 have hB0:=(Below.refl w.heap.size w).alloc (Nat.le_refl _) (.cells #[.slice A n c,.slice A' n' c'] 30)
 have hK0:=PlK.new w A n c A' n' c'
 have H0:=Lib.hid (And.intro hB0 hK0)
 have HP:=Lib.hid h.parcs
 have HL:=Lib.hid hl2
 clear hB0 hK0 h hl1 hl2 hl3
 go_enter Tryz.func50,Tryz.ntmps50
 go_wp2_with fail
 go_loopw [5] (fun i wr=>∃m:Nat,m≤n'∧i= .int .i64 (m:Int)∧Hid (∀j,j<m→(pcAt p.parcels j).id≠id)∧Hid (Below w.heap.size w wr∧PlK wr w.heap.size A n c A' n' c')) (fun i _=>n'-(intOf i).toNat)
 case atStart=>exact⟨0,Nat.zero_le _,rfl,fun j hj=>absurd hj (Nat.not_lt_zero _),H0⟩
 case round=>
  clear H0
  obtain⟨m,hm,rfl,HF,HW⟩:=hrel
  obtain⟨q1,q2,q3⟩:=HW.out.2.facts
  by_cases hmn:m<n'
  ·have hmn':(m:Int)<(n':Int):=by omega
   have hw1:IntKind.i64.wrap ((m:Int)+1)=(m:Int)+1:=by rw[IntKind.wrap_i64];omega
   obtain⟨ad,rfl⟩:=HP.out.some_ (by omega)
   obtain⟨-,p1,-,-⟩:=(HP.out.below HW.out.1).at_ hmn
   have HI:=Lib.hid (atP_at (ps:=p.parcels) (id:=id) (k:=m) (by have:=HL.out;omega))
   obtain⟨i,hi⟩:∃i,i=(pcAt p.parcels m).id:=⟨_,rfl⟩
   rw[←hi]at p1
   have HX:=Lib.hid hi
   clear hi
   by_cases he:i=id
   ·have HE:=Lib.hid (HI.out (by rw[←HX.out];exact he) HF.out)
    subst he
    go_wp2_with fail
    go_ret
    exact⟨by rw[HE.out];rfl,HW.out.1⟩
   ·have he':(i==id)=false:=by simpa using he
    have HE:Hid (∀j,j<m+1→(pcAt p.parcels j).id≠id):=fun j hj=>by
     by_cases h:j=m
     ·rw[h,←HX.out];exact he
     ·exact HF.out j (by omega)
    go_wp2_with fail
    go_roundw
    case rel=>exact⟨m+1,by omega,by go_num,HE.out,HW⟩
    case measure=>simp[intOf];omega
  ·have hmn':m=n':=by omega
   subst hmn'
   have HN:=Lib.hid (atP_none (ps:=p.parcels) (id:=id) (fun j hj=>HF.out j (by have:=HL.out;omega)))
   go_wp2_with fail
   go_ret
   exact⟨by rw[HN.out];rfl,HW.out.1⟩
end Go.Proofs.YtpkeacnacjnlcaaGreat
namespace Go.Proofs.YtpkeacnacjnlcaaGreat
theorem Off.swap {a b:Pt} {X y1 y2:Int} (hy:y1<y2) (h:¬Touch a b ⟨X,y1⟩ ⟨X,y2⟩):¬Touch b a ⟨X,y1⟩ ⟨X,y2⟩:=by
 obtain⟨h1,h2,h3,h4,h5⟩:=not_touch h
 rintro(g|g|g|g|g)
 ·rw[h2]at g;cases g
 ·rw[h1]at g;cases g
 ·rw[onB_swap,h3]at g;cases g
 ·rw[onB_swap,h4]at g;cases g
 ·have:prB a b ⟨X,y1⟩ ⟨X,y2⟩=true:=by
   rw[pr_up hy]at g ⊢
   rw[cr_swapT,cr_swapT a b]at g
   omega
  rw[h5]at this
  cases this
end Go.Proofs.YtpkeacnacjnlcaaGreat
