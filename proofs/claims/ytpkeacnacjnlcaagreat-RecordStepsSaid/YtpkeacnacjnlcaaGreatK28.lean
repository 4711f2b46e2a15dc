/- slices.Values, AppendSeq, Collect of items: the walks. -/
import Derived.Test.YtpkeacnacjnlcaaGreatK01
import Derived.Test.YtpkeacnacjnlcaaGreatK07
import Derived.Test.YtpkeacnacjnlcaaGreatK27
namespace Go.Proofs.YtpkeacnacjnlcaaGreat
open Go.RowKit Go.Shelf
attribute [local go_sem] Go.Oper.semAt_some
def itHAt (l:List ItH) (k:Nat):ItH:=(l[k]?).getD default
theorem itHAt_lt {l:List ItH} {k:Nat} (h:k<l.length):itHAt l k=l[k]:=by unfold itHAt;rw[List.getElem?_eq_getElem h];rfl
theorem Reads.lenIt {w:World} {B n:Nat} {A:Option Addr} {l:List ItH} (h:Reads w B 2 A n (itsV l)):l.length=n:=by
 have:=h.1
 rw[itsV_length]at this
 omega
theorem Reads.it {w:World} {B n:Nat} {A:Option Addr} {l:List ItH} (h:Reads w B 2 A n (itsV l)) {k:Nat} (hk:k<n):
 ∃ad,A=some ad∧ad.block<B∧∃hk':k<l.length,w.cell? (ad.add (k*2))=some (.slice (l[k]'hk').2.1.1 (l[k]'hk').2.1.2.1 (l[k]'hk').2.1.2.2)∧w.cell? ⟨(ad.add (k*2)).block,(ad.add (k*2)).off+1,none⟩=some (.slice (l[k]'hk').2.2.1 (l[k]'hk').2.2.2.1 (l[k]'hk').2.2.2.2):=by
 obtain⟨ad,e,hb,hc⟩:=h.2 (by omega)
 have hk':k<l.length:=by rw[h.lenIt];exact hk
 exact⟨ad,e,hb,hk',hc _ _ (itsV_get l k hk').1,by rw[add_next];exact hc _ _ (itsV_get l k hk').2⟩
def valAtI (xs:List ItH) (k:Nat):Array Value:=#[.agg #[.slice (itHAt xs k).2.1.1 (itHAt xs k).2.1.2.1 (itHAt xs k).2.1.2.2,.slice (itHAt xs k).2.2.1 (itHAt xs k).2.2.2.1 (itHAt xs k).2.2.2.2]]
set_option maxRecDepth 100000 in
set_option maxHeartbeats 3200000 in
theorem valuesI1_in (n:Nat) (hn:1≤n) (l B Bs cap:Nat) (A:Option Addr) (len:Nat) (xs:List ItH) (hlen:len≤4611686018427387904) (J Jx:List Nat→World→Prop)
 (W:World) (hJ:AbidesFrom W.heap.size J)
 (hY:∀x W1,x<len→J (List.range x) W1→YieldAt Fence.wide (n-1) Tryz.prog l (valAtI xs x) W1 fun e W'=>
   (e= .returned (.bool true)∧J (List.range x++[x]) W'∧KeepE B Bs W1 W')∨(e= .returned (.bool false)∧Jx (List.range x++[x]) W'))
 (hBs:W.cell? ⟨Bs,0,none⟩=some (.slice A len cap)) (hr:Reads W B 2 A len (itsV xs)) (hBW:B≤W.heap.size) (h0:J [] W):
 CallsIn Fence.wide n Tryz.prog 102 #[.func (.yield l) #[] #[],.pointer (some ⟨Bs,0,none⟩)] W fun e W'=>(∃v,e= .returned v)∧
  ((∃ys,ys=List.range len∧J ys W')∨(∃pre,(∃k,k≤len∧pre=List.range k)∧Jx pre W')):=by
 refine callsIn_of_wp Tryz.func102 rfl trivial ?_ rfl
 simp only[Tryz.ntmps102,List.size_toArray,List.length_cons,List.length_nil,Nat.reduceAdd,Nat.reduceSub,Array.replicate_succ,Array.replicate_zero,List.push_toArray,List.append_toArray,List.nil_append,List.cons_append]
 gi_wp2
 gi_loopw [7] (fun i wr=>∃k:Nat,k≤len∧i= .int .i64 k∧J (List.range k) wr∧KeepE B Bs W wr) (fun i _=>len-(intOf i).toNat)
 case atStart=>exact⟨0,Nat.zero_le _,rfl,h0,KeepE.refl _ _ _⟩
 case round=>
  obtain⟨k,hk,rfl,hJs,hkp⟩:=hrel
  have hsz:=hkp.1
  by_cases hlt:k<len
  ·have hbs:Bs<W.heap.size:=cell_lt' hBs
   obtain⟨ad,rfl,hbd,hkl,hcx,hcy⟩:=(hkp.reads hr).it hlt
   obtain⟨p,hp⟩:∃p,p=itHAt xs k:=⟨_,rfl⟩
   have hpk:xs[k]=p:=by rw[hp,itHAt_lt hkl]
   have hed:valAtI xs k=#[.agg #[.slice p.2.1.1 p.2.1.2.1 p.2.1.2.2,.slice p.2.2.1 p.2.2.2.1 p.2.2.2.2]]:=by unfold valAtI;rw[←hp]
   rw[hpk]at hcx hcy
   have hlt':(k:Int)<(len:Int):=by omega
   have hw1:IntKind.i64.wrap ((k:Int)+1)=(k:Int)+1:=IntWalk.i64_in _ (by omega)
   have HE:=Lib.hid hed
   clear hp hpk hed
   gi_upto_region 3 with fail
   refine wpIn_named fun W2 hW2=>?_
   have hk2:KeepE B Bs W W2:=by rw[hW2];exact hkp.trans (KeepE.alloc (by omega) (by omega) _)
   have hJ2:J (List.range k) W2:=by
    rw[hW2]
    exact hJ _ _ _ none hJs (World.grownBy_alloc wr _ none) (fun r e=>by cases e)
   have hpx:W2.cell? ⟨wr.heap.size,0,none⟩=some (.slice p.2.1.1 p.2.1.2.1 p.2.1.2.2):=by rw[hW2];simp
   have hpy:W2.cell? ⟨wr.heap.size,1,none⟩=some (.slice p.2.2.1 p.2.2.2.1 p.2.2.2.2):=by rw[hW2];simp
   have hY2:=hY k W2 hlt hJ2
   rw[HE.out]at hY2
   obtain⟨fn,tmps,assign,body,hy,hR⟩:=hY2
   clear hW2 hJ2 hkp hJs hcx hcy
   gi_wp2_with fail
   refine hR.mono ?_
   rintro e W3 (⟨rfl,hJ3,hk3⟩|⟨rfl,hJx3⟩)
   ·gi_wp2
    go_roundw
    case rel=>exact⟨k+1,by omega,by simp,by rw[List.range_succ];exact hJ3,hk2.trans hk3⟩
    case measure=>simp[intOf];omega
   ·gi_wp2
    refine bodyPost_ret (results_none rfl _ _ _) rfl ?_
    exact⟨⟨_,rfl⟩,.inr ⟨_,⟨k+1,by omega,List.range_succ.symm⟩,hJx3⟩⟩
  ·obtain rfl:k=len:=by omega
   gi_wp2
   go_end0
   exact⟨⟨_,rfl⟩,.inl ⟨_,rfl,hJs⟩⟩
theorem valuesI_any (A:Option Addr) (len cap:Nat) (w:World):
 Calls Tryz.prog 59 #[.slice A len cap] w fun e w'=>e= .returned (.func (.func 102) #[] #[.pointer (some ⟨w.heap.size,0,none⟩)])∧w'=w.alloc (.cells #[.slice A len cap] 43):=by
 go_enter Tryz.func59,Tryz.ntmps59
 go_wp2
 go_ret
 exact⟨rfl,rfl⟩
theorem valuesI_stops (n:Nat) (hn:1≤n) (B Bs cap len:Nat) (A:Option Addr) (xs:List ItH) (hlen:len≤4611686018427387904) (w:World) (hs:Bs<w.heap.size) (hB:B≤w.heap.size) (hc:w.cell? ⟨Bs,0,none⟩=some (.slice A len cap)) (hr:Reads w B 2 A len (itsV xs)):
 SeqStopsK Fence.wide n Tryz.prog 102 #[.pointer (some ⟨Bs,0,none⟩)] (valAtI xs) (KeepE B Bs) (fun ys=>ys=List.range len) (fun pre=>∃k,k≤len∧pre=List.range k) len w:=fun l J Jx W hW hJ _ hY h0=>
 valuesI1_in n hn l B Bs cap A len xs hlen J Jx W hJ (fun x W1 hx hj=>hY _ x W1 hj (by simpa using hx)) ((hW.cell (p:=⟨Bs,0,none⟩) hs).trans hc) (hr.below (hW.mono hB)) (Nat.le_trans hB hW.size) h0
attribute [local go_sem] Go.Oper.semAt_some
theorem range_itHAt (xs:List ItH):(List.range xs.length).map (itHAt xs)=xs:=by
 refine List.ext_getElem (by simp) fun i h1 h2=>?_
 rw[List.getElem_map,List.getElem_range,itHAt_lt h2]
set_option maxRecDepth 100000 in
set_option maxHeartbeats 1600000 in
theorem appendSeqI_any (xs:List ItH) (A:Option Addr) (n cap B Bs:Nat) (w:World) (hn:n≤1048576) (hB:B≤w.heap.size) (hs:Bs<w.heap.size) (hc:w.cell? ⟨Bs,0,none⟩=some (.slice A n cap)) (hr:Reads w B 2 A n (itsV xs)):
 Calls Tryz.prog 156 #[.slice none 0 0,.func (.func 102) #[] #[.pointer (some ⟨Bs,0,none⟩)]] w fun e w'=>∃v,e= .returned v∧w'.ownsRow w.heap.size 52 2 v n (itsV xs)∧Below w.heap.size w w':=by
 have HL:=Lib.hid (hr.lenIt)
 refine(callsIn_wide (n:=3)).1 ?_
 refine callsIn_of_wp_marks Tryz.func156 rfl trivial ?_ rfl
 simp only[Tryz.ntmps156,List.size_toArray,List.length_cons,List.length_nil,Nat.reduceAdd,Nat.reduceSub,Array.replicate_succ,Array.replicate_zero,List.push_toArray,List.append_toArray,List.nil_append,List.cons_append]
 gi_wp2_with fail
 have bL:=Boxed.new w 43 (.slice none 0 0)
 have hB0:=(Below.refl w.heap.size w).alloc (Nat.le_refl _) (.cells #[.slice none 0 0] 43)
 have hr0:=hr.below (hB0.mono hB)
 have hc0:=(hB0.cell (p:=⟨Bs,0,none⟩) hs).trans hc
 have hz0:(w.alloc (.cells #[.slice none 0 0] 43)).heap.size=w.heap.size+1:=by simp
 generalize w.alloc (.cells #[.slice none 0 0] 43)=w0 at *
 refine wpIn_rangeFunc_ownH rfl (by omega) (gf:=102) (lb:=#[.pointer (some ⟨Bs,0,none⟩)]) rfl trivial (enters_of Tryz.func102 (by kernel_rfl) rfl)
  (valuesI_stops 2 (by omega) B Bs cap n A xs (by omega) w0 (by omega) (by omega) hc0 hr0) (fun h k=>h.trans k)
  (fun W l o o' hl h _ _=>⟨by simp,fun i hi=>World.putObj_heap_other (by omega)⟩) (Below.refl _ _) (fun _=>rfl)
  (fun pre W=>(∃v,Boxed W w.heap.size 43 v∧W.ownsRow w.heap.size 52 2 v pre.length (itsV (pre.map (itHAt xs)))∧True)∧Below w.heap.size w W)
  (fun _ _ _=>False)
  (OwnFrom.and (Own.from (holdsRow_own w.heap.size w.heap.size _ _ 2 (fun pre:List Nat=>pre.length) (fun pre=>itsV (pre.map (itHAt xs))) (fun _ _=>True)) _) (ownFrom_below (Nat.le_refl _) (by omega)))
  (fun _ _ _ _ _ hs _ _=>hs)
  ⟨⟨_,bL,World.ownsRow_nil _ _ _ _,trivial⟩,hB0⟩
  (fun x a' W=>∃Bx,Blk W Bx 52 #[.slice (itHAt xs x).2.1.1 (itHAt xs x).2.1.2.1 (itHAt xs x).2.1.2.2,.slice (itHAt xs x).2.2.1 (itHAt xs x).2.2.2.1 (itHAt xs x).2.2.2.2]∧
    a'={ tmps:=#[.slice none 0 0,.func (.func 102) #[] #[.pointer (some ⟨Bs,0,none⟩)],.pointer (some ⟨w.heap.size,0,none⟩),undef,.slice none 0 0,.pointer (some ⟨Bx,0,none⟩),.func (.func 102) #[] #[.pointer (some ⟨Bs,0,none⟩)],.agg #[.slice (itHAt xs x).2.1.1 (itHAt xs x).2.1.2.1 (itHAt xs x).2.1.2.2,.slice (itHAt xs x).2.2.1 (itHAt xs x).2.2.2.1 (itHAt xs x).2.2.2.2],undef,undef,undef,undef,undef],defers:=[] })
  (fun x a'=>fun s X Y row ⟨Bx,hs,e⟩ hg hrow=>⟨Bx,blk_own Bx _ (fun _:Unit=>_) () X Y row hs hg (fun r hr=>(hrow r hr).2),e⟩) ?assign ?body ?done ?stop
 case assign=>
  rintro l pre x W K ⟨⟨v,bv,hown,_⟩,hB'⟩ hK
  unfold valAtI
  gi_wp2
  have hsz:=hB'.size
  have hlt:=bv.lt
  refine hK _ _ ((KeepsOthers.alloc _ _).from _) (KeepE.alloc (by omega) (by omega) _) ⟨⟨v,bv.alloc _,hown.alloc _,trivial⟩,hB'.alloc hB'.size _⟩ ⟨W.heap.size,Blk.new W _ _,rfl⟩
 case body=>
  rintro l pre x a' W hl ⟨r,hrr⟩ ⟨⟨v,bv,hown,_⟩,hB'⟩ ⟨Bx,hBx,rfl⟩ hlen
  obtain⟨i0,hi0,hz0',hz1',hz2'⟩:=info_parts info_it
  obtain⟨p,hp⟩:∃p,p=itHAt xs x:=⟨_,rfl⟩
  rw[←hp]at hBx
  rw[←hp]
  have HPX:=Lib.hid hp
  have x1:W.cell? ⟨Bx,0,none⟩=some (.slice p.2.1.1 p.2.1.2.1 p.2.1.2.2):=by rw[Blk.cell hBx 0];rfl
  have x2:W.cell? ⟨Bx,1,none⟩=some (.slice p.2.2.1 p.2.2.2.1 p.2.2.2.2):=by rw[Blk.cell hBx 1];rfl
  have hsz:=hB'.size
  have hbc:=bv.cell
  have hlen':pre.length<1048576:=by omega
  clear hp hrr hBx
  gi_wp2_with (first
   |(gi_at_builtin;refine wpListIn_append_own _ rfl _ _ 43 rfl w.heap.size 52 i0 _ 2 48 Tryz.underlying43 hi0 hz0' hz1' hz2' rfl (by decide) v pre.length _ rfl (hown.alloc _) ⟨W.heap.size,0,none⟩ 1 1 [.slice p.2.1.1 p.2.1.2.1 p.2.1.2.2,.slice p.2.2.1 p.2.2.2.1 p.2.2.2.2] rfl rfl (two_cells _ _ _ _ _ rfl) (by simp[Value.oneCell']) (by simp only[maxLen];omega) (by omega) (by simp;omega) ?_
     intro v' w3 hown' hgrow _
     obtain⟨g',cap',rfl⟩:=ownsRow_succ hown'
     obtain⟨hv1,hv2,hr3,hk3,hb3⟩:=Boxed.appended bv (by decide) hown (by omega) (Nat.le_refl _) hown' hgrow
     have hc1:=hv1.cell
     have hf1:=hv1.frozen))
  refine⟨hk3.from _,⟨hk3.size,fun i hi=>hb3.block i (by omega)⟩,⟨_,hv2,?_,trivial⟩,hB'.trans (hb3.mono (Nat.le_refl _))⟩
  rw[List.length_append,List.map_append,List.map_singleton,itsV_append,←HPX.out]
  exact hr3
 case done=>
  rintro D ys W hD rfl ⟨⟨v,bv,hown,_⟩,hB'⟩ hK
  rw[List.length_range,←HL.out,range_itHAt]at hown
  obtain⟨A',c',rfl⟩:=own_form hown
  have hc1:=bv.cell
  have hOW:=Lib.hid hown
  clear hown
  gi_wp2_with fail
  refine⟨by simp,.inl ⟨_,_,rfl,run_takeDeferred hK,?_⟩⟩
  refine⟨.slice A' xs.length c',by simp[results,Tryz.results156,go_sem],⟨_,rfl,?_,hB'.trans (belowK_b (w:=w) (Nat.le_refl _) W D _ _ (by omega) hK rfl rfl)⟩⟩
  rw[←HL.out]
  exact ownsRow_putObj hOW.out _ hK rfl
 case stop=>
  rintro D c pre W _ _ h _
  exact h.elim
theorem collectI_any (xs:List ItH) (A:Option Addr) (n cap B Bs:Nat) (w:World) (hn:n≤1048576) (hB:B≤w.heap.size) (hs:Bs<w.heap.size) (hc:w.cell? ⟨Bs,0,none⟩=some (.slice A n cap)) (hr:Reads w B 2 A n (itsV xs)):
 Calls Tryz.prog 101 #[.func (.func 102) #[] #[.pointer (some ⟨Bs,0,none⟩)]] w fun e w'=>∃v,e= .returned v∧w'.ownsRow w.heap.size 52 2 v n (itsV xs)∧Below w.heap.size w w':=by
 have HK:=Lib.hid (appendSeqI_any xs A n cap B Bs w hn hB hs hc hr)
 clear hc hr
 go_enter Tryz.func101,Tryz.ntmps101
 go_wp2_with fail
 refine HK.out.mono ?_
 rintro e w' ⟨v,rfl,ho,hb⟩
 have HO:=Lib.hid ho
 clear ho
 go_wp2_with fail
 go_ret
 exact⟨_,rfl,HO.out,hb⟩
end Go.Proofs.YtpkeacnacjnlcaaGreat
