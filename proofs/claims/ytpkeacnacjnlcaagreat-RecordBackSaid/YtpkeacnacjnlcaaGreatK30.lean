/- What a cut is made of: rings, corners, the parcels' order: plain law; What a cut does to a plan of the call's own: frames; Of a sound plan no item's key stands twice; the order of those that are read. Plain laws; A cut's two parts; no second cut by the same path: plain law; Items that are a plan's, in whatever order; one that is missing, twice or another: plain laws. -/
import Derived.Deep.CutBlock
import Derived.Deep.DeepCutAuto
import Derived.Test.YtpkeacnacjnlcaaGreatK04
import Derived.Test.YtpkeacnacjnlcaaGreatK08
import Derived.Test.YtpkeacnacjnlcaaGreatK15
import Derived.Test.YtpkeacnacjnlcaaGreatK23
import Derived.Test.YtpkeacnacjnlcaaGreatK25
import Derived.Test.YtpkeacnacjnlcaaGreatK27
import Derived.Test.YtpkeacnacjnlcaaGreatK28
import Derived.Test.YtpkeacnacjnlcaaGreatK29
namespace Go.Proofs.YtpkeacnacjnlcaaGreat
theorem listN_pw {ps:List Parc}:∀ {n:Nat} {last:Int},listN n last ps=true→ps.Pairwise (fun x y=>x.id<y.id)∧∀x∈ps,last<x.id:=by
 induction ps with
 |nil=>intro n last _;exact⟨.nil,fun x hx=>absurd hx List.not_mem_nil⟩
 |cons y ps ih=>
  intro n last h
  rw[listN_cons]at h
  simp only[Bool.and_eq_true,decide_eq_true_eq]at h
  obtain⟨h1,h2,h3,h4,h5⟩:=h
  obtain⟨k1,k2⟩:=ih h5
  refine⟨List.pairwise_cons.2 ⟨k2,k1⟩,fun x hx=>?_⟩
  rcases List.mem_cons.1 hx with rfl|hx
  ·exact h2
  ·have:=k2 x hx;omega
theorem listed_pw {p:Plan} (h:listedB p=true):p.parcels.Pairwise (fun x y=>x.id<y.id):=by
 unfold listedB at h
 rw[Bool.and_eq_true]at h
 exact(listN_pw h.1).1
theorem pcAt_mem {ps:List Parc} {k:Nat} (hk:k<ps.length):pcAt ps k∈ps:=by rw[pcAt_lt hk];exact List.getElem_mem hk
end Go.Proofs.YtpkeacnacjnlcaaGreat
namespace Go.Proofs.YtpkeacnacjnlcaaGreat
open Go.RowKit Go.Lib
theorem PlanOwn.snoc {B n c n' c' m c3 cp':Nat} {W W':World} {A A' A3 Ap':Option Addr} {p:Plan} {hs:List Hd} {x:Parc} (h:PlanOwn B W A n c A' n' c' p hs) (hnew:W.ownsRow B 23 2 (.slice A3 m c3) m (ptsV x.ring))
 (hown:W'.ownsRow B 27 3 (.slice Ap' (n'+1) cp') (n'+1) (rowPV p.parcels hs++pcV x (A3,m,c3))) (hg:W.grownBy W' (Value.slice A' n' c').ownBlock) (hf:(⟨p.outer,p.parcels++[x]⟩:Plan).fits):
 PlanOwn B W' A n c Ap' (n'+1) cp' ⟨p.outer,p.parcels++[x]⟩ (hs++[(A3,m,c3)]):=by
 have hkeep:∀ {v:Value} {j:Nat} {xs:List Value},W.ownsRow B 23 2 v j xs→W'.ownsRow B 23 2 v j xs:=fun {v j xs} ho=>by
  refine own_heap ho fun i hi=>hg.block i (ho.lt i hi).2 (fun e=>?_)
  exact own_own_ne h.row ho (by decide) (g:=i) e.symm hi
 have hl:=h.lenp
 have hl2:=h.len
 refine⟨hkeep h.out,?_,by simp[hl2],by simp[hl],fun j hj=>?_,hf⟩
 ·show World.ownsRow _ _ _ _ _ _ (rowPV (p.parcels++[x]) _)
  rw[rowPV_snoc _ _ (by omega)]
  exact hown
 ·by_cases hjn:j<n'
  ·rw[hdAt_snoc_lt (by omega)]
   have e:pcAt (p.parcels++[x]) j=pcAt p.parcels j:=by unfold pcAt;rw[List.getElem?_append_left (by omega)]
   show World.ownsRow _ _ _ _ _ _ (ptsV (pcAt (p.parcels++[x]) j).ring)
   rw[e]
   exact hkeep (h.rings j hjn)
  ·obtain rfl:j=hs.length:=by omega
   rw[hdAt_snoc_eq]
   have e:pcAt (p.parcels++[x]) hs.length=x:=by unfold pcAt;rw[hl2,←hl];simp
   show World.ownsRow _ _ _ _ _ _ (ptsV (pcAt (p.parcels++[x]) hs.length).ring)
   rw[e]
   exact hkeep hnew
theorem fits_perm {o:List Pt} {ps qs:List Parc} (hp:qs.Perm ps) (h:(⟨o,ps⟩:Plan).fits):(⟨o,qs⟩:Plan).fits:=⟨h.1,by show qs.length≤_;rw[hp.length_eq];exact h.2.1,fun x hx=>h.2.2 x (hp.mem_iff.1 hx)⟩
theorem PlanOwn.sorted {B n c n' cp g:Nat} {W W':World} {A:Option Addr} {p:Plan} {hs:List Hd} {d:List PcH} (h:PlanOwn B W A n c (some ⟨g,0,none⟩) n' cp p hs) (hd:d.Perm (p.parcels.zip hs))
 (hown:W'.ownsRow B 27 3 (.slice (some ⟨g,0,none⟩) n' cp) n' (pchV d)) (hg:W.grownBy W' (some g)):PlanOwn B W' A n c (some ⟨g,0,none⟩) n' cp ⟨p.outer,d.map (·.1)⟩ (d.map (·.2)):=by
 have hkeep:∀ {v:Value} {j:Nat} {xs:List Value},W.ownsRow B 23 2 v j xs→W'.ownsRow B 23 2 v j xs:=fun {v j xs} ho=>by
  refine own_heap ho fun i hi=>hg.block i (ho.lt i hi).2 (fun e=>?_)
  exact own_own_ne h.row ho (by decide) (g:=i) e.symm hi
 have hl:=h.lenp
 have hl2:=h.len
 have hdl:d.length=n':=by rw[hd.length_eq,List.length_zip,hl,hl2,Nat.min_self]
 have hmap:(d.map (·.1)).Perm p.parcels:=by
  have:=hd.map (·.1)
  rwa [List.map_fst_zip (by omega)]at this
 refine⟨hkeep h.out,by rw[←pch_rowPV];exact hown,by simp[hdl],by simp[hdl],fun j hj=>?_,fits_perm hmap h.fits⟩
 have hjd:j<d.length:=by omega
 have hm:d[j]∈p.parcels.zip hs:=hd.mem_iff.1 (List.getElem_mem hjd)
 obtain⟨i,hi,he⟩:=List.getElem_of_mem hm
 rw[List.length_zip]at hi
 have hi1:i<p.parcels.length:=by omega
 have hi2:i<hs.length:=by omega
 rw[List.getElem_zip]at he
 have e1:hdAt (d.map (·.2)) j=hdAt hs i:=by
  unfold hdAt
  rw[List.getElem?_map,List.getElem?_eq_getElem hjd,List.getElem?_eq_getElem hi2,←he]
  rfl
 have e2:pcAt (d.map (·.1)) j=pcAt p.parcels i:=by
  unfold pcAt
  rw[List.getElem?_map,List.getElem?_eq_getElem hjd,List.getElem?_eq_getElem hi1,←he]
  rfl
 show World.ownsRow _ _ _ _ _ _ (ptsV (pcAt (d.map (·.1)) j).ring)
 rw[e1,e2]
 exact hkeep (h.rings i (by omega))
theorem PlanOwn.hdC {B n c n' c' k:Nat} {W:World} {A:Option Addr} {ad:Addr} {p:Plan} {hs:List Hd} (h:PlanOwn B W A n c (some ad) n' c' p hs) (hk:k<n'):W.cell? ⟨(ad.add (k*3)).block,(ad.add (k*3)).off+1,none⟩=some (.slice (hdAt hs k).1 (hdAt hs k).2.1 (hdAt hs k).2.2):=by
 obtain⟨ad',e,hb,hc⟩:=(Reads.of_own h.row).2 (by omega)
 cases e
 obtain⟨-,g2,-⟩:=rowPV_at (hs:=hs) (ps:=p.parcels) (by rw[h.len,h.lenp]) (k:=k) (by rw[h.lenp];exact hk)
 rw[add_off3 _ _ _ (by omega)]
 exact hc _ _ g2
theorem PlanOwn.frzC {B n c n' c' k:Nat} {W:World} {A:Option Addr} {ad:Addr} {p:Plan} {hs:List Hd} (h:PlanOwn B W A n c (some ad) n' c' p hs) (hk:k<n'):W.frozen? ⟨(ad.add (k*3)).block,(ad.add (k*3)).off+1,none⟩=false:=by
 obtain⟨g,cap,e,hb,hlt⟩:=h.row.form (by omega)
 have e1:ad=⟨g,0,none⟩:=by cases e;rfl
 have e2:cap=c':=by cases e;rfl
 subst e1 e2
 have hadr:(⟨((⟨g,0,none⟩:Addr).add (k*3)).block,((⟨g,0,none⟩:Addr).add (k*3)).off+1,none⟩:Addr)=⟨g,k*3+1,none⟩:=by rw[add_off3 _ _ _ (by omega)];simp[Addr.add]
 rw[hadr]
 exact h.row.frozenAt _
end Go.Proofs.YtpkeacnacjnlcaaGreat
namespace Go.Proofs.YtpkeacnacjnlcaaGreat
/-- What the records' laws ask of a plan: all sound ones have it. -/
structure RecOK (p:Plan):Prop where
 out:(∀q∈p.outer,good q=true)∧p.outer.length≤128
 pcs:∀x∈p.parcels,idB x.id=true∧(∀q∈x.ring,good q=true)∧x.ring.length≤128
 ids:p.parcels.Pairwise (fun x y=>x.id<y.id)
 eds:(allE p.parcels).Nodup
theorem listN_ids:∀ {n:Nat} {l:Int} {ps:List Parc},listN n l ps=true→∀x∈ps,idB x.id=true
 |_,_,[],_,x,hx=>absurd hx (by simp)
 |n,l,y::ps,h,x,hx=>by
  unfold listN at h
  simp only[Bool.and_eq_true]at h
  rcases List.mem_cons.1 hx with rfl|hx
  ·exact h.1
  ·exact listN_ids h.2.2.2.2 x hx
theorem recOK_sound {p:Plan} (h:SoundP p):RecOK p:=by
 have ho:=sound_ring h (.inl rfl)
 refine⟨⟨fun q hq=>goodL_mem ho.1 hq,ho.2.1⟩,fun x hx=>?_,listed_pw h.1,h.2.2.2.1.1⟩
 have hr:=sound_ring h (.inr ⟨x,hx,rfl⟩)
 have hl:=h.1
 unfold listedB at hl
 simp only[Bool.and_eq_true]at hl
 exact⟨listN_ids hl.1 x hx,fun q hq=>goodL_mem hr.1 hq,hr.2.1⟩
theorem ptAt_in {xs:List Pt} (h:∀q∈xs,good q=true) {k:Nat} (hk:k<xs.length):good (ptAt xs k)=true:=h _ (ptAt_mem hk)
theorem edgK_good {xs:List Pt} (h:∀q∈xs,good q=true) {e:Ed} (he:e∈edgesOf xs):good e.a=true∧good e.b=true:=by
 obtain⟨k,hk,rfl⟩:=edgesOf_at he
 exact⟨ptAt_in h hk,ptAt_in h (Nat.mod_lt _ (by omega))⟩
theorem cellsL_key {xs:List Pt} {c:Pt} (h:c∈cellsL xs): -4≤c.x∧c.x≤4∧ -4≤c.y∧c.y≤4:=by
 unfold cellsL at h
 split at h
 ·exact cell_key h
 ·simp at h
theorem cellsL_nodup (xs:List Pt):(cellsL xs).Nodup:=by
 unfold cellsL
 split
 ·exact spanC_nodup _
 ·exact List.nodup_nil
theorem par_keys {x:Parc} {k:List UInt8} (h:k∈(parIts x).map (·.k)):(∃c,k=pcHead x.id++[c])∨(∃e∈edgesOf x.ring,k=edgKy e)∨∃c∈cellsL x.ring,k=clKey x.id c:=by
 obtain⟨i,hi,rfl⟩:=List.mem_map.1 h
 unfold parIts at hi
 rcases List.mem_append.1 hi with hi|hi
 ·rcases List.mem_cons.1 hi with rfl|hi
  ·exact .inl ⟨_,rfl⟩
  ·obtain⟨k,-,rfl⟩:=List.mem_map.1 hi
   exact .inl ⟨_,rfl⟩
 ·rcases List.mem_append.1 hi with hi|hi
  ·obtain⟨e,he,rfl⟩:=List.mem_map.1 hi
   exact .inr (.inl ⟨e,he,rfl⟩)
  ·obtain⟨c,hc,rfl⟩:=List.mem_map.1 hi
   exact .inr (.inr ⟨c,hc,rfl⟩)
theorem clKey_inj {i j:Int} {c d:Pt} (hc: -4≤c.x∧c.x≤4∧ -4≤c.y∧c.y≤4) (hd: -4≤d.x∧d.x≤4∧ -4≤d.y∧d.y≤4) (h:clKey i c=clKey j d):c=d∧idBy i=idBy j:=by
 unfold clKey at h
 have h1:=(List.cons.inj h).2
 have h2:=List.cons.inj h1
 have h3:=List.cons.inj h2.2
 have e1:=congrArg UInt8.toNat h2.1
 have e2:=congrArg UInt8.toNat h3.1
 simp only[UInt8.toNat_ofNat']at e1 e2
 rcases c with ⟨a,b⟩
 rcases d with ⟨a',b'⟩
 simp only at *
 exact⟨by rw[show a=a' by omega,show b=b' by omega],h3.2⟩
theorem parOP_nodup {x:Parc} (hl:x.ring.length≤128):((parOP x).map (·.k)).Nodup:=by
 unfold parOP
 rw[List.map_cons,List.nodup_cons]
 refine⟨fun h=>?_,ringIts_nodup _ _ _ hl (Nat.le_refl 1)⟩
 rw[ringIts_keys]at h
 obtain⟨k,hk,e⟩:=List.mem_map.1 h
 have hk:=List.mem_range.1 hk
 have hc:=chkN_le (n:=x.ring.length) (m:=8) (by omega)
 have e1:=congrArg UInt8.toNat (List.cons.inj (List.append_cancel_left e)).1
 simp only[UInt8.toNat_ofNat']at e1
 simp at e1
 omega
theorem parIts_eq (x:Parc):parIts x=parOP x++((edgesOf x.ring).map (fun e=>⟨edgKy e,idBy x.id⟩)++(cellsL x.ring).map (fun c=>⟨clKey x.id c,[]⟩)):=rfl
theorem parIts_nodup {x:Parc} (hg:∀q∈x.ring,good q=true) (hl:x.ring.length≤128) (he:(edgesOf x.ring).Nodup):((parIts x).map (·.k)).Nodup:=by
 rw[parIts_eq,List.map_append,List.map_append,List.map_map,List.map_map,List.nodup_append,List.nodup_append]
 refine⟨parOP_nodup hl,⟨?_,?_,?_⟩,?_⟩
 ·refine nodup_map_inj he fun e h1 f h2 e3=>?_
  obtain⟨g1,g2⟩:=edgK_good hg h1
  obtain⟨g3,g4⟩:=edgK_good hg h2
  exact edgKy_inj g1 g2 g3 g4 e3
 ·exact nodup_map_inj (cellsL_nodup _) fun c h1 d h2 e3=>(clKey_inj (cellsL_key h1) (cellsL_key h2) e3).1
 ·intro a ha b hb e
  obtain⟨u,-,rfl⟩:=List.mem_map.1 ha
  obtain⟨v,-,rfl⟩:=List.mem_map.1 hb
  exact absurd (List.cons.inj e).1 (by decide)
 ·intro a ha b hb e
  have h1:a.head?=some 112:=by
   obtain⟨i,hi,rfl⟩:=List.mem_map.1 ha
   unfold parOP at hi
   rcases List.mem_cons.1 hi with rfl|hi
   ·rfl
   ·obtain⟨k,-,rfl⟩:=List.mem_map.1 hi
    rfl
  have h2:b.head?=some 101∨b.head?=some 99:=by
   rcases List.mem_append.1 hb with hb|hb
   ·obtain⟨v,-,rfl⟩:=List.mem_map.1 hb
    exact .inl rfl
   ·obtain⟨v,-,rfl⟩:=List.mem_map.1 hb
    exact .inr rfl
  rw[e]at h1
  rw[h1]at h2
  revert h2
  decide
theorem planIts_nodup {p:Plan} (h:RecOK p):((planIts p).map (·.k)).Nodup:=by
 unfold planIts
 rw[List.map_append,List.map_flatMap,List.nodup_append]
 refine⟨ringIts_nodup _ _ _ h.out.2 (Nat.zero_le 1),?_,?_⟩
 ·have hE:=h.eds
  unfold allE at hE
  unfold List.Nodup at hE ⊢
  rw[List.pairwise_flatMap]at hE ⊢
  refine⟨fun x hx=>parIts_nodup (h.pcs x hx).2.1 (h.pcs x hx).2.2 (hE.1 x hx),?_⟩
  have hb:=List.pairwise_and_iff.2 ⟨h.ids,hE.2⟩
  refine List.Pairwise.imp_of_mem (fun {x y} hx hy hxy=>?_) hb
  intro a ha b hb e
  subst e
  have hne:x.id≠y.id:=by omega
  have hni:idBy x.id≠idBy y.id:=fun e=>hne (idBy_inj (h.pcs x hx).1 (h.pcs y hy).1 e)
  rcases par_keys ha with ⟨c,e1⟩|⟨e,he,e1⟩|⟨c,hc,e1⟩<;>rcases par_keys hb with ⟨d,e2⟩|⟨f,hf,e2⟩|⟨d,hd,e2⟩
  ·rw[e1]at e2
   have:=(List.append_inj e2 (by unfold pcHead;rw[List.length_cons,List.length_cons,idBy_len,idBy_len])).1
   exact hni (List.cons.inj this).2
  ·rw[e1]at e2;exact absurd (List.cons.inj e2).1 (by decide)
  ·rw[e1]at e2;exact absurd (List.cons.inj e2).1 (by decide)
  ·rw[e1]at e2;exact absurd (List.cons.inj e2).1 (by decide)
  ·rw[e1]at e2
   obtain⟨g1,g2⟩:=edgK_good (h.pcs x hx).2.1 he
   obtain⟨g3,g4⟩:=edgK_good (h.pcs y hy).2.1 hf
   exact hxy.2 e he f hf (edgKy_inj g1 g2 g3 g4 e2)
  ·rw[e1]at e2;exact absurd (List.cons.inj e2).1 (by decide)
  ·rw[e1]at e2;exact absurd (List.cons.inj e2).1 (by decide)
  ·rw[e1]at e2;exact absurd (List.cons.inj e2).1 (by decide)
  ·rw[e1]at e2;exact hni (clKey_inj (cellsL_key hc) (cellsL_key hd) e2).2
 ·intro a ha b hb e
  have h1:a.head?=some 111:=by
   rw[ringIts_keys]at ha
   obtain⟨k,-,rfl⟩:=List.mem_map.1 ha
   rfl
  obtain⟨x,-,hb⟩:=List.mem_flatMap.1 hb
  rw[e]at h1
  rcases par_keys hb with ⟨d,e2⟩|⟨f,hf,e2⟩|⟨d,hd,e2⟩<;>rw[e2]at h1<;>revert h1<;>simp[pcHead,edgKy,clKey]
theorem planB_yes {p:Plan} (h:SoundP p):planB p=true:=by unfold planB;simpa using h
/-- Is it an item that is read? -/
def opB (x:It):Bool:=decide (x.k.length=2∧x.k.getD 0 0=111)||decide (x.k.length=6∧x.k.getD 0 0=112)
theorem opStep_id {x:It} (h:opB x=false) (p:Plan):opStep p x=p:=by
 unfold opB at h
 simp only[Bool.or_eq_false_iff,decide_eq_false_iff_not]at h
 unfold opStep
 rw[if_neg h.1,if_neg h.2]
theorem read_filter:∀(l:List It) (p:Plan),l.foldl opStep p=(l.filter opB).foldl opStep p
 |[],_=>rfl
 |x::l,p=>by
  rw[List.foldl_cons]
  rcases e:opB x with _|_
  ·rw[opStep_id e,List.filter_cons_of_neg (by simp[e])]
   exact read_filter l p
  ·rw[List.filter_cons_of_pos e,List.foldl_cons]
   exact read_filter l _
theorem ofNat_lt {a b:Nat} (h:a<b) (hb:b<256):UInt8.ofNat a<UInt8.ofNat b:=by
 rw[UInt8.lt_iff_toNat_lt,UInt8.toNat_ofNat',UInt8.toNat_ofNat']
 omega
theorem ringIts_rise (head:List UInt8) {r:List Pt} {s:Nat} (h:r.length≤128) (hs:s≤1):Rising ((ringIts head r s).map (·.k)):=by
 rw[ringIts_keys]
 unfold Rising
 rw[List.pairwise_map]
 have hc:=chkN_le (n:=r.length) (m:=8) (by omega)
 refine List.Pairwise.imp_of_mem (fun {i j} _ hj hij=>?_) List.pairwise_lt_range
 have:=List.mem_range.1 hj
 exact ltK_left (ltK_head (ofNat_lt (by omega) (by omega)))
theorem parOP_rise {x:Parc} (h:x.ring.length≤128):Rising ((parOP x).map (·.k)):=by
 unfold parOP
 rw[List.map_cons]
 refine List.pairwise_cons.2 ⟨fun k hk=>?_,ringIts_rise _ h (Nat.le_refl 1)⟩
 rw[ringIts_keys]at hk
 obtain⟨j,hj,rfl⟩:=List.mem_map.1 hk
 have hj:=List.mem_range.1 hj
 have hc:=chkN_le (n:=x.ring.length) (m:=8) (by omega)
 exact ltK_left (ltK_head (ofNat_lt (a:=0) (by omega) (by omega)))
theorem parOP_head {x:Parc} {k:List UInt8} (h:k∈(parOP x).map (·.k)):∃c,k=pcHead x.id++[c]:=by
 unfold parOP at h
 rw[List.map_cons,ringIts_keys]at h
 rcases List.mem_cons.1 h with rfl|h
 ·exact⟨_,rfl⟩
 ·obtain⟨j,-,rfl⟩:=List.mem_map.1 h
  exact⟨_,rfl⟩
theorem pcHead_len (id:Int):(pcHead id).length=5:=by unfold pcHead;rw[List.length_cons,idBy_len]
theorem planOP_rise {p:Plan} (h:RecOK p):Rising ((planOP p).map (·.k)):=by
 unfold planOP
 rw[List.map_append]
 refine List.pairwise_append.2 ⟨ringIts_rise _ h.out.2 (Nat.zero_le 1),?_,fun a ha b hb=>?_⟩
 ·rw[List.map_flatMap,List.pairwise_flatMap]
  refine⟨fun x hx=>parOP_rise (h.pcs x hx).2.2,?_⟩
  refine List.Pairwise.imp_of_mem (fun {x y} hx hy hxy=>?_) h.ids
  intro a ha b hb
  obtain⟨c,rfl⟩:=parOP_head ha
  obtain⟨d,rfl⟩:=parOP_head hb
  refine ltK_append (by rw[pcHead_len,pcHead_len]) (ltK_cons.2 ?_)
  have h1:=(h.pcs x hx).1
  have h2:=(h.pcs y hy).1
  unfold idB at h1 h2
  simp only[decide_eq_true_eq]at h1 h2
  exact ltK_beB (by omega) (by omega)
 ·rw[ringIts_keys]at ha
  obtain⟨j,-,rfl⟩:=List.mem_map.1 ha
  rw[List.map_flatMap]at hb
  obtain⟨x,-,hb⟩:=List.mem_flatMap.1 hb
  obtain⟨d,rfl⟩:=parOP_head hb
  exact ltK_head (by decide)
theorem ringIts_op2 (r:List Pt):(ringIts [111] r 0).filter opB=ringIts [111] r 0:=by
 rw[List.filter_eq_self]
 intro x hx
 obtain⟨k,-,rfl⟩:=List.mem_map.1 hx
 rfl
theorem op_of_head {x:It} {id:Int} {c:UInt8} (h:x.k=pcHead id++[c]):opB x=true:=by
 unfold opB
 obtain⟨h1,h2,-⟩:=head_six id c
 rw[h,h1,h2]
 rfl
theorem parIts_op (x:Parc):(parIts x).filter opB=parOP x:=by
 rw[parIts_eq,List.filter_append,List.filter_append]
 have h1:(parOP x).filter opB=parOP x:=by
  rw[List.filter_eq_self]
  intro i hi
  obtain⟨c,e⟩:=parOP_head (List.mem_map.2 ⟨i,hi,rfl⟩)
  exact op_of_head e
 have h2:((edgesOf x.ring).map (fun e=>(⟨edgKy e,idBy x.id⟩:It))).filter opB=[]:=by
  rw[List.filter_eq_nil_iff]
  intro i hi
  obtain⟨e,-,rfl⟩:=List.mem_map.1 hi
  simp[opB,edgKy]
 have h3:((cellsL x.ring).map (fun c=>(⟨clKey x.id c,[]⟩:It))).filter opB=[]:=by
  rw[List.filter_eq_nil_iff]
  intro i hi
  obtain⟨e,-,rfl⟩:=List.mem_map.1 hi
  simp[opB,clKey]
 rw[h1,h2,h3]
 simp
theorem flat_filter {α β:Type} (f:α→List β) (b:β→Bool):∀l:List α,(l.flatMap f).filter b=l.flatMap fun x=>(f x).filter b
 |[]=>rfl
 |x::l=>by rw[List.flatMap_cons,List.flatMap_cons,List.filter_append,flat_filter f b l]
theorem planIts_op (p:Plan):(planIts p).filter opB=planOP p:=by
 unfold planIts planOP
 rw[List.filter_append,ringIts_op2,flat_filter]
 congr 1
 congr 1
 funext x
 exact parIts_op x
theorem rise_filter {l:List It} (h:Rising (l.map (·.k))) (b:It→Bool):Rising ((l.filter b).map (·.k)):=
 List.Pairwise.sublist (List.Sublist.map _ (List.filter_sublist ..)) h
theorem RecOK.read {p:Plan} (h:RecOK p):readP (planOP p)=p:=read_op h.out.1 h.pcs h.ids
/-- A plan's items, by rising keys, are read as it. -/
theorem read_sorted {p:Plan} {d:List It} (h:RecOK p) (hd:d.Perm (planIts p)) (hr:Rising (d.map (·.k))):readP d=p:=by
 have e:d.filter opB=planOP p:=by
  refine items_uniq (rise_filter hr _) (planOP_rise h) fun x=>?_
  rw[←planIts_op]
  exact(hd.filter opB).mem_iff
 unfold readP
 rw[read_filter,e]
 exact h.read
theorem op_uniq {p q:Plan} (hp:RecOK p) (hq:RecOK q) (h:(planOP p).Perm (planOP q)):p=q:=by
 have e:planOP p=planOP q:=items_uniq (planOP_rise hp) (planOP_rise hq) fun x=>h.mem_iff
 rw[←hp.read,e,hq.read]
theorem its_uniq {p q:Plan} (hp:RecOK p) (hq:RecOK q) (h:(planIts p).Perm (planIts q)):p=q:=by
 refine op_uniq hp hq ?_
 rw[←planIts_op,←planIts_op]
 exact h.filter _
theorem RecOK.pcsOnly {p:Plan} (h:RecOK p):RecOK ⟨[],p.parcels⟩:=⟨⟨fun q hq=>absurd hq (by simp),Nat.zero_le _⟩,h.pcs,h.ids,h.eds⟩
theorem pcs_uniq {p q:Plan} (hp:RecOK p) (hq:RecOK q) (h:(p.parcels.flatMap parOP).Perm (q.parcels.flatMap parOP)):p.parcels=q.parcels:=by
 have:=op_uniq hp.pcsOnly hq.pcsOnly (by
  unfold planOP
  exact List.Perm.append (List.Perm.refl _) h)
 exact(Plan.mk.inj this).2
/-- An item's sort. -/
def hdB (c:UInt8) (x:It):Bool:=decide (x.k.head?=some c)
theorem hd_ring {c d:UInt8} {r:List Pt} {s:Nat} {t:List UInt8}:(ringIts (d::t) r s).filter (hdB c)=if d=c then ringIts (d::t) r s else[]:=by
 by_cases e:d=c
 ·rw[if_pos e,List.filter_eq_self]
  intro x hx
  obtain⟨k,-,rfl⟩:=List.mem_map.1 hx
  simp[hdB,e]
 ·rw[if_neg e,List.filter_eq_nil_iff]
  intro x hx
  obtain⟨k,-,rfl⟩:=List.mem_map.1 hx
  simp[hdB,e]
theorem hd_par (c:UInt8) (x:Parc):(parIts x).filter (hdB c)=(if (112:UInt8)=c then parOP x else[])++((if (101:UInt8)=c then(edgesOf x.ring).map (fun e=>(⟨edgKy e,idBy x.id⟩:It))else[])++(if (99:UInt8)=c then(cellsL x.ring).map (fun c=>(⟨clKey x.id c,[]⟩:It))else[])):=by
 rw[parIts_eq,List.filter_append,List.filter_append]
 congr 1
 ·unfold parOP
  unfold pcHead
  by_cases e:(112:UInt8)=c
  ·rw[if_pos e,List.filter_cons_of_pos (by simp[hdB,e]),hd_ring,if_pos e]
  ·rw[if_neg e,List.filter_cons_of_neg (by simp[hdB,e]),hd_ring,if_neg e]
 ·congr 1
  ·by_cases e:(101:UInt8)=c
   ·rw[if_pos e,List.filter_eq_self]
    intro i hi
    obtain⟨k,-,rfl⟩:=List.mem_map.1 hi
    simp[hdB,edgKy,e]
   ·rw[if_neg e,List.filter_eq_nil_iff]
    intro i hi
    obtain⟨k,-,rfl⟩:=List.mem_map.1 hi
    simp[hdB,edgKy,e]
  ·by_cases e:(99:UInt8)=c
   ·rw[if_pos e,List.filter_eq_self]
    intro i hi
    obtain⟨k,-,rfl⟩:=List.mem_map.1 hi
    simp[hdB,clKey,e]
   ·rw[if_neg e,List.filter_eq_nil_iff]
    intro i hi
    obtain⟨k,-,rfl⟩:=List.mem_map.1 hi
    simp[hdB,clKey,e]
theorem hd_o (p:Plan):(planIts p).filter (hdB 111)=ringIts [111] p.outer 0:=by
 unfold planIts
 rw[List.filter_append,hd_ring,if_pos rfl,flat_filter]
 have:(p.parcels.flatMap fun x=>(parIts x).filter (hdB 111))=[]:=by
  rw[List.flatMap_eq_nil_iff]
  intro x _
  rw[hd_par]
  rfl
 rw[this,List.append_nil]
theorem hd_p (p:Plan):(planIts p).filter (hdB 112)=p.parcels.flatMap parOP:=by
 unfold planIts
 rw[List.filter_append,hd_ring,if_neg (by decide),flat_filter,List.nil_append]
 congr 1
 funext x
 rw[hd_par,if_pos rfl]
 simp
theorem hd_e (p:Plan):((planIts p).filter (hdB 101)).length=(allE p.parcels).length:=by
 unfold planIts allE
 rw[List.filter_append,hd_ring,if_neg (by decide),flat_filter,List.nil_append,List.length_flatMap,List.length_flatMap]
 congr 1
 refine List.map_congr_left fun x _=>?_
 rw[hd_par]
 simp
/-- How many bytes of points an item of a parcel has. -/
def wtI (x:It):Nat:=if x.k.length=6∧x.k.head?=some 112∧x.k.getD 5 0≠0 then x.v.length else 0
theorem flat_ptB_len (l:List Pt):(l.flatMap ptB).length=8*l.length:=by
 induction l with
 |nil=>rfl
 |cons q l ih=>rw[List.flatMap_cons,List.length_append,ptB_len,ih,List.length_cons];omega
theorem chunk_len (r:List Pt) (k:Nat):(chunkB r k).length=8*min 16 (r.length-16*k):=by
 unfold chunkB
 rw[flat_ptB_len,List.length_take,List.length_drop]
theorem chunks_sum (r:List Pt):∀n:Nat,((List.range n).map fun k=>(chunkB r k).length).sum=8*min r.length (16*n)
 |0=>by simp
 |n+1=>by
  rw[List.range_succ,List.map_append,List.sum_append,chunks_sum r n]
  simp only[List.map_cons,List.map_nil,List.sum_cons,List.sum_nil]
  rw[chunk_len]
  omega
theorem wt_zero {l:List It} (h:∀x∈l,wtI x=0):(l.map wtI).sum=0:=by
 induction l with
 |nil=>rfl
 |cons x l ih=>rw[List.map_cons,List.sum_cons,h x (List.mem_cons_self ..),ih fun y hy=>h y (List.mem_cons_of_mem _ hy)]
theorem chunk_key {r:List Pt} (h:r.length≤128) {k:Nat} (hk:k<chkN r.length):(UInt8.ofNat (1+k))≠0:=by
 have hc:=chkN_le (n:=r.length) (m:=8) (by omega)
 intro e
 have:=congrArg UInt8.toNat e
 rw[UInt8.toNat_ofNat']at this
 simp at this
 omega
theorem wt_ring {id:Int} {r:List Pt} (h:r.length≤128):((ringIts (pcHead id) r 1).map wtI).sum=8*r.length:=by
 unfold ringIts
 rw[List.map_map]
 have:∀k∈List.range (chkN r.length),(wtI∘fun k=>(⟨pcHead id++[UInt8.ofNat (1+k)],chunkB r k⟩:It)) k=(chunkB r k).length:=fun k hk=>by
  have hk:=List.mem_range.1 hk
  obtain⟨h1,-,h3⟩:=head_six id (UInt8.ofNat (1+k))
  simp only[Function.comp]
  unfold wtI
  rw[if_pos ⟨h1,rfl,by rw[h3];exact chunk_key h hk⟩]
 rw[List.map_congr_left this,chunks_sum]
 unfold chkN
 omega
theorem wt_par {x:Parc} (h:x.ring.length≤128):((parIts x).map wtI).sum=8*(edgesOf x.ring).length:=by
 rw[parIts_eq,List.map_append,List.map_append,List.sum_append,List.sum_append,edgesOf_len]
 unfold parOP
 rw[List.map_cons,List.sum_cons,wt_ring h]
 have h0:wtI ⟨pcHead x.id++[0],x.owner.data.toList⟩=0:=by
  unfold wtI
  rw[if_neg]
  intro hh
  exact hh.2.2 (head_six x.id 0).2.2
 rw[h0,wt_zero (l:=(edgesOf x.ring).map _),wt_zero (l:=(cellsL x.ring).map _)]
 ·omega
 ·intro y hy
  obtain⟨k,-,rfl⟩:=List.mem_map.1 hy
  simp[wtI,clKey]
 ·intro y hy
  obtain⟨k,-,rfl⟩:=List.mem_map.1 hy
  simp[wtI,edgKy]
theorem wt_pcs:∀ {ps:List Parc},(∀x∈ps,x.ring.length≤128)→((ps.flatMap parIts).map wtI).sum=8*(allE ps).length
 |[],_=>rfl
 |x::ps,h=>by
  unfold allE
  rw[List.flatMap_cons,List.flatMap_cons,List.map_append,List.sum_append,List.length_append,wt_par (h x (List.mem_cons_self ..)),wt_pcs fun y hy=>h y (List.mem_cons_of_mem _ hy)]
  unfold allE
  omega
theorem wt_plan {p:Plan} (h:RecOK p):((planIts p).map wtI).sum=8*(allE p.parcels).length:=by
 unfold planIts
 rw[List.map_append,List.sum_append,wt_pcs fun x hx=>(h.pcs x hx).2.2,wt_zero,Nat.zero_add]
 intro y hy
 obtain⟨k,-,rfl⟩:=List.mem_map.1 hy
 simp[wtI]
theorem outer_uniq {p q:Plan} (hp:SoundP p) (hq:SoundP q) (h:p.parcels=q.parcels):p.outer.length=q.outer.length:=by
 have hmem:∀e,e∈edgesOf p.outer↔e∈edgesOf q.outer:=fun e=>by
  have h1:=hp.2.2.2.1
  have h2:=hq.2.2.2.1
  unfold MatchP at h1 h2
  rw[←h]at h2
  constructor
  ·intro he
   have ha:=h1.2.1 e he
   by_cases hc:e∈edgesOf q.outer
   ·exact hc
   ·exact absurd he ((h1.2.2 e ha).1 ((h2.2.2 e ha).2 hc))
  ·intro he
   have ha:=h2.2.1 e he
   by_cases hc:e∈edgesOf p.outer
   ·exact hc
   ·exact absurd he ((h2.2.2 e ha).1 ((h1.2.2 e ha).2 hc))
 have n1:=edgesOf_nd (sound_nodup hp (.inl rfl)).1
 have n2:=edgesOf_nd (sound_nodup hq (.inl rfl)).1
 have:=((List.perm_ext_iff_of_nodup n1 n2).2 hmem).length_eq
 rwa [edgesOf_len,edgesOf_len]at this
theorem mem_planIts {p:Plan} {x:It} (h:x∈planIts p):x∈ringIts [111] p.outer 0∨∃y∈p.parcels,x∈parIts y:=by
 unfold planIts at h
 rcases List.mem_append.1 h with h|h
 ·exact .inl h
 ·obtain⟨y,hy,h⟩:=List.mem_flatMap.1 h
  exact .inr ⟨y,hy,h⟩
theorem in_planIts {p:Plan} {x:It} {y:Parc} (hy:y∈p.parcels) (h:x∈parIts y):x∈planIts p:=List.mem_append.2 (.inr (List.mem_flatMap.2 ⟨y,hy,h⟩))
/-- Without one of them they are no plan's. -/
theorem without_none {p q:Plan} {x:It} {l:List It} (hp:SoundP p) (hq:SoundP q) (h1:(x::l).Perm (planIts p)) (h2:l.Perm (planIts q)):False:=by
 have rp:=recOK_sound hp
 have rq:=recOK_sound hq
 have hx:(x::planIts q).Perm (planIts p):=((List.Perm.cons x h2).symm).trans h1
 have hlen:=hx.length_eq
 rw[List.length_cons]at hlen
 have hkn:((x::planIts q).map (·.k)).Nodup:=((hx.map (·.k)).nodup_iff).2 (planIts_nodup rp)
 rcases eo:opB x with _|_
 ·have h3:=hx.filter opB
  rw[List.filter_cons_of_neg (by simp[eo]),planIts_op,planIts_op]at h3
  have e:=op_uniq rq rp h3
  rw[e]at hlen
  omega
 ·have hne:hdB 101 x=false:=by
   unfold opB at eo
   unfold hdB
   rcases hk:x.k with _|⟨a,t⟩
   ·rfl
   ·rw[hk]at eo
    simp only[Bool.or_eq_true,decide_eq_true_eq,List.getD_cons_zero]at eo
    simp only[List.head?_cons,Option.some.injEq,decide_eq_false_iff_not]
    intro e
    rcases eo with ⟨-,e2⟩|⟨-,e2⟩
    ·rw[e]at e2;exact absurd e2 (by decide)
    ·rw[e]at e2;exact absurd e2 (by decide)
  have hE:(allE q.parcels).length=(allE p.parcels).length:=by
   have h3:=(hx.filter (hdB 101)).length_eq
   rw[List.filter_cons_of_neg (by simp[hne]),hd_e,hd_e]at h3
   exact h3
  rcases mem_planIts ((hx.mem_iff).1 (List.mem_cons_self ..))with hm|⟨y,hy,hm⟩
  ·obtain⟨k,hk,rfl⟩:=List.mem_map.1 hm
   have h3:=hx.filter (hdB 112)
   rw[List.filter_cons_of_neg (by simp[hdB]),hd_p,hd_p]at h3
   have e1:=outer_uniq hq hp (pcs_uniq rq rp h3)
   have h4:=(hx.filter (hdB 111)).length_eq
   rw[List.filter_cons_of_pos (by simp[hdB]),hd_o,hd_o,List.length_cons]at h4
   unfold ringIts at h4
   rw[List.length_map,List.length_map,List.length_range,List.length_range,e1]at h4
   omega
  ·rw[parIts_eq]at hm
   rcases List.mem_append.1 hm with hm|hm
   ·unfold parOP at hm
    rcases List.mem_cons.1 hm with rfl|hm
    ·obtain⟨-,-,h3,-⟩:=sound_ring hp (.inr ⟨y,hy,rfl⟩)
     have hin:(⟨pcHead y.id++[UInt8.ofNat (1+0)],chunkB y.ring 0⟩:It)∈planIts p:=in_planIts hy (by
      rw[parIts_eq]
      refine List.mem_append.2 (.inl (List.mem_cons_of_mem _ (List.mem_map.2 ⟨0,List.mem_range.2 ?_,rfl⟩)))
      unfold chkN
      omega)
     rcases List.mem_cons.1 ((hx.mem_iff).2 hin)with e|hin
     ·have:=(It.mk.inj e).1
      have:=List.append_cancel_left this
      exact absurd (List.cons.inj this).1 (by decide)
     ·rcases mem_planIts hin with hm|⟨z,hz,hm⟩
      ·obtain⟨k,-,e⟩:=List.mem_map.1 hm
       exact absurd (List.cons.inj (It.mk.inj e).1).1 (by decide)
      ·rcases par_keys (List.mem_map.2 ⟨_,hm,rfl⟩)with ⟨c,e⟩|⟨f,-,e⟩|⟨f,-,e⟩
       ·have e2:=(List.append_inj e (by rw[pcHead_len,pcHead_len])).1
        rw[List.map_cons,List.nodup_cons]at hkn
        refine hkn.1 (List.mem_map.2 ⟨⟨pcHead z.id++[0],z.owner.data.toList⟩,in_planIts hz ?_,?_⟩)
        ·rw[parIts_eq]
         exact List.mem_append.2 (.inl (List.mem_cons_self ..))
        ·show pcHead z.id++[0]=pcHead y.id++[0]
         rw[e2]
       ·exact absurd (List.cons.inj e).1 (by decide)
       ·exact absurd (List.cons.inj e).1 (by decide)
    ·have hr:=(rp.pcs y hy).2.2
     obtain⟨k,hk,rfl⟩:=List.mem_map.1 hm
     have hk:=List.mem_range.1 hk
     have h3:=(hx.map wtI).sum_nat
     rw[List.map_cons,List.sum_cons,wt_plan rp,wt_plan rq,hE]at h3
     have h4:wtI ⟨pcHead y.id++[UInt8.ofNat (1+k)],chunkB y.ring k⟩=(chunkB y.ring k).length:=by
      obtain⟨g1,-,g3⟩:=head_six y.id (UInt8.ofNat (1+k))
      unfold wtI
      rw[if_pos ⟨g1,rfl,by rw[g3];exact chunk_key hr hk⟩]
     rw[h4,chunk_len]at h3
     unfold chkN at hk
     omega
   ·rcases List.mem_append.1 hm with hm|hm
    ·obtain⟨k,-,rfl⟩:=List.mem_map.1 hm
     simp[opB,edgKy]at eo
    ·obtain⟨k,-,rfl⟩:=List.mem_map.1 hm
     simp[opB,clKey]at eo
/-- With one of them twice they are no plan's. -/
theorem twice_none {q:Plan} {x:It} {l:List It} (hq:SoundP q) (h1:x∈l) (h2:(l++[x]).Perm (planIts q)):False:=by
 have h3:=((h2.map (·.k)).nodup_iff).2 (planIts_nodup (recOK_sound hq))
 rw[List.map_append,List.nodup_append]at h3
 exact h3.2.2 _ (List.mem_map.2 ⟨x,h1,rfl⟩) _ (List.mem_singleton.2 rfl) rfl
/-- How long a plan's item's value is. -/
theorem its_len {p:Plan} {x:It} (hx:x∈planIts p):
 (x.k.getD 0 0=111∧x.v.length%8=0)∨(x.k.getD 0 0=112∧x.k.length=6∧(x.k.getD 5 0=0∨x.v.length%8=0))∨(x.k.getD 0 0=101∧x.v.length=4)∨(x.k.getD 0 0=99∧x.v.length=0):=by
 rcases mem_planIts hx with hm|⟨y,hy,hm⟩
 ·obtain⟨k,-,rfl⟩:=List.mem_map.1 hm
  exact .inl ⟨rfl,by rw[chunk_len];omega⟩
 ·rw[parIts_eq]at hm
  rcases List.mem_append.1 hm with hm|hm
  ·unfold parOP at hm
   rcases List.mem_cons.1 hm with rfl|hm
   ·obtain⟨g1,g2,g3⟩:=head_six y.id 0
    exact .inr (.inl ⟨g2,g1,.inl g3⟩)
   ·obtain⟨k,-,rfl⟩:=List.mem_map.1 hm
    obtain⟨g1,g2,-⟩:=head_six y.id (UInt8.ofNat (1+k))
    exact .inr (.inl ⟨g2,g1,.inr (by rw[chunk_len];omega)⟩)
  ·rcases List.mem_append.1 hm with hm|hm
   ·obtain⟨k,-,rfl⟩:=List.mem_map.1 hm
    exact .inr (.inr (.inl ⟨rfl,idBy_len _⟩))
   ·obtain⟨k,-,rfl⟩:=List.mem_map.1 hm
    exact .inr (.inr (.inr ⟨rfl,rfl⟩))
/-- With a value that is longer by a byte, an owner's not, they are no plan's. -/
theorem bad_none {p q:Plan} {x:It} {b:UInt8} {l:List It} (h1:x∈planIts p) (hno:¬(x.k.getD 0 0=112∧x.k.getD 5 0=0)) (h2:l.Perm (planIts q)) (hm:(⟨x.k,x.v++[b]⟩:It)∈l):False:=by
 have e1:=its_len h1
 have e2:=its_len ((h2.mem_iff).1 hm)
 simp only[List.length_append,List.length_singleton]at e2
 rcases e1 with ⟨a,e1⟩|⟨a,-,e1⟩|⟨a,e1⟩|⟨a,e1⟩<;>rcases e2 with ⟨a2,e2⟩|⟨a2,-,e2⟩|⟨a2,e2⟩|⟨a2,e2⟩<;>first
  |omega
  |(rw [a]at a2;exact absurd a2 (by decide))
  |skip
 have n1:x.k.getD 5 0≠0:=fun e=>hno ⟨a,e⟩
 rcases e1 with e1|e1
 ·exact n1 e1
 ·rcases e2 with e2|e2
  ·exact n1 e2
  ·omega
end Go.Proofs.YtpkeacnacjnlcaaGreat
