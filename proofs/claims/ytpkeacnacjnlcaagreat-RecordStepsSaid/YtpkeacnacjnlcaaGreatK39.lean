/- Items that are a plan's, in whatever order; one that is missing, twice or another: plain laws; Plain law: what changed. -/
import Derived.Test.YtpkeacnacjnlcaaGreatK03
import Derived.Test.YtpkeacnacjnlcaaGreatK36
import Derived.Test.YtpkeacnacjnlcaaGreatK37
namespace Go.Proofs.YtpkeacnacjnlcaaGreat
/-- Is it an item that is read? -/
def opB (x:It):Bool:=decide (x.k.length=2∧x.k.getD 0 0=111)||decide (x.k.length=6∧x.k.getD 0 0=112)
theorem opStep_id {x:It} (h:opB x=false) (p:Plan):opStep p x=p:=by
 unfold opB at h
 simp only[Bool.or_eq_false_iff,decide_eq_false_iff_not]at h
 unfold opStep
 rw[if_neg h.1,if_neg h.2]
theorem read_filter:∀(l:List It) (p:Plan),l.foldl opStep p=(l.filter opB).foldl opStep p
 |[],_=>rfl
 |x::l,p=>by
  rw[List.foldl_cons]
  rcases e:opB x with _|_
  ·rw[opStep_id e,List.filter_cons_of_neg (by simp[e])]
   exact read_filter l p
  ·rw[List.filter_cons_of_pos e,List.foldl_cons]
   exact read_filter l _
theorem ofNat_lt {a b:Nat} (h:a<b) (hb:b<256):UInt8.ofNat a<UInt8.ofNat b:=by
 rw[UInt8.lt_iff_toNat_lt,UInt8.toNat_ofNat',UInt8.toNat_ofNat']
 omega
theorem ringIts_rise (head:List UInt8) {r:List Pt} {s:Nat} (h:r.length≤128) (hs:s≤1):Rising ((ringIts head r s).map (·.k)):=by
 rw[ringIts_keys]
 unfold Rising
 rw[List.pairwise_map]
 have hc:=chkN_le (n:=r.length) (m:=8) (by omega)
 refine List.Pairwise.imp_of_mem (fun {i j} _ hj hij=>?_) List.pairwise_lt_range
 have:=List.mem_range.1 hj
 exact ltK_left (ltK_head (ofNat_lt (by omega) (by omega)))
theorem parOP_rise {x:Parc} (h:x.ring.length≤128):Rising ((parOP x).map (·.k)):=by
 unfold parOP
 rw[List.map_cons]
 refine List.pairwise_cons.2 ⟨fun k hk=>?_,ringIts_rise _ h (Nat.le_refl 1)⟩
 rw[ringIts_keys]at hk
 obtain⟨j,hj,rfl⟩:=List.mem_map.1 hk
 have hj:=List.mem_range.1 hj
 have hc:=chkN_le (n:=x.ring.length) (m:=8) (by omega)
 exact ltK_left (ltK_head (ofNat_lt (a:=0) (by omega) (by omega)))
theorem parOP_head {x:Parc} {k:List UInt8} (h:k∈(parOP x).map (·.k)):∃c,k=pcHead x.id++[c]:=by
 unfold parOP at h
 rw[List.map_cons,ringIts_keys]at h
 rcases List.mem_cons.1 h with rfl|h
 ·exact⟨_,rfl⟩
 ·obtain⟨j,-,rfl⟩:=List.mem_map.1 h
  exact⟨_,rfl⟩
theorem pcHead_len (id:Int):(pcHead id).length=5:=by unfold pcHead;rw[List.length_cons,idBy_len]
theorem planOP_rise {p:Plan} (h:RecOK p):Rising ((planOP p).map (·.k)):=by
 unfold planOP
 rw[List.map_append]
 refine List.pairwise_append.2 ⟨ringIts_rise _ h.out.2 (Nat.zero_le 1),?_,fun a ha b hb=>?_⟩
 ·rw[List.map_flatMap,List.pairwise_flatMap]
  refine⟨fun x hx=>parOP_rise (h.pcs x hx).2.2,?_⟩
  refine List.Pairwise.imp_of_mem (fun {x y} hx hy hxy=>?_) h.ids
  intro a ha b hb
  obtain⟨c,rfl⟩:=parOP_head ha
  obtain⟨d,rfl⟩:=parOP_head hb
  refine ltK_append (by rw[pcHead_len,pcHead_len]) (ltK_cons.2 ?_)
  have h1:=(h.pcs x hx).1
  have h2:=(h.pcs y hy).1
  unfold idB at h1 h2
  simp only[decide_eq_true_eq]at h1 h2
  exact ltK_beB (by omega) (by omega)
 ·rw[ringIts_keys]at ha
  obtain⟨j,-,rfl⟩:=List.mem_map.1 ha
  rw[List.map_flatMap]at hb
  obtain⟨x,-,hb⟩:=List.mem_flatMap.1 hb
  obtain⟨d,rfl⟩:=parOP_head hb
  exact ltK_head (by decide)
theorem ringIts_op2 (r:List Pt):(ringIts [111] r 0).filter opB=ringIts [111] r 0:=by
 rw[List.filter_eq_self]
 intro x hx
 obtain⟨k,-,rfl⟩:=List.mem_map.1 hx
 rfl
theorem op_of_head {x:It} {id:Int} {c:UInt8} (h:x.k=pcHead id++[c]):opB x=true:=by
 unfold opB
 obtain⟨h1,h2,-⟩:=head_six id c
 rw[h,h1,h2]
 rfl
theorem parIts_op (x:Parc):(parIts x).filter opB=parOP x:=by
 rw[parIts_eq,List.filter_append,List.filter_append]
 have h1:(parOP x).filter opB=parOP x:=by
  rw[List.filter_eq_self]
  intro i hi
  obtain⟨c,e⟩:=parOP_head (List.mem_map.2 ⟨i,hi,rfl⟩)
  exact op_of_head e
 have h2:((edgesOf x.ring).map (fun e=>(⟨edgKy e,idBy x.id⟩:It))).filter opB=[]:=by
  rw[List.filter_eq_nil_iff]
  intro i hi
  obtain⟨e,-,rfl⟩:=List.mem_map.1 hi
  simp[opB,edgKy]
 have h3:((cellsL x.ring).map (fun c=>(⟨clKey x.id c,[]⟩:It))).filter opB=[]:=by
  rw[List.filter_eq_nil_iff]
  intro i hi
  obtain⟨e,-,rfl⟩:=List.mem_map.1 hi
  simp[opB,clKey]
 rw[h1,h2,h3]
 simp
theorem flat_filter {α β:Type} (f:α→List β) (b:β→Bool):∀l:List α,(l.flatMap f).filter b=l.flatMap fun x=>(f x).filter b
 |[]=>rfl
 |x::l=>by rw[List.flatMap_cons,List.flatMap_cons,List.filter_append,flat_filter f b l]
theorem planIts_op (p:Plan):(planIts p).filter opB=planOP p:=by
 unfold planIts planOP
 rw[List.filter_append,ringIts_op2,flat_filter]
 congr 1
 congr 1
 funext x
 exact parIts_op x
theorem rise_filter {l:List It} (h:Rising (l.map (·.k))) (b:It→Bool):Rising ((l.filter b).map (·.k)):=
 List.Pairwise.sublist (List.Sublist.map _ (List.filter_sublist ..)) h
theorem RecOK.read {p:Plan} (h:RecOK p):readP (planOP p)=p:=read_op h.out.1 h.pcs h.ids
/-- A plan's items, by rising keys, are read as it. -/
theorem read_sorted {p:Plan} {d:List It} (h:RecOK p) (hd:d.Perm (planIts p)) (hr:Rising (d.map (·.k))):readP d=p:=by
 have e:d.filter opB=planOP p:=by
  refine items_uniq (rise_filter hr _) (planOP_rise h) fun x=>?_
  rw[←planIts_op]
  exact(hd.filter opB).mem_iff
 unfold readP
 rw[read_filter,e]
 exact h.read
theorem op_uniq {p q:Plan} (hp:RecOK p) (hq:RecOK q) (h:(planOP p).Perm (planOP q)):p=q:=by
 have e:planOP p=planOP q:=items_uniq (planOP_rise hp) (planOP_rise hq) fun x=>h.mem_iff
 rw[←hp.read,e,hq.read]
theorem its_uniq {p q:Plan} (hp:RecOK p) (hq:RecOK q) (h:(planIts p).Perm (planIts q)):p=q:=by
 refine op_uniq hp hq ?_
 rw[←planIts_op,←planIts_op]
 exact h.filter _
theorem flat_ptB_len (l:List Pt):(l.flatMap ptB).length=8*l.length:=by
 induction l with
 |nil=>rfl
 |cons q l ih=>rw[List.flatMap_cons,List.length_append,ptB_len,ih,List.length_cons];omega
theorem chunk_len (r:List Pt) (k:Nat):(chunkB r k).length=8*min 16 (r.length-16*k):=by
 unfold chunkB
 rw[flat_ptB_len,List.length_take,List.length_drop]
theorem chunks_sum (r:List Pt):∀n:Nat,((List.range n).map fun k=>(chunkB r k).length).sum=8*min r.length (16*n)
 |0=>by simp
 |n+1=>by
  rw[List.range_succ,List.map_append,List.sum_append,chunks_sum r n]
  simp only[List.map_cons,List.map_nil,List.sum_cons,List.sum_nil]
  rw[chunk_len]
  omega
theorem mem_planIts {p:Plan} {x:It} (h:x∈planIts p):x∈ringIts [111] p.outer 0∨∃y∈p.parcels,x∈parIts y:=by
 unfold planIts at h
 rcases List.mem_append.1 h with h|h
 ·exact .inl h
 ·obtain⟨y,hy,h⟩:=List.mem_flatMap.1 h
  exact .inr ⟨y,hy,h⟩
theorem in_planIts {p:Plan} {x:It} {y:Parc} (hy:y∈p.parcels) (h:x∈parIts y):x∈planIts p:=List.mem_append.2 (.inr (List.mem_flatMap.2 ⟨y,hy,h⟩))
end Go.Proofs.YtpkeacnacjnlcaaGreat
namespace Go.Proofs.YtpkeacnacjnlcaaGreat
open Go.RowKit
theorem mem_onceC {l:List Int} {v z:Int}:z∈onceL l v↔z∈l∨z=v:=by
 unfold onceL
 split
 ·rename_i h
  exact⟨.inl,fun h'=>h'.elim id (fun e=>e▸h)⟩
 ·simp
theorem nd_onceC {l:List Int} {v:Int} (h:l.Nodup):(onceL l v).Nodup:=by
 unfold onceL
 split
 ·exact h
 ·rename_i hv
  rw[List.nodup_append]
  exact⟨h,by simp,fun x hx y hy=>by rintro rfl;simp at hy;exact hv (hy▸hx)⟩
theorem ch1C (ps qs:List Parc) (m:Nat):(ch1 ps qs m).Nodup∧∀z,z∈ch1 ps qs m↔∃j,j<m∧chgB ps qs j=true∧(fstP ps j).id=z:=by
 induction m with
 |zero=>exact⟨List.nodup_nil,fun z=>by simp[ch1]⟩
 |succ m ih=>
  obtain⟨ih1,ih2⟩:=ih
  unfold ch1
  split
  ·rename_i h
   refine⟨nd_onceC ih1,fun z=>?_⟩
   rw[mem_onceC,ih2]
   constructor
   ·rintro(⟨j,h1,h2⟩|rfl)
    ·exact⟨j,by omega,h2⟩
    ·exact⟨m,by omega,h,rfl⟩
   ·rintro⟨j,h1,h2,h3⟩
    by_cases e:j=m
    ·subst e;exact .inr h3.symm
    ·exact .inl ⟨j,by omega,h2,h3⟩
  ·rename_i h
   refine⟨ih1,fun z=>?_⟩
   rw[ih2]
   constructor
   ·rintro⟨j,h1,h2⟩
    exact⟨j,by omega,h2⟩
   ·rintro⟨j,h1,h2,h3⟩
    by_cases e:j=m
    ·subst e;exact absurd h2 h
    ·exact⟨j,by omega,h2,h3⟩
theorem ch2C {ps qs:List Parc} {l:List Int} (hl:l.Nodup) (m:Nat):(ch2 ps qs l m).Nodup∧∀z,z∈ch2 ps qs l m↔z∈l∨∃j,j<m∧atP ps (pcAt qs j).id<0∧(pcAt qs j).id=z:=by
 induction m with
 |zero=>exact⟨hl,fun z=>by simp[ch2]⟩
 |succ m ih=>
  obtain⟨ih1,ih2⟩:=ih
  unfold ch2
  split
  ·rename_i h
   refine⟨nd_onceC ih1,fun z=>?_⟩
   rw[mem_onceC,ih2,or_assoc]
   refine or_congr Iff.rfl ?_
   constructor
   ·rintro(⟨j,h1,h2⟩|rfl)
    ·exact⟨j,by omega,h2⟩
    ·exact⟨m,by omega,h,rfl⟩
   ·rintro⟨j,h1,h2,h3⟩
    by_cases e:j=m
    ·subst e;exact .inr h3.symm
    ·exact .inl ⟨j,by omega,h2,h3⟩
  ·rename_i h
   refine⟨ih1,fun z=>?_⟩
   rw[ih2]
   refine or_congr Iff.rfl ?_
   constructor
   ·rintro⟨j,h1,h2⟩
    exact⟨j,by omega,h2⟩
   ·rintro⟨j,h1,h2,h3⟩
    by_cases e:j=m
    ·subst e;exact absurd h2 h
    ·exact⟨j,by omega,h2,h3⟩
def chM (p q:Plan) (z:Int):Prop:=(hasP p z∧chA p q z)∨(hasP q z∧chN p z)
theorem atP_has {ps:List Parc} {z:Int} (h:0≤atP ps z):∃j:Nat,j<ps.length∧atP ps z=(j:Int)∧(pcAt ps j).id=z:=by
 rcases atP_cases ps z with ⟨e,-⟩|h'
 ·omega
 ·exact h'
theorem chL_mem (p q:Plan):(chL p q).Nodup∧∀z,z∈chL p q↔chM p q z:=by
 obtain⟨a1,a2⟩:=ch1C p.parcels q.parcels p.parcels.length
 obtain⟨b1,b2⟩:=ch2C a1 (ps:=p.parcels) (qs:=q.parcels) q.parcels.length
 refine⟨b1,fun z=>(b2 z).trans ?_⟩
 unfold chM
 refine or_congr ?_ ?_
 ·rw[a2]
  constructor
  ·rintro⟨j,hj,hc,rfl⟩
   obtain⟨t,ht,h1,h2⟩:=fst_at hj
   have hid:(pcAt p.parcels t).id=(pcAt p.parcels j).id:=by
    rcases atP_cases p.parcels (pcAt p.parcels j).id with ⟨e,-⟩|⟨k,-,e,e2⟩
    ·omega
    ·obtain rfl:k=t:=by omega
     exact e2
   unfold chgB at hc
   rw[h2,hid]at hc ⊢
   unfold hasP chA
   rw[h1,Int.toNat_natCast]
   refine⟨by omega,?_⟩
   simpa using hc
  ·rintro⟨h1,h2⟩
   obtain⟨j,hj,h3,h4⟩:=atP_has h1
   obtain⟨t,ht,h5,h6⟩:=fst_at hj
   rw[h4]at h5
   obtain rfl:t=j:=by omega
   refine⟨t,hj,?_,by rw[h6];exact h4⟩
   unfold chgB
   rw[h6,h4]
   unfold chA at h2
   rw[h3,Int.toNat_natCast]at h2
   simpa using h2
 ·constructor
  ·rintro⟨j,hj,h1,rfl⟩
   refine⟨?_,h1⟩
   obtain⟨t,ht,h5,h6⟩:=fst_at hj
   unfold hasP
   omega
  ·rintro⟨h1,h2⟩
   obtain⟨j,hj,h3,h4⟩:=atP_has h1
   exact⟨j,hj,by rw[h4];exact h2,h4⟩
theorem chM_swap (p q:Plan) (z:Int):chM p q z↔chM q p z:=by
 have h:∀p q:Plan,chM p q z→chM q p z:=fun p q=>by
  unfold chM hasP chA chN
  rintro(⟨h1,h2|h2⟩|⟨h1,h2⟩)
  ·exact .inr ⟨h1,h2⟩
  ·by_cases h3:atP q.parcels z<0
   ·exact .inr ⟨h1,h3⟩
   ·refine .inl ⟨by omega,.inr ?_⟩
    rw[Bool.eq_false_iff]at h2 ⊢
    intro e
    exact h2 (pcEq_iff.2 (pcEq_iff.1 e).symm)
  ·exact .inl ⟨h1,.inl h2⟩
 exact⟨h p q,h q p⟩
end Go.Proofs.YtpkeacnacjnlcaaGreat
