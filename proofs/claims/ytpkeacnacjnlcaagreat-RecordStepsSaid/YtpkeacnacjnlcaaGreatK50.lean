/- merestonelaw14.RecordBack: the walk. -/
import Derived.Deep.CutBlock
import Derived.Deep.DeepCutAuto
import Derived.Test.YtpkeacnacjnlcaaGreatK03
import Derived.Test.YtpkeacnacjnlcaaGreatK17
import Derived.Test.YtpkeacnacjnlcaaGreatK22
import Derived.Test.YtpkeacnacjnlcaaGreatK27
import Derived.Test.YtpkeacnacjnlcaaGreatK44
import Derived.Test.YtpkeacnacjnlcaaGreatK46
import Derived.Test.YtpkeacnacjnlcaaGreatK48
namespace Go.Proofs.YtpkeacnacjnlcaaGreat
open Go.RowKit Go.Lib
theorem plan_few {p:Plan} (h:SoundP p):2≤(planIts p).length∧(planIts p).length≤20000∧szL (planIts p)≤200000:=by
 have ok:=recOK_sound h
 have h1:=(listed_bd h.1).2.1
 have h2:=flat_few (ps:=p.parcels) fun x hx=>(ok.pcs x hx).2.2
 have h3:=(sound_ring h (.inl rfl)).2.2.1
 have h4:=chkN_le (n:=p.outer.length) (m:=8) (by have:=ok.out.2;omega)
 have hl:=h.1
 unfold listedB at hl
 simp only[Bool.and_eq_true]at hl
 have ho:=listN_own hl.1
 have h5:=szL_flat (ps:=p.parcels) fun x hx=>⟨(ok.pcs x hx).2.2,ho x hx⟩
 have h6:1≤chkN p.outer.length:=by unfold chkN;omega
 have h7:=ok.out.2
 have h8:1≤(p.parcels.flatMap parIts).length:=by
  have he:(⟨ptAt p.outer 0,ptAt p.outer ((0+1)%p.outer.length)⟩:Ed)∈edgesOf p.outer:=List.mem_map.2 ⟨0,List.mem_range.2 (by omega),rfl⟩
  have hm:=h.2.2.2.1.2.1 _ he
  unfold allE at hm
  obtain⟨x,hx,-⟩:=List.mem_flatMap.1 hm
  refine List.length_pos_of_mem (a:=⟨pcHead x.id++[0],x.owner.data.toList⟩) (List.mem_flatMap.2 ⟨x,hx,?_⟩)
  rw[parIts_eq]
  exact List.mem_append.2 (.inl (List.mem_cons_self ..))
 unfold planIts
 rw[szL_append,szL_ring,List.length_append]
 unfold ringIts
 rw[List.length_map,List.length_range]
 omega
/-- What a list of items is answered that is a plan's, in whatever order, or none's. -/
theorem plan_yes {L:List It} {p:Plan} {w:World} {e:Ending} {w':World} (hs:SoundP p) (hp:L.Perm (planIts p)) (h:PlanPostR L w e w'):Below w.heap.size w w'∧∃A n c A' n' c',e= .returned (.tuple #[planV A n c A' n' c',.int .i64 0])∧PlanAt w' w'.heap.size A n c A' n' c' p:=by
 obtain⟨hb,h|h⟩:=h
 ·obtain⟨q,A,n,c,A',n',c',hs',hq,hp2,he,ho⟩:=h
  have e1:q=p:=its_uniq (recOK_sound (planB_sound hq)) (recOK_sound hs) (hp2.symm.trans hp)
  subst e1
  exact⟨hb,A,n,c,A',n',c',he,ho.at_⟩
 ·exact absurd hp (h.1 p (by unfold planB;simpa using hs))
theorem its_kl {p:Plan} {x:It} (hx:x∈planIts p):x.k.length≤17:=by
 rcases mem_planIts hx with hm|⟨y,hy,hm⟩
 ·obtain⟨k,-,rfl⟩:=List.mem_map.1 hm
  simp
 ·rcases par_keys (List.mem_map.2 ⟨x,hm,rfl⟩)with ⟨c,e⟩|⟨f,-,e⟩|⟨f,-,e⟩
  ·rw[e,(head_six y.id c).1];decide
  ·rw[e];unfold edgKy;rw[List.length_cons,List.length_append,ptB_len,ptB_len];decide
  ·rw[e];unfold clKey;rw[List.length_cons,List.length_cons,List.length_cons,idBy_len];decide
theorem szL_mem {l:List It} {x:It} (h:x∈l):x.v.length≤szL l:=by
 obtain⟨a,b,rfl⟩:=List.append_of_mem h
 rw[show a++x::b=a++([x]++b) from rfl,szL_append,szL_append]
 unfold szL
 simp
 omega
theorem own_small {p:Plan} (hs:SoundP p) {d:List ItH} {W:World} (h:∀e∈d,RdIt W W.heap.size e) (hm:∀e∈d,e.1∈planIts p):∀e∈d,e.2.1.2.1≤140737488351232∧e.2.2.2.1≤140737488351232:=fun e he=>by
 have h1:=its_kl (hm e he)
 have h2:=szL_mem (hm e he)
 have h3:=(plan_few hs).2.2
 have h4:=(h e he).1.1.len8
 have h5:=(h e he).2.1.len8
 omega
end Go.Proofs.YtpkeacnacjnlcaaGreat
