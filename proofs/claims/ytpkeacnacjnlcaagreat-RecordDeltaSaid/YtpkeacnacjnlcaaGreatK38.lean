/- What a cut does to a plan of the call's own: frames; A cut's two parts; no second cut by the same path: plain law. -/
import Derived.Test.YtpkeacnacjnlcaaGreatK27
import Derived.Test.YtpkeacnacjnlcaaGreatK30
import Derived.Test.YtpkeacnacjnlcaaGreatK34
namespace Go.Proofs.YtpkeacnacjnlcaaGreat
open Go.RowKit Go.Lib
theorem PlanOwn.snoc {B n c n' c' m c3 cp':Nat} {W W':World} {A A' A3 Ap':Option Addr} {p:Plan} {hs:List Hd} {x:Parc} (h:PlanOwn B W A n c A' n' c' p hs) (hnew:W.ownsRow B 23 2 (.slice A3 m c3) m (ptsV x.ring))
 (hown:W'.ownsRow B 27 3 (.slice Ap' (n'+1) cp') (n'+1) (rowPV p.parcels hs++pcV x (A3,m,c3))) (hg:W.grownBy W' (Value.slice A' n' c').ownBlock) (hf:(⟨p.outer,p.parcels++[x]⟩:Plan).fits):
 PlanOwn B W' A n c Ap' (n'+1) cp' ⟨p.outer,p.parcels++[x]⟩ (hs++[(A3,m,c3)]):=by
 have hkeep:∀ {v:Value} {j:Nat} {xs:List Value},W.ownsRow B 23 2 v j xs→W'.ownsRow B 23 2 v j xs:=fun {v j xs} ho=>by
  refine own_heap ho fun i hi=>hg.block i (ho.lt i hi).2 (fun e=>?_)
  exact own_own_ne h.row ho (by decide) (g:=i) e.symm hi
 have hl:=h.lenp
 have hl2:=h.len
 refine⟨hkeep h.out,?_,by simp[hl2],by simp[hl],fun j hj=>?_,hf⟩
 ·show World.ownsRow _ _ _ _ _ _ (rowPV (p.parcels++[x]) _)
  rw[rowPV_snoc _ _ (by omega)]
  exact hown
 ·by_cases hjn:j<n'
  ·rw[hdAt_snoc_lt (by omega)]
   have e:pcAt (p.parcels++[x]) j=pcAt p.parcels j:=by unfold pcAt;rw[List.getElem?_append_left (by omega)]
   show World.ownsRow _ _ _ _ _ _ (ptsV (pcAt (p.parcels++[x]) j).ring)
   rw[e]
   exact hkeep (h.rings j hjn)
  ·obtain rfl:j=hs.length:=by omega
   rw[hdAt_snoc_eq]
   have e:pcAt (p.parcels++[x]) hs.length=x:=by unfold pcAt;rw[hl2,←hl];simp
   show World.ownsRow _ _ _ _ _ _ (ptsV (pcAt (p.parcels++[x]) hs.length).ring)
   rw[e]
   exact hkeep hnew
theorem fits_perm {o:List Pt} {ps qs:List Parc} (hp:qs.Perm ps) (h:(⟨o,ps⟩:Plan).fits):(⟨o,qs⟩:Plan).fits:=⟨h.1,by show qs.length≤_;rw[hp.length_eq];exact h.2.1,fun x hx=>h.2.2 x (hp.mem_iff.1 hx)⟩
theorem PlanOwn.sorted {B n c n' cp g:Nat} {W W':World} {A:Option Addr} {p:Plan} {hs:List Hd} {d:List PcH} (h:PlanOwn B W A n c (some ⟨g,0,none⟩) n' cp p hs) (hd:d.Perm (p.parcels.zip hs))
 (hown:W'.ownsRow B 27 3 (.slice (some ⟨g,0,none⟩) n' cp) n' (pchV d)) (hg:W.grownBy W' (some g)):PlanOwn B W' A n c (some ⟨g,0,none⟩) n' cp ⟨p.outer,d.map (·.1)⟩ (d.map (·.2)):=by
 have hkeep:∀ {v:Value} {j:Nat} {xs:List Value},W.ownsRow B 23 2 v j xs→W'.ownsRow B 23 2 v j xs:=fun {v j xs} ho=>by
  refine own_heap ho fun i hi=>hg.block i (ho.lt i hi).2 (fun e=>?_)
  exact own_own_ne h.row ho (by decide) (g:=i) e.symm hi
 have hl:=h.lenp
 have hl2:=h.len
 have hdl:d.length=n':=by rw[hd.length_eq,List.length_zip,hl,hl2,Nat.min_self]
 have hmap:(d.map (·.1)).Perm p.parcels:=by
  have:=hd.map (·.1)
  rwa [List.map_fst_zip (by omega)]at this
 refine⟨hkeep h.out,by rw[←pch_rowPV];exact hown,by simp[hdl],by simp[hdl],fun j hj=>?_,fits_perm hmap h.fits⟩
 have hjd:j<d.length:=by omega
 have hm:d[j]∈p.parcels.zip hs:=hd.mem_iff.1 (List.getElem_mem hjd)
 obtain⟨i,hi,he⟩:=List.getElem_of_mem hm
 rw[List.length_zip]at hi
 have hi1:i<p.parcels.length:=by omega
 have hi2:i<hs.length:=by omega
 rw[List.getElem_zip]at he
 have e1:hdAt (d.map (·.2)) j=hdAt hs i:=by
  unfold hdAt
  rw[List.getElem?_map,List.getElem?_eq_getElem hjd,List.getElem?_eq_getElem hi2,←he]
  rfl
 have e2:pcAt (d.map (·.1)) j=pcAt p.parcels i:=by
  unfold pcAt
  rw[List.getElem?_map,List.getElem?_eq_getElem hjd,List.getElem?_eq_getElem hi1,←he]
  rfl
 show World.ownsRow _ _ _ _ _ _ (ptsV (pcAt (d.map (·.1)) j).ring)
 rw[e1,e2]
 exact hkeep (h.rings i (by omega))
theorem PlanOwn.hdC {B n c n' c' k:Nat} {W:World} {A:Option Addr} {ad:Addr} {p:Plan} {hs:List Hd} (h:PlanOwn B W A n c (some ad) n' c' p hs) (hk:k<n'):W.cell? ⟨(ad.add (k*3)).block,(ad.add (k*3)).off+1,none⟩=some (.slice (hdAt hs k).1 (hdAt hs k).2.1 (hdAt hs k).2.2):=by
 obtain⟨ad',e,hb,hc⟩:=(Reads.of_own h.row).2 (by omega)
 cases e
 obtain⟨-,g2,-⟩:=rowPV_at (hs:=hs) (ps:=p.parcels) (by rw[h.len,h.lenp]) (k:=k) (by rw[h.lenp];exact hk)
 rw[add_off3 _ _ _ (by omega)]
 exact hc _ _ g2
theorem PlanOwn.frzC {B n c n' c' k:Nat} {W:World} {A:Option Addr} {ad:Addr} {p:Plan} {hs:List Hd} (h:PlanOwn B W A n c (some ad) n' c' p hs) (hk:k<n'):W.frozen? ⟨(ad.add (k*3)).block,(ad.add (k*3)).off+1,none⟩=false:=by
 obtain⟨g,cap,e,hb,hlt⟩:=h.row.form (by omega)
 have e1:ad=⟨g,0,none⟩:=by cases e;rfl
 have e2:cap=c':=by cases e;rfl
 subst e1 e2
 have hadr:(⟨((⟨g,0,none⟩:Addr).add (k*3)).block,((⟨g,0,none⟩:Addr).add (k*3)).off+1,none⟩:Addr)=⟨g,k*3+1,none⟩:=by rw[add_off3 _ _ _ (by omega)];simp[Addr.add]
 rw[hadr]
 exact h.row.frozenAt _
end Go.Proofs.YtpkeacnacjnlcaaGreat
namespace Go.Proofs.YtpkeacnacjnlcaaGreat
theorem planB_yes {p:Plan} (h:SoundP p):planB p=true:=by unfold planB;simpa using h
end Go.Proofs.YtpkeacnacjnlcaaGreat
