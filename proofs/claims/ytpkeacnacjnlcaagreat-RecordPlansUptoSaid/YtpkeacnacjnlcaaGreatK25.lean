/- record.Plan: what its steps do to the plan that grows. -/
import Derived.Test.YtpkeacnacjnlcaaGreatK23
import Derived.Test.YtpkeacnacjnlcaaGreatK24
namespace Go.Proofs.YtpkeacnacjnlcaaGreat
open Go.RowKit Go.Lib
/-- The plan that has been read so far, in rows that the call made from X on, and in a box. -/
structure RS (X:World) (Bp:Nat) (p:Plan) (W:World) (A:Option Addr) (n c:Nat) (A':Option Addr) (n' c':Nat) (hs:List Hd):Prop where
 own:PlanOwn X.heap.size W A n c A' n' c' p hs
 dist:DistH A hs
 box:PlK W Bp A n c A' n' c'
 bel:Below X.heap.size X W
 at_:X.heap.size≤Bp
theorem RS.on {X W W':World} {Bp n c n' c':Nat} {p:Plan} {A A':Option Addr} {hs:List Hd} (h:RS X Bp p W A n c A' n' c' hs) (hb:Below W.heap.size W W'):RS X Bp p W' A n c A' n' c' hs:=
 ⟨h.own.below hb,h.dist,h.box.on hb,below_on h.bel (Nat.le_refl _) hb,h.at_⟩
theorem RS.outG {X W W':World} {Bp n c n' c' m c3:Nat} {p:Plan} {A A' A3:Option Addr} {hs:List Hd} {ys:List Pt} (h:RS X Bp p W A n c A' n' c' hs) (hg:W.grownBy W' (Value.slice A n c).ownBlock) (hnew:W'.ownsRow X.heap.size 23 2 (.slice A3 m c3) m (ptsV ys))
 (hat:(Value.slice A3 m c3).ownBlock=(Value.slice A n c).ownBlock∨∃g,(Value.slice A3 m c3).ownBlock=some g∧W.heap.size≤g) (hf:(⟨ys,p.parcels⟩:Plan).fits):
 RS X Bp ⟨ys,p.parcels⟩ (W'.setCell ⟨Bp,0,none⟩ (.slice A3 m c3)) A3 m c3 A' n' c' hs:=by
 obtain⟨ho,hd⟩:=h.own.outG h.dist hg hnew hat hf
 have hb:PlK W' Bp A n c A' n' c':=(hg.block Bp (Blk.lt h.box) fun e=>own_blk_ne h.own.out h.box (by decide) e.symm).trans h.box
 have hbl:Below X.heap.size X W':=h.bel.grown hg h.bel.size fun k e=>(h.own.out.lt k e).1
 refine⟨ho.store hb (by decide) (by decide) 0 _,hd,?_,hbl.setCell (p:=⟨Bp,0,none⟩) h.at_ _,h.at_⟩
 have:=Blk.set_ hb 0 (.slice A3 m c3)
 simp only[List.setIfInBounds_toArray,List.set_cons_zero]at this
 exact this
theorem RS.ringG {X W W':World} {Bp n c n' c' m c3 k:Nat} {p:Plan} {A A3:Option Addr} {ad:Addr} {hs:List Hd} {ys:List Pt} (h:RS X Bp p W A n c (some ad) n' c' hs) (hk:k<n') (hg:W.grownBy W' (Value.slice (hdAt hs k).1 (hdAt hs k).2.1 (hdAt hs k).2.2).ownBlock)
 (hnew:W'.ownsRow X.heap.size 23 2 (.slice A3 m c3) m (ptsV ys)) (hat:(Value.slice A3 m c3).ownBlock=(Value.slice (hdAt hs k).1 (hdAt hs k).2.1 (hdAt hs k).2.2).ownBlock∨∃g,(Value.slice A3 m c3).ownBlock=some g∧W.heap.size≤g) (hf:(setR p k ys).fits):
 RS X Bp (setR p k ys) (W'.setCell ⟨(ad.add (k*3)).block,(ad.add (k*3)).off+1,none⟩ (.slice A3 m c3)) A n c (some ad) n' c' (hs.set k (A3,m,c3)):=by
 obtain⟨ho,hd⟩:=h.own.ringG h.dist hk hg hnew hat hf
 have hb:PlK W' Bp A n c (some ad) n' c':=(hg.block Bp (Blk.lt h.box) fun e=>own_blk_ne (h.own.rings k hk) h.box (by decide) e.symm).trans h.box
 have hbl:Below X.heap.size X W':=h.bel.grown hg h.bel.size fun j e=>((h.own.rings k hk).lt j e).1
 have hne:ad.block≠Bp:=fun e=>own_blk_ne h.own.row h.box (by decide) (by rw[←e];rfl)
 have hge:X.heap.size≤ad.block:=(h.own.row.lt ad.block rfl).1
 refine⟨ho,hd,Blk.far hb (by rw[block_of_add];exact fun e=>hne e.symm) _,hbl.setCell (p:=⟨(ad.add (k*3)).block,(ad.add (k*3)).off+1,none⟩) (by simp only[block_of_add];exact hge) _,h.at_⟩
theorem RS.setO {X W:World} {Bp n c n' c' k:Nat} {p:Plan} {A:Option Addr} {ad:Addr} {hs:List Hd} (h:RS X Bp p W A n c (some ad) n' c' hs) (hk:k<n') (o:ByteArray) (hf:(setO p k o).fits):
 RS X Bp (setO p k o) (W.setCell ⟨(ad.add (k*3)).block,(ad.add (k*3)).off+2,none⟩ (.string o)) A n c (some ad) n' c' hs:=by
 have hne:ad.block≠Bp:=fun e=>own_blk_ne h.own.row h.box (by decide) (by rw[←e];rfl)
 have hge:X.heap.size≤ad.block:=(h.own.row.lt ad.block rfl).1
 exact⟨h.own.setOwner hk o hf,h.dist,Blk.far h.box (by rw[block_of_add];exact fun e=>hne e.symm) _,h.bel.setCell (p:=⟨(ad.add (k*3)).block,(ad.add (k*3)).off+2,none⟩) (by simp only[block_of_add];exact hge) _,h.at_⟩
theorem RS.snoc {X W W':World} {Bp n c n' c' cp':Nat} {p:Plan} {A A' Ap':Option Addr} {hs:List Hd} {x:Parc} (h:RS X Bp p W A n c A' n' c' hs) (hx:x.ring=[])
 (hown:W'.ownsRow X.heap.size 27 3 (.slice Ap' (n'+1) cp') (n'+1) (rowPV p.parcels hs++pcV x (none,0,0))) (hg:W.grownBy W' (Value.slice A' n' c').ownBlock) (hf:(⟨p.outer,p.parcels++[x]⟩:Plan).fits):
 RS X Bp ⟨p.outer,p.parcels++[x]⟩ (W'.setCell ⟨Bp,1,none⟩ (.slice Ap' (n'+1) cp')) A n c Ap' (n'+1) cp' (hs++[(none,0,0)]):=by
 have ho:=h.own.snoc (x:=x) (A3:=none) (m:=0) (c3:=0) (by rw[hx];exact World.ownsRow_nil _ _ _ _) hown hg hf
 have hb:PlK W' Bp A n c A' n' c':=(hg.block Bp (Blk.lt h.box) fun e=>own_blk_ne h.own.row h.box (by decide) e.symm).trans h.box
 have hbl:Below X.heap.size X W':=h.bel.grown hg h.bel.size fun k e=>(h.own.row.lt k e).1
 refine⟨ho.store hb (by decide) (by decide) 1 _,?_,?_,hbl.setCell (p:=⟨Bp,1,none⟩) h.at_ _,h.at_⟩
 ·refine h.dist.next (N:=W.heap.size) ⟨fun a ha=>(h.own.out.lt a.block (by rw[ha];rfl)).2,fun j hj b hb'=>((h.own.rings j (by rw[←h.own.len];exact hj)).lt b.block (by rw[hb'];rfl)).2⟩ fun a ha=>by cases ha
 ·have:=Blk.set_ hb 1 (.slice Ap' (n'+1) cp')
  simp only[List.setIfInBounds_toArray,List.set_cons_zero,List.set_cons_succ]at this
  exact this
/-- The sum of the values' lengths. -/
def szL (l:List It):Nat:=(l.map fun x=>x.v.length).sum
theorem szL_take {l:List It} {j:Nat} (h:j<l.length):szL (l.take (j+1))=szL (l.take j)+l[j].v.length:=by
 unfold szL
 rw[List.take_succ_eq_append_getElem h,List.map_append,List.sum_append]
 simp
theorem szL_le (l:List It) (j:Nat):szL (l.take j)≤szL l:=by
 unfold szL
 conv=>rhs;rw[←List.take_append_drop j l]
 rw[List.map_append,List.sum_append]
 omega
theorem szL_perm {l l':List It} (h:l.Perm l'):szL l=szL l':=(h.map _).sum_nat
theorem readP_take {l:List It} {j:Nat} (h:j<l.length):readP (l.take (j+1))=opStep (readP (l.take j)) l[j]:=by
 unfold readP
 rw[List.take_succ_eq_append_getElem h,List.foldl_append]
 rfl
theorem readP_sz (l:List It):∀j,j≤l.length→SzP (readP (l.take j)) j (szL (l.take j))
 |0,_=>szP_nil
 |j+1,h=>by
  rw[readP_take (by omega),szL_take (by omega)]
  exact(readP_sz l j (by omega)).step _
theorem op_out {p:Plan} {x:It} (h1:x.k.length=2) (h2:x.k.getD 0 0=111):opStep p x=⟨p.outer++ptsB x.v,p.parcels⟩:=by unfold opStep;rw[if_pos ⟨h1,h2⟩]
theorem op_pc {p:Plan} {x:It} (h1:x.k.length=6) (h2:x.k.getD 0 0=112):opStep p x=⟨p.outer,pcStep p.parcels (numL ((x.k.drop 1).take 4):Nat) (x.k.getD 5 0) x.v⟩:=by
 unfold opStep
 rw[if_neg (by rw[h1];simp),if_pos ⟨h1,h2⟩]
theorem op_skip {p:Plan} {x:It} (h1:¬(x.k.length=2∧x.k.getD 0 0=111)) (h2:¬(x.k.length=6∧x.k.getD 0 0=112)):opStep p x=p:=by
 unfold opStep
 rw[if_neg h1,if_neg h2]
theorem pcStep_own {p:Plan} {id:Int} {v:List UInt8}:(⟨p.outer,pcStep p.parcels id 0 v⟩:Plan)=setO ⟨p.outer,pcNew p.parcels id⟩ ((pcNew p.parcels id).length-1) ⟨v.toArray⟩:=rfl
theorem pcStep_ring {p:Plan} {id:Int} {c:UInt8} {v:List UInt8} (h:c≠0):(⟨p.outer,pcStep p.parcels id c v⟩:Plan)=setR ⟨p.outer,pcNew p.parcels id⟩ ((pcNew p.parcels id).length-1) ((pcAt (pcNew p.parcels id) ((pcNew p.parcels id).length-1)).ring++ptsB v):=by
 unfold pcStep setR pcMore
 rw[if_neg h]
theorem pcNew_pos (ps:List Parc) (id:Int):1≤(pcNew ps id).length:=by
 unfold pcNew
 split
 ·simp
 ·rename_i hc
  rw[not_or]at hc
  exact List.length_pos_iff.2 hc.1
theorem SzP.new {p:Plan} {j S:Nat} (h:SzP p j S) (id:Int) (hid:inI id):SzP ⟨p.outer,pcNew p.parcels id⟩ (j+1) S:=by
 obtain⟨h1,h2,h3,h4⟩:=h
 refine⟨h1,?_,h3,fun y hy=>?_⟩
 ·show(pcNew p.parcels id).length≤_
  unfold pcNew
  split
  ·simp;omega
  ·omega
 ·have hy':y∈pcNew p.parcels id:=hy
  unfold pcNew at hy'
  split at hy'
  ·rcases List.mem_append.1 hy' with hy'|hy'
   ·exact h4 y hy'
   ·obtain rfl:=List.mem_singleton.1 hy'
    exact⟨Nat.zero_le _,fun _ h=>absurd h (by simp),hid,Nat.zero_le _⟩
  ·exact h4 y hy'
/-- The first byte of a key, as a cell. -/
theorem RdB.byte {W:World} {B:Nat} {h:Hd} {xs:List UInt8} (r:RdB W B h xs) {k:Nat} (hk:k<xs.length):∃ad,h.1=some ad∧W.cell? (ad.add k)=some (.int .u8 ((xs.getD k 0).toNat:Int)):=by
 have hl:=r.1.len8
 obtain⟨ad,u,e,-,hu,hc⟩:=r.1.at_ (k:=k) (by omega)
 refine⟨ad,e,?_⟩
 obtain⟨hj,rfl⟩:=u8s_get hu
 rw[hc,List.getD_eq_getElem?_getD,List.getElem?_eq_getElem hj]
 rfl
theorem pcV_one1 (x:Parc) (h:Hd):∀u∈pcV x h,u.oneCell'=true:=fun u hu=>by
 unfold pcV at hu
 simp only[List.mem_cons,List.not_mem_nil,or_false]at hu
 rcases hu with rfl|rfl|rfl<;>rfl
theorem grown_cell {V V':World} {row:Option Nat} {a:Addr} {v:Value} (hg:V.grownBy V' row) (hl:a.block<V.heap.size) (hn:row≠some a.block) (hc:V.cell? a=some v):V'.cell? a=some v:=
 (World.cell?_of_block (hg.block a.block hl (Ne.symm hn))).trans hc
theorem PlanOwn.facts2 {B n c n' c' k:Nat} {W:World} {A:Option Addr} {ad:Addr} {p:Plan} {hs:List Hd} (h:PlanOwn B W A n c (some ad) n' c' p hs) (hk:k<n'):W.cell? (ad.add (k*3))=some (.int .i64 (pcAt p.parcels k).id)∧W.cell? ⟨(ad.add (k*3)).block,(ad.add (k*3)).off+2,none⟩=some (.string (pcAt p.parcels k).owner)∧W.frozen? ⟨(ad.add (k*3)).block,(ad.add (k*3)).off+2,none⟩=false:=by
 obtain⟨g,cap,e,hb,hlt⟩:=h.row.form (by omega)
 have e1:ad=⟨g,0,none⟩:=by cases e;rfl
 have e2:cap=c':=by cases e;rfl
 subst e1 e2
 obtain⟨ad',e,-,hc⟩:=(Reads.of_own h.row).2 (by omega)
 cases e
 obtain⟨g1,-,g3⟩:=rowPV_at (hs:=hs) (ps:=p.parcels) (by rw[h.len,h.lenp]) (k:=k) (by rw[h.lenp];exact hk)
 have hadr:(⟨((⟨g,0,none⟩:Addr).add (k*3)).block,((⟨g,0,none⟩:Addr).add (k*3)).off+2,none⟩:Addr)=⟨g,k*3+2,none⟩:=by rw[add_off3 _ _ _ (by omega)];simp[Addr.add]
 have hadr2:(⟨g,0,none⟩:Addr).add (k*3+2)=⟨g,k*3+2,none⟩:=by simp[Addr.add]
 rw[hadr]
 exact⟨hc _ _ g1,by rw[←hadr2];exact hc _ _ g3,h.row.frozenAt _⟩
end Go.Proofs.YtpkeacnacjnlcaaGreat
