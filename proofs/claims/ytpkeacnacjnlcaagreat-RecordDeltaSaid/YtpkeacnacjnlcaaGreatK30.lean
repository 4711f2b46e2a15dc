/- Plain law: two stretches with a point within both have more in common than one end. Rotations of a ring without repetition; bend.begin, bend.done, bend.Mark: the walks; slices.SortFunc of rows of bytes by bytes.Compare, laid off the shelf. -/
import Derived.Shelf.SlSortCmp.Whole1
import Derived.Shelf.SlSortCmp.NoneTotal
import Derived.Test.YtpkeacnacjnlcaaGreatK13
import Derived.Test.YtpkeacnacjnlcaaGreatK14
import Derived.Test.YtpkeacnacjnlcaaGreatK15
import Derived.Test.YtpkeacnacjnlcaaGreatK16
import Derived.Test.YtpkeacnacjnlcaaGreatK20
import Derived.Test.YtpkeacnacjnlcaaGreatK27
namespace Go.Proofs.YtpkeacnacjnlcaaGreat
/-- A point within a stretch: on it, and neither of its ends. -/
def inS (a b q:Pt):Prop:=onB a b q=true∧q≠a∧q≠b
theorem inS.swap {a b q:Pt} (h:inS a b q):inS b a q:=⟨by rw[onB_swap];exact h.1,h.2.2,h.2.1⟩
theorem ring_ext {xs ys:List Pt} (hl:xs.length=ys.length) (h:∀i,i<xs.length→ptAt xs i=ptAt ys i):xs=ys:=by
 refine List.ext_getElem hl fun i h1 h2=>?_
 rw[←ptAt_lt h1,←ptAt_lt h2]
 exact h i h1
theorem nodup_ptAt {xs:List Pt} (hn:xs.Nodup) {i j:Nat} (hi:i<xs.length) (hj:j<xs.length) (h:ptAt xs i=ptAt xs j):i=j:=by
 rw[ptAt_lt hi,ptAt_lt hj]at h
 exact(List.getElem_inj hn).1 h
theorem rot_nodup {xs:List Pt} (j:Nat) (hn:xs.Nodup):(rot j xs).Nodup:=by
 unfold rot
 have:(xs.drop j++xs.take j).Perm xs:=by
  have h:=List.perm_append_comm (l₁:=xs.drop j) (l₂:=xs.take j)
  rw[List.take_append_drop]at h
  exact h
 exact this.nodup_iff.2 hn
theorem rot_rot {xs:List Pt} {j k:Nat} (hj:j<xs.length) (hk:k<xs.length):rot k (rot j xs)=rot ((j+k)%xs.length) xs:=by
 have hl:=rot_len (k:=j) (xs:=xs) (by omega)
 have hm:(j+k)%xs.length<xs.length:=Nat.mod_lt _ (by omega)
 have hl2:=rot_len (k:=k) (xs:=rot j xs) (by omega)
 refine ring_ext (by rw[hl2,hl,rot_len (by omega)]) fun i hi=>?_
 rw[hl2,hl]at hi
 rw[ptAt_rot (by omega) (by omega),hl,ptAt_rot hj (Nat.mod_lt _ (by omega)),ptAt_rot hm hi]
 congr 1
 rw[Nat.add_mod_mod,Nat.mod_add_mod,Nat.add_assoc]
theorem ord_eq {a b:Pt} (h1:¬ordI a b<0) (h2:¬ordI b a<0):a=b:=by
 obtain⟨ax,ay⟩:=a
 obtain⟨bx,bb⟩:=b
 rw[ordI_neg]at h1 h2
 simp only[Pt.mk.injEq]
 simp only at h1 h2
 omega
/-- A ring without repetition that is begun elsewhere is begun at the same least corner. -/
theorem lst_rot {xs:List Pt} (hn:xs.Nodup) {j:Nat} (hj:j<xs.length):lst (rot j xs)=lst xs:=by
 have hl:=rot_len (k:=j) (xs:=xs) (by omega)
 unfold lst
 rw[hl]
 have h1:=(leastN_first xs xs.length).1
 have h2:=(leastN_first (rot j xs) xs.length).1
 have k1:=leastN_lt xs (m:=xs.length) (by omega)
 have k2:=leastN_lt (rot j xs) (m:=xs.length) (by omega)
 generalize leastN xs xs.length=a at *
 generalize leastN (rot j xs) xs.length=b at *
 rw[rot_rot hj k2]
 have hm:(j+b)%xs.length<xs.length:=Nat.mod_lt _ (by omega)
 have e1:ptAt (rot j xs) b=ptAt xs ((j+b)%xs.length):=ptAt_rot hj k2
 have hc:(j+b)%xs.length=a:=by
  refine nodup_ptAt hn hm k1 (ord_eq ?_ ?_)
  ·exact h1 _ hm
  ·have h3:=h2 ((a+(xs.length-j))%xs.length) (Nat.mod_lt _ (by omega))
   rw[e1,ptAt_rot hj (Nat.mod_lt _ (by omega)),Nat.add_mod_mod,show j+(a+(xs.length-j))=a+xs.length by omega,Nat.add_mod_right,Nat.mod_eq_of_lt k1]at h3
   exact h3
 rw[hc]
end Go.Proofs.YtpkeacnacjnlcaaGreat
namespace Go.Proofs.YtpkeacnacjnlcaaGreat
open Go.RowKit Go.Lib
theorem res_store {w W:World} {g:Nat} {a b:Value} (hb:Below w.heap.size w W) (hg:w.heap.size≤g) (hk:Blk W g 30 #[a,b]) (u v:Value):
 ∃V,V=(W.setCell ⟨g,0,none⟩ u).setCell ⟨g,1,none⟩ v∧V.cell? ⟨g,0,none⟩=some u∧V.cell? ⟨g,1,none⟩=some v∧Below w.heap.size w V:=by
 have hK:=Blk.set_ (Blk.set_ hk 0 u) 1 v
 exact⟨_,rfl,by rw[Blk.cell hK 0];rfl,by rw[Blk.cell hK 1];rfl,(hb.setCell (p:=⟨g,0,none⟩) hg u).setCell (p:=⟨g,1,none⟩) hg v⟩
theorem plk_facts4 {W:World} {g:Nat} {a b:Value} (hk:Blk W g 30 #[a,b]):W.cell? ⟨g,0,none⟩=some a∧W.cell? ⟨g,1,none⟩=some b∧W.frozen? ⟨g,0,none⟩=false∧W.frozen? ⟨g,1,none⟩=false:=⟨Blk.cell hk 0,Blk.cell hk 1,Blk.frozen hk 0,Blk.frozen hk 1⟩
theorem planOwn_nil (B:Nat) (W:World):PlanOwn B W none 0 0 none 0 0 ⟨[],[]⟩ []:=⟨World.ownsRow_nil _ _ _ _,World.ownsRow_nil _ _ _ _,rfl,rfl,fun j hj=>absurd hj (Nat.not_lt_zero _),⟨⟨by simp,by simp⟩,by simp,by simp⟩⟩
end Go.Proofs.YtpkeacnacjnlcaaGreat
namespace Go.Proofs.YtpkeacnacjnlcaaGreat
open Go.Shelf
def sortBs_ren:Go.Shelf.Ren:=⟨fun|6=>45|15=>85|14=>86|28=>130|29=>131|20=>132|21=>133|22=>134|23=>135|24=>136|25=>137|26=>138|27=>139|46=>172|47=>168|48=>169|49=>173|50=>174|57=>193|n=>n,fun|22=>44|24=>50|25=>87|3=>3|39=>127|0=>0|53=>121|55=>35|4=>4|46=>166|45=>165|50=>170|5=>5|9=>9|66=>198|70=>202|76=>217|77=>218|n=>n,fun|n=>n⟩
theorem sortBs:Go.Proofs.SlLaysF.n6 Tryz.prog sortBs_ren:={
 mixed:=by kernel_rfl
 f6:=⟨Tryz.f45.name,by decide,Tryz.func45.trans (congrArg some (by kernel_rfl))⟩
 f14:=⟨Tryz.f86.name,by decide,Tryz.func86.trans (congrArg some (by kernel_rfl))⟩
 f15:=Tryz.func85.trans (congrArg some (by kernel_rfl))
 f20:=⟨Tryz.f132.name,by decide,Tryz.func132.trans (congrArg some (by kernel_rfl))⟩
 f21:=⟨Tryz.f133.name,by decide,Tryz.func133.trans (congrArg some (by kernel_rfl))⟩
 f22:=⟨Tryz.f134.name,by decide,Tryz.func134.trans (congrArg some (by kernel_rfl))⟩
 f23:=⟨Tryz.f135.name,by decide,Tryz.func135.trans (congrArg some (by kernel_rfl))⟩
 f24:=⟨Tryz.f136.name,by decide,Tryz.func136.trans (congrArg some (by kernel_rfl))⟩
 f25:=⟨Tryz.f137.name,by decide,Tryz.func137.trans (congrArg some (by kernel_rfl))⟩
 f26:=⟨Tryz.f138.name,by decide,Tryz.func138.trans (congrArg some (by kernel_rfl))⟩
 f27:=⟨Tryz.f139.name,by decide,Tryz.func139.trans (congrArg some (by kernel_rfl))⟩
 f28:=Tryz.func130.trans (congrArg some (by kernel_rfl))
 f29:=Tryz.func131.trans (congrArg some (by kernel_rfl))
 f46:=⟨Tryz.f172.name,by decide,Tryz.func172.trans (congrArg some (by kernel_rfl))⟩
 f47:=Tryz.func168.trans (congrArg some (by kernel_rfl))
 f48:=Tryz.func169.trans (congrArg some (by kernel_rfl))
 f49:=⟨Tryz.f173.name,by decide,Tryz.func173.trans (congrArg some (by kernel_rfl))⟩
 f50:=⟨Tryz.f174.name,by decide,Tryz.func174.trans (congrArg some (by kernel_rfl))⟩
 f57:=⟨Tryz.f193.name,by decide,Tryz.func193.trans (congrArg some (by kernel_rfl))⟩
 t0:=Tryz.underlying0
 a0:=Tryz.isAgg0
 z0:=Tryz.sizeOf0
 v0:=Tryz.zeroValue0
 t3:=Tryz.underlying3
 a3:=Tryz.isAgg3
 z3:=Tryz.sizeOf3
 v3:=Tryz.zeroValue3
 t4:=Tryz.underlying4
 a4:=Tryz.isAgg4
 z4:=Tryz.sizeOf4
 v4:=Tryz.zeroValue4
 t5:=Tryz.underlying5
 a5:=Tryz.isAgg5
 z5:=Tryz.sizeOf5
 v5:=Tryz.zeroValue5
 t9:=Tryz.underlying9
 a9:=Tryz.isAgg9
 z9:=Tryz.sizeOf9
 v9:=Tryz.zeroValue9
 t22:=Tryz.underlying44
 a22:=Tryz.isAgg44
 z22:=Tryz.sizeOf44
 v22:=Tryz.zeroValue44
 a24:=Tryz.isAgg50
 z24:=Tryz.sizeOf50
 t25:=Tryz.underlying87
 a25:=Tryz.isAgg87
 z25:=Tryz.sizeOf87
 v25:=Tryz.zeroValue87
 t39:=Tryz.underlying127
 a39:=Tryz.isAgg127
 z39:=Tryz.sizeOf127
 v39:=Tryz.zeroValue127
 t45:=Tryz.underlying165
 a45:=Tryz.isAgg165
 z45:=Tryz.sizeOf165
 v45:=Tryz.zeroValue165
 t46:=Tryz.underlying166
 a46:=Tryz.isAgg166
 z46:=Tryz.sizeOf166
 v46:=Tryz.zeroValue166
 t50:=Tryz.underlying170
 a50:=Tryz.isAgg170
 z50:=Tryz.sizeOf170
 v50:=Tryz.zeroValue170
 t53:=Tryz.underlying121
 a53:=Tryz.isAgg121
 z53:=Tryz.sizeOf121
 v53:=Tryz.zeroValue121
 t55:=Tryz.underlying35
 a55:=Tryz.isAgg35
 z55:=Tryz.sizeOf35
 v55:=Tryz.zeroValue35
 t66:=Tryz.underlying198
 a66:=Tryz.isAgg198
 z66:=Tryz.sizeOf198
 v66:=Tryz.zeroValue198
 t70:=Tryz.underlying202
 a70:=Tryz.isAgg202
 z70:=Tryz.sizeOf202
 v70:=Tryz.zeroValue202
 t76:=Tryz.underlying217
 a76:=Tryz.isAgg217
 z76:=Tryz.sizeOf217
 v76:=Tryz.zeroValue217
 t77:=Tryz.underlying218
 a77:=Tryz.isAgg218
 z77:=Tryz.sizeOf218
 v77:=Tryz.zeroValue218 }
end Go.Proofs.YtpkeacnacjnlcaaGreat
namespace Go.Proofs.YtpkeacnacjnlcaaGreat
open Go.RowKit Go.Shelf Go.Sort Go.Lib
/-- Bytes, and where they lie. -/
abbrev BsH:=List UInt8×Hd
def bsV (l:List BsH):List Value:=l.map fun e=>hdV e.2
theorem bsV_one (l:List BsH):∀u∈bsV l,u.oneCell'=true:=by
 intro u hu
 obtain⟨e,-,rfl⟩:=List.mem_map.1 hu
 rfl
/-- Bytes that lie elsewhere than in block g. -/
def BOff (w:World) (g:Nat) (e:BsH):Prop:=Reads w w.heap.size 1 e.2.1 e.2.2.1 (u8s e.1)∧∀a,e.2.1=some a→a.block≠g
abbrev KBs (w:World) (g:Nat):={e:BsH // BOff w g e}
instance (w:World) (g:Nat):Inhabited (KBs w g):=⟨⟨([],(none,0,0)),⟨Reads.none_,fun a e=>by cases e⟩⟩⟩
def encKB {w:World} {g:Nat} (e:KBs w g):Value:=hdV e.1.2
theorem kbV_eq {w:World} {g:Nat} (l:List (KBs w g)):l.map encKB=bsV (l.map (·.1)):=by unfold bsV;rw[List.map_map];rfl
theorem holdsB_own {w0:World} {g0:Nat} {w:World} {base:Nat} {t:TypeId} {g n cap:Nat} {d:List (KBs w0 g0)} (h:w.ownsRow base t 1 (.slice (some ⟨g,0,none⟩) n cap) n (d.map encKB)):Holds encKB w g 0 d.toArray:=fun j hj=>by
 have hl:d.length=n:=by have:=h.1;simpa using this
 have hj':j<d.length:=by simpa using hj
 refine⟨?_,?_⟩
 ·rw[Nat.zero_add,h.cellAt j (by omega)]
  simp[hj']
 ·rw[Nat.zero_add]
  exact h.frozenAt j
theorem grownBy_sortB {w0:World} {g0:Nat} {w:World} {g n:Nat} {os:Array Obj} (d:Array (KBs w0 g0)):w.grownBy (sortWorld encKB w g 0 n d os) (some g):=by
 refine⟨rfl,rfl,rfl,by simp[sortWorld,putRow,mapBlock,grow,Sort.ahead],fun k hk hne=>?_⟩
 unfold sortWorld
 rw[heap_grow_old _ _ (by simpa[putRow,mapBlock,Sort.ahead]using hk)]
 have:g≠k:=fun e=>hne (by rw[e])
 simp[putRow,mapBlock,Sort.ahead,Array.getElem?_modify,this]
theorem own_sortB {w0:World} {g0:Nat} {w:World} {base:Nat} {t:TypeId} {g n cap m:Nat} {d:List (KBs w0 g0)} {d':Array (KBs w0 g0)} {os:Array Obj} (h:w.ownsRow base t 1 (.slice (some ⟨g,0,none⟩) n cap) n (d.map encKB)) (hs:d'.size=n):
 (sortWorld encKB w g 0 m d' os).ownsRow base t 1 (.slice (some ⟨g,0,none⟩) n cap) n (d'.toList.map encKB):=by
 rcases h.2 with ⟨h0,-⟩|⟨g',cap',cur,he,hb,hg,hnc,hcm,hcs,htk⟩
 ·cases h0
 ·cases he
  have hlt:g<w.heap.size:=(Array.getElem?_eq_some_iff.1 hg).1
  refine⟨by simp[hs],.inr ⟨g,cap,putCells encKB 0 d' cur,rfl,hb,?_,hnc,hcm,by simp[putCells,hcs],?_⟩⟩
  ·unfold sortWorld
   rw[heap_grow_old _ _ (by simpa[putRow,mapBlock,Sort.ahead]using hlt)]
   simp[putRow,mapBlock,Sort.ahead,Array.getElem?_modify,hg,onCells]
  ·apply List.ext_getElem?
   intro j
   by_cases hj:j<n
   ·rw[List.getElem?_take_of_lt (by omega),Array.getElem?_toList]
    simp[putCells,hs,hj,show j<cur.size by omega]
   ·rw[List.getElem?_take_eq_none (by omega),List.getElem?_eq_none (by simp;omega)]
theorem perm_listB {w0:World} {g0:Nat} {d:List (KBs w0 g0)} {d':Array (KBs w0 g0)} (h:PermIn 0 d.toArray.size d.toArray d'):d'.toList.Perm d∧d'.size=d.length:=by
 obtain⟨h1,-,h2⟩:=h
 refine⟨?_,by simpa using h1⟩
 rw[←h1,Array.extract_size,h1,Array.extract_size]at h2
 simpa using h2
theorem cmpBs_swo {w:World} {g:Nat}:SWO (ltOf (fun e f:KBs w g=>compareBytes e.1.1 f.1.1)) where
 irrefl x:=by
  show decide (compareBytes x.1.1 x.1.1<0)=false
  rw[cb_self];decide
 trans x y z h1 h2:=by
  unfold ltOf at *
  rw[decide_eq_true_iff]at *
  exact cb_trans h1 h2
 ntrans x y z h1 h2:=by
  unfold ltOf at *
  rw[decide_eq_false_iff_not]at *
  intro h
  by_cases e:ltK y.1.1 x.1.1
  ·exact h2 (by
    have h3:¬ltK y.1.1 z.1.1:=h2
    exact absurd (ltK_trans e h) h3)
  ·have:x.1.1=y.1.1:=ltK_total h1 e
   exact h2 (by show compareBytes y.1.1 z.1.1<0;rw[←this];exact h)
theorem cmpBs_lays (w:World) (g size:Nat):CmpLays1 Tryz.prog 46 #[] (encKB (w:=w) (g:=g)) (fun e f=>compareBytes e.1.1 f.1.1) g 0 size w:=fun m os dk _ x y=>by
 have hg:=grownBy_sortB (w0:=w) (g0:=g) (w:=w) (g:=g) (n:=m) (os:=os) dk
 have hr:∀e:KBs w g,Reads (sortWorld encKB w g 0 m dk os) w.heap.size 1 e.1.2.1 e.1.2.2.1 (u8s e.1.1):=fun e=>by
  obtain⟨h1,h2⟩:=e.2
  refine⟨h1.1,fun h0=>?_⟩
  obtain⟨ad,e1,hb,hc⟩:=h1.2 h0
  refine⟨ad,e1,hb,fun k u hu=>?_⟩
  rw[←hc k u hu]
  exact World.cell?_of_block (by rw[block_of_add];exact hg.block _ hb (fun e'=>h2 ad e1 (by cases e';rfl)))
 have h:=compare8_any x.1.1 y.1.1 x.1.2.1 y.1.2.1 x.1.2.2.1 x.1.2.2.2 y.1.2.2.1 y.1.2.2.2 _ _ _ (hr x) (hr y)
 refine h.mono ?_
 rintro e w' ⟨he,rfl⟩
 exact⟨he,0,#[],by rw[grow_empty];rfl⟩
/-- Rows of bytes of the call's own. -/
def BsOwn (base:Nat) (W:World) (A:Option Addr) (n c:Nat) (d:List BsH):Prop:=W.ownsRow base 50 1 (.slice A n c) n (bsV d)∧∀e∈d,NewB base W e.2 e.1
theorem BsOwn.below {base:Nat} {W W':World} {A:Option Addr} {n c:Nat} {d:List BsH} (h:BsOwn base W A n c d) (hb:Below W.heap.size W W'):BsOwn base W' A n c d:=
 ⟨own_below h.1 hb,fun e he=>(h.2 e he).below hb⟩
theorem BsOwn.mono {base base':Nat} {W:World} {A:Option Addr} {n c:Nat} {d:List BsH} (h:BsOwn base W A n c d) (hb:base'≤base):BsOwn base' W A n c d:=
 ⟨own_mono h.1 hb,fun e he=>(h.2 e he).mono hb⟩
theorem BsOwn.len {base:Nat} {W:World} {A:Option Addr} {n c:Nat} {d:List BsH} (h:BsOwn base W A n c d):d.length=n:=by
 have:=h.1.1
 unfold bsV at this
 simpa using this
theorem bsOwn_nil (base:Nat) (W:World):BsOwn base W none 0 0 []:=⟨World.ownsRow_nil _ _ _ _,fun _ h=>absurd h (by simp)⟩
/-- Rows of bytes, sorted. -/
theorem sortBs_any (d:List BsH) (A:Option Addr) (n cap base:Nat) (w:World) (h:BsOwn base w A n cap d) (hn:n≤1048576):
 Calls Tryz.prog 45 #[.slice A n cap,.func (.func 46) #[] #[]] w fun e w'=>e= .returned (.tuple #[])∧∃d':List BsH,d'.Perm d∧d'.Pairwise (fun e f=>¬ltK f.1 e.1)∧BsOwn base w' A n cap d'∧w.grownBy w' (Value.slice A n cap).ownBlock:=by
 rcases Nat.eq_zero_or_pos n with h0|h0
 ·subst h0
  obtain rfl:d=[]:=List.eq_nil_of_length_eq_zero h.len
  have hcon:=AnyF.slices_SortFunc_none (P:=Tryz.prog) { sortBs with } A cap (.func (.func 46) #[] #[]) w
  change Calls Tryz.prog 45 _ _ _ at hcon
  refine hcon.mono ?_
  rintro e w' ⟨he,rfl⟩
  exact⟨he,[],.refl _,.nil,h,World.grownBy.refl _ _⟩
 obtain⟨g,c',e1,-,-⟩:=h.1.form (by omega)
 obtain⟨rfl,rfl⟩:A=some ⟨g,0,none⟩∧cap=c':=by injection e1 with e1 e2 e3;exact⟨e1,e3⟩
 have hk:∀e∈d,BOff w g e:=fun e he=>⟨(h.2 e he).1,fun a ha e'=>by
  obtain⟨-,cs,fr,hb⟩:=(h.2 e he).2.2 a ha
  rw[e']at hb
  exact own_ne_cells h.1 hb (by decide) rfl⟩
 have hown:=h.1
 obtain⟨dk,hdk⟩:∃dk:List (KBs w g),dk.map (·.1)=d:=⟨d.attach.map fun x=>⟨x.1,hk x.1 x.2⟩,by rw[List.map_map];exact List.attach_map_subtype_val d⟩
 rw[←hdk,←kbV_eq]at hown
 have hl:dk.length=n:=by have h:=hown.1;simpa using h
 have hg:g<w.heap.size:=(hown.lt g rfl).2
 have hH:=holdsB_own hown
 have eg:∀args w,(callFunc 46 args).run Tryz.prog w= .ok (.enter 46 args) w:=enters_of Tryz.func46 (by kernel_rfl) rfl
 have hcon:=Any.slices_SortFunc sortBs (encKB (w:=w) (g:=g)) (fun _=>rfl) (fun e f=>compareBytes e.1.1 f.1.1) cmpBs_swo 46 #[] g 0 cap dk.toArray w eg (cmpBs_lays w g dk.toArray.size) hH hg (by simp;omega)
 change Calls Tryz.prog 45 _ _ _ at hcon
 rw[List.size_toArray,hl]at hcon
 refine hcon.mono ?_
 rintro e w' ⟨he,d',m,os,hp,hsd,rfl⟩
 rw[←hl,←List.size_toArray]at hp hsd
 obtain⟨h1,h2⟩:=perm_listB hp
 have ho:=own_sortB (m:=m) (os:=os) hown (d':=d') (by rw[h2,hl])
 rw[kbV_eq]at ho
 have hG:=grownBy_sortB (w0:=w) (g0:=g) (w:=w) (g:=g) (n:=m) (os:=os) d'
 have hpm:(d'.toList.map (·.1)).Perm d:=by rw[←hdk];exact h1.map _
 refine⟨he,d'.toList.map (·.1),hpm,?_,⟨ho,fun x hx=>(h.2 x (hpm.mem_iff.1 hx)).heap hG.size fun q _ _ hb=>hG.block q (Array.getElem?_eq_some_iff.1 hb).1 (own_ne_cells h.1 hb (by decide))⟩,hG⟩
 rw[List.pairwise_map,List.pairwise_iff_getElem]
 intro i j hi hj hij
 have:=hsd i j (Nat.zero_le _) hij (by simpa[h2]using hj)
 unfold ltOf at this
 rw[decide_eq_false_iff_not]at this
 rw[getElem!_pos d' j (by simpa using hj),getElem!_pos d' i (by simpa using hi)]at this
 unfold ltK
 simpa using this
end Go.Proofs.YtpkeacnacjnlcaaGreat
