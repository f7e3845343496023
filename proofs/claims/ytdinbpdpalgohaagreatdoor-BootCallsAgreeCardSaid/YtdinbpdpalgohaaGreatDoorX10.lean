/- Walks and laws: LD RA RB RO RD RE RC. Conditions: those that each theorem names. -/
import Derived.Deep.AppendLies
import Derived.Test.YtdinbpdpalgohaaGreatDoorX6
import Derived.Test.YtdinbpdpalgohaaGreatDoorX2
set_option maxHeartbeats 8000000
set_option maxRecDepth 100000
namespace Go.Proofs.YtdinbpdpalgohaaGreatDoor
open Go.RowKit
def VS (w:World)(a:Option Addr)(cap:Nat)(V:Vars):Prop:=
 V.length<=cap/\cap<=maxLen/\(V≠[]->∃g,a=some ⟨g,0,none⟩/\g<w.heap.size/\∀j,j<V.length->w.cell? ⟨g,j*2,none⟩=some (str (V.getD j ([],[])).1)/\w.cell? ⟨g,j*2+1,none⟩=some (str (V.getD j ([],[])).2))
theorem VS.ch {C:Nat->Prop}{w w':World}{a:Option Addr}{cap:Nat}{V:Vars}(h:VS w a cap V)(c:Ch C w w')(hC:∀g,a=some ⟨g,0,none⟩->¬C g):VS w' a cap V:=
 ⟨h.1,h.2.1,λhne=>by
  obtain⟨g,e,hg,hc⟩:=h.2.2 hne
  exact⟨g,e,Nat.lt_of_lt_of_le hg c.size,λj hj=>⟨(c.cell ⟨g,j*2,none⟩ hg (hC g e)).trans (hc j hj).1,(c.cell ⟨g,j*2+1,none⟩ hg (hC g e)).trans (hc j hj).2⟩⟩⟩
theorem VS.below {w w':World}{a:Option Addr}{cap:Nat}{V:Vars}(h:VS w a cap V)(c:Below w.heap.size w w'):VS w' a cap V:=h.ch (Ch.of_below c (λ_=>False)) (λ_ _ h=>h)
theorem getV_first {V:Vars}{k:Str}{i:Nat}(hi:i<V.length)(h:∀j,j<i->(V.getD j ([],[])).1≠k)(e:(V.getD i ([],[])).1=k):getV V k=some (V.getD i ([],[])).2:=by
 induction V generalizing i with
 | nil=>cases hi
 | cons p r ih=>
  cases i with
  | zero=>
   simp at e
   simp[getV,e]
  | succ i=>
   have h0:=h 0 (by omega)
   simp at h0
   have hb:(p.1==k)=false:=by simpa using h0
   have:=ih (i:=i) (by simpa using hi) (λj hj=>by have:=h (j+1) (by omega);simpa using this) (by simpa using e)
   simpa[getV,hb] using this
theorem getV_no {V:Vars}{k:Str}(h:∀j,j<V.length->(V.getD j ([],[])).1≠k):getV V k=none:=by
 unfold getV
 rw[Option.map_eq_none_iff,List.find?_eq_none]
 intro p hp
 obtain⟨j,hj,rfl⟩:=List.getElem_of_mem hp
 have:=h j hj
 rw[List.getD_eq_getElem?_getD,List.getElem?_eq_getElem hj] at this
 simpa using this
theorem delV_same {V:Vars}{k:Str}(h:∀p∈V,k<p.1):delV V k=V:=by
 unfold delV
 rw[List.filter_eq_self]
 intro p hp
 have:=h p hp
 have hne:(p.1==k)=false:=by
  rw[beq_eq_false_iff_ne]
  intro e
  rw[e] at this
  exact List.lt_irrefl _ this
 rw[hne];rfl
theorem Tryz.infoV:(Tryz.prog.info? 216).map (λi=>(i.zero,i.size,i.bytes))=some (some (.agg #[.string ⟨#[]⟩,.string ⟨#[]⟩]),2,32):=by kernel_rfl
def vcf (p:Str×Str):List Value:=[str p.1,str p.2]
structure OV (w wr:World)(v:Value)(E:Vars):Prop where
 row:wr.ownsRow 0 216 2 v E.length (E.flatMap vcf)
 new:∀g,v.ownBlock=some g->w.heap.size<=g
 bel:Below w.heap.size w wr
theorem vcf_get:∀(E:Vars) (j:Nat),j<E.length->(E.flatMap vcf)[j*2]? = some (str (E.getD j ([],[])).1)/\(E.flatMap vcf)[j*2+1]? = some (str (E.getD j ([],[])).2)
 | [],j,h=>by cases h
 | p::r,0,_=>⟨rfl,rfl⟩
 | p::r,j+1,h=>by
  have ih:=vcf_get r j (by simpa using h)
  have e:((p::r).flatMap vcf)=str p.1::str p.2::r.flatMap vcf:=rfl
  rw[e,show(j+1)*2=j*2+1+1 by omega,show j*2+1+1+1=(j*2+1)+1+1 by omega]
  simpa using ih
theorem OV.vs {w wr:World}{v:Value}{E:Vars}(h:OV w wr v E)(hne:E≠[]):∃g cap,v=.slice (some ⟨g,0,none⟩) E.length cap/\VS wr (some ⟨g,0,none⟩) cap E/\w.heap.size<=g:=by
 obtain⟨hrow,hnew,_⟩:=h
 obtain⟨hl,h1|⟨g,cap,cur,rfl,hbg,hh,hn1,hm1,hsz1,ht⟩⟩:=hrow
 ·exact absurd (List.eq_nil_of_length_eq_zero h1.2) hne
 ·refine⟨g,cap,rfl,⟨hn1,hm1,λ_=>⟨g,rfl,heap_lt hh,λj hj=>?_⟩⟩,hnew g rfl⟩
  have hk:=vcf_get E j hj
  have hget:∀q,q<E.length*2->wr.cell? ⟨g,q,none⟩=(E.flatMap vcf)[q]? := λq hq=>by
   rw[cell_of_row wr g q cur _ (0,0) hh,<-ht,List.getElem?_take_of_lt hq,Array.getElem?_toList]
  rw[hget _ (by omega),hget _ (by omega)]
  exact hk
theorem OV.take {w wr w3:World}{v:Value}{E:Vars}{p:Str×Str}{g cap:Nat}(h:OV w wr v E){o:Obj}
  (ho:w3.ownsRow 0 216 2 (.slice (some ⟨g,0,none⟩) (E.length+1) cap) (E.length+1) (E.flatMap vcf++vcf p)) (hg3:(wr.alloc o).grownBy w3 v.ownBlock) (hat:v.ownBlock=some g\/g=wr.heap.size+1) :
  OV w w3 (.slice (some ⟨g,0,none⟩) (E.length+1) cap) (E++[p]):=by
 have a:=h.bel
 refine⟨?_,λk hk=>?_,Below.grown (a.alloc a.size _) hg3 (by have:=a.size;simp;omega) (λk hk=>h.new k hk)⟩
 ·rw[List.length_append,List.flatMap_append];exact ho
 ·have e:g=k:=by simpa[Value.ownBlock] using hk
  subst e
  rcases hat with h1|h1
  ·exact h.new g h1
  ·have:=a.size;omega
theorem OV.below {w wr w':World}{v:Value}{E:Vars}(h:OV w wr v E)(b:Below wr.heap.size wr w'):OV w w' v E:=by
 obtain⟨⟨hl,hrow⟩,hn,hb⟩:=h
 refine⟨⟨hl,?_⟩,hn,hb.trans (b.mono hb.size)⟩
 rcases hrow with h1|⟨g,cap,cur,rfl,hbg,hh,r⟩
 ·exact .inl h1
 ·exact .inr ⟨g,cap,cur,rfl,hbg,(b.block g (heap_lt hh)).trans hh,r⟩
theorem delV_take {V:Vars}{k:Nat}(n:Str)(h:k<V.length):delV (V.take (k+1)) n=if (V.getD k ([],[])).1=n then delV (V.take k) n else delV (V.take k) n++[V.getD k ([],[])]:=by
 have e:V.getD k ([],[])=V[k]:=by rw[List.getD_eq_getElem?_getD,List.getElem?_eq_getElem h];rfl
 unfold delV
 rw[List.take_succ_eq_append_getElem h,List.filter_append,e]
 by_cases hc:V[k].1=n
 ·have hb:(V[k].1==n)=true:=by simpa using hc
  rw[if_pos hc,List.filter_cons,hb];simp
 ·have hb:(V[k].1==n)=false:=by simpa using hc
  rw[if_neg hc,List.filter_cons,hb];simp
theorem vcf_one (p:Str×Str):∀u∈vcf p,u.oneCell'=true:=λu hu=>by
 rcases List.mem_cons.1 hu with e|hu
 ·rw[e];rfl
 ·rw[List.mem_singleton.1 hu];rfl
theorem OV.push {w wr:World}{v:Value}{E:Vars}(h:OV w wr v E)(ke ve:ByteArray) :
  (∀j u,(vcf (ke.data.toList,ve.data.toList))[j]? = some u->(wr.alloc (.cells #[.string ke,.string ve] 216)).cell? ((⟨wr.heap.size,0,none⟩:Addr).add j)=some u) /\
  (wr.alloc (.cells #[.string ke,.string ve] 216)).ownsRow 0 216 2 v E.length (E.flatMap vcf):=by
 refine⟨λj u hj=>?_,(h.below ((Below.refl _ wr).alloc (Nat.le_refl _) _)).row⟩
 match j,hj with
 | 0,hj=>injection hj with hj;rw[<-hj];exact cell_of_row _ _ 0 _ _ (0,0) (heap_alloc_new wr _)
 | 1,hj=>injection hj with hj;rw[<-hj];exact cell_of_row _ _ 1 _ _ (0,0) (heap_alloc_new wr _)
section
def planF (fl:FL):Int:=if fl.cut=true then fl.left else -1
structure RLay where
 pb:Nat
 pc:Nat
 nb:Nat
 nc:Nat
 g:Nat->Nat
 cp:Nat->Nat
def rfc (fl:FL)(y:RLay)(j:Nat):Value:=if j=0 then .int .i64 fl.B else if j=1 then .int .i64 fl.P else if j=2 then .int .i64 fl.E else if j=3 then .slice (some ⟨y.pb,0,none⟩) fl.B y.pc else if j=4 then .slice (some ⟨y.nb,0,none⟩) fl.B y.nc else if j=5 then .bool fl.off else if j=6 then .int .i64 (planF fl) else .int .u64 fl.torn
def rob (fl:FL)(y:RLay)(b:Nat):Value:=.slice (some ⟨y.g b,0,none⟩) fl.P (y.cp b)
def rnb (fl:FL)(b:Nat):Value:=.int .i64 (fl.er b)
structure RW (w:World)(D:Nat->Prop)(X:Nat)(y:RLay)(fl:FL):Prop where
 top:Rg w X 142 8 (rfc fl y)
 out:Rg w y.pb 37 fl.B (rob fl y)
 num:Rg w y.nb 3 fl.B (rnb fl)
 pag:∀b,b<fl.B->Rg w (y.g b) 9 fl.P (pgc fl b)
 inj:∀b c,b<fl.B->c<fl.B->y.g b=y.g c->b=c
 dX:D X
 dp:D y.pb
 dn:D y.nb
 dg:∀b,b<fl.B->D (y.g b)
 pc:fl.B<=y.pc/\y.pc<=maxLen
 nc:fl.B<=y.nc/\y.nc<=maxLen
 cp:∀b,b<fl.B->fl.P<=y.cp b/\y.cp b<=maxLen
 hB:1<=fl.B/\fl.B<=32
 hP:1<=fl.P/\fl.P<=32
 hE:fl.E<=1048576
 her:∀b,b<fl.B->fl.er b<=fl.E
 hl:fl.cut=true->0<=fl.left/\fl.left<=9223372036854775807
 ht:fl.torn<=18446744073709551615
 len:∀b p,b<fl.B->p<fl.P->(fl.pg b p).length=64
 fin:∀k,D k->k<w.heap.size
section
variable {w w':World}{D:Nat->Prop}{X:Nat}{y:RLay}{fl:FL}
theorem RW.ch {C:Nat->Prop}(h:RW w D X y fl)(c:Ch C w w')(hC:∀k,D k->¬C k):RW w' D X y fl:=
 { h with top:=h.top.ch c (hC _ h.dX),out:=h.out.ch c (hC _ h.dp),num:=h.num.ch c (hC _ h.dn),pag:=λb hb=>(h.pag b hb).ch c (hC _ (h.dg b hb)),fin:=λk hk=>Nat.lt_of_lt_of_le (h.fin k hk) c.size }
theorem RW.below (h:RW w D X y fl)(c:Below w.heap.size w w'):RW w' D X y fl:=h.ch (Ch.of_below c (λ_=>False)) (λ_ _ h=>h)
theorem RW.drew (h:RW w D X y fl):RW w.drew D X y fl:=h.below ((Below.refl _ _).drew)
theorem RW.Xp (h:RW w D X y fl):X≠y.pb:=h.top.ty h.out (by decide)
theorem RW.Xn (h:RW w D X y fl):X≠y.nb:=h.top.ty h.num (by decide)
theorem RW.Xg (h:RW w D X y fl){b:Nat}(hb:b<fl.B):X≠y.g b:=h.top.ty (h.pag b hb) (by decide)
theorem RW.pn (h:RW w D X y fl):y.pb≠y.nb:=h.out.ty h.num (by decide)
theorem RW.pg (h:RW w D X y fl){b:Nat}(hb:b<fl.B):y.pb≠y.g b:=h.out.ty (h.pag b hb) (by decide)
theorem RW.ng (h:RW w D X y fl){b:Nat}(hb:b<fl.B):y.nb≠y.g b:=h.num.ty (h.pag b hb) (by decide)
theorem RW.plan (h:RW w D X y fl):-1<=planF fl/\planF fl<=9223372036854775807:=by
 unfold planF
 split
 ·rename_i e;have:=h.hl e;omega
 ·omega
theorem RW.fld (h:RW w D X y fl){fl':FL}{j:Nat}{u:Value}(hj:j<8)(e:∀k,k<8->upd (rfc fl y) j u k=rfc fl' y k)(eB:fl'.B=fl.B)(eP:fl'.P=fl.P)(eE:fl'.E=fl.E)(ep:fl'.pg=fl.pg)(ee:fl'.er=fl.er)
  (hl:fl'.cut=true->0<=fl'.left/\fl'.left<=9223372036854775807) (ht:fl'.torn<=18446744073709551615):RW (w.setCell ⟨X,j,none⟩ u) D X y fl':=by
 refine⟨(h.top.set hj u).congr e,?_,?_,λb hb=>?_,λb c hb hc=>?_,h.dX,h.dp,h.dn,λb hb=>h.dg b (by omega),by rw[eB];exact h.pc,by rw[eB];exact h.nc,λb hb=>by rw[eP];exact h.cp b (by omega),by rw[eB];exact h.hB,by rw[eP];exact h.hP,by rw[eE];exact h.hE,λb hb=>by rw[ee,eE];exact h.her b (by omega),hl,ht,λb p hb hp=>by rw[ep];exact h.len b p (by omega) (by omega),λk hk=>by simpa[World.setCell] using h.fin k hk⟩
 ·rw[eB]
  exact(h.out.far (p:=⟨X,j,none⟩) h.Xp u).congr (λi _=>by unfold rob;rw[eP])
 ·rw[eB]
  exact(h.num.far (p:=⟨X,j,none⟩) h.Xn u).congr (λi _=>by unfold rnb;rw[ee])
 ·rw[eP]
  exact((h.pag b (by omega)).far (p:=⟨X,j,none⟩) (h.Xg (by omega)) u).congr (λi _=>by unfold pgc;rw[ep])
 ·exact h.inj b c (by omega) (by omega)
theorem RW.setOff (h:RW w D X y fl)(a:Bool):RW (w.setCell ⟨X,5,none⟩ (.bool a)) D X y { fl with off:=a }:=
 h.fld (by omega) (λk hk=>by rcases(by omega:k=0\/k=1\/k=2\/k=3\/k=4\/k=5\/k=6\/k=7) with rfl|rfl|rfl|rfl|rfl|rfl|rfl|rfl<;>rfl) rfl rfl rfl rfl rfl h.hl h.ht
theorem RW.setPlan (h:RW w D X y fl)(c:Bool)(l:Int)(hl:c=true->0<=l/\l<=9223372036854775807):RW (w.setCell ⟨X,6,none⟩ (.int .i64 (planF { fl with cut:=c,left:=l }))) D X y { fl with cut:=c,left:=l }:=
 h.fld (by omega) (λk hk=>by rcases(by omega:k=0\/k=1\/k=2\/k=3\/k=4\/k=5\/k=6\/k=7) with rfl|rfl|rfl|rfl|rfl|rfl|rfl|rfl<;>rfl) rfl rfl rfl rfl rfl hl h.ht
theorem RW.setPg (h:RW w D X y fl){b p:Nat}(hb:b<fl.B)(hp:p<fl.P){s:Str}(hs:s.length=64):RW (w.setCell ⟨y.g b,p,none⟩ (str s)) D X y (fl.put b p s):=by
 refine⟨(h.top.far (p:=⟨y.g b,p,none⟩) (Ne.symm (h.Xg hb)) _),(h.out.far (p:=⟨y.g b,p,none⟩) (Ne.symm (h.pg hb)) _),(h.num.far (p:=⟨y.g b,p,none⟩) (Ne.symm (h.ng hb)) _),λc hc=>?_,h.inj,h.dX,h.dp,h.dn,h.dg,h.pc,h.nc,h.cp,h.hB,h.hP,h.hE,h.her,h.hl,h.ht,λc q hc hq=>?_,λk hk=>by simpa[World.setCell] using h.fin k hk⟩
 ·by_cases e:c=b
  ·subst e
   refine((h.pag c hc).set hp _).congr λq hq=>?_
   by_cases e2:q=p
   ·subst e2;rw[upd_hit];simp[pgc,FL.put,up2]
   ·rw[upd_miss _ _ e2];simp[pgc,FL.put,up2,e2]
  ·exact((h.pag c hc).far (p:=⟨y.g b,p,none⟩) (λe2=>e (h.inj c b hc hb e2.symm)) _).congr λq _=>by simp[pgc,FL.put,up2,e]
 ·show(up2 fl.pg b p s c q).length=64
  unfold up2
  split
  ·exact hs
  ·exact h.len c q hc hq
theorem RW.setEr (h:RW w D X y fl){b v:Nat}(hb:b<fl.B)(hv:v<=fl.E):RW (w.setCell ⟨y.nb,b,none⟩ (.int .i64 v)) D X y (fl.erd b v):=by
 refine⟨(h.top.far (p:=⟨y.nb,b,none⟩) (Ne.symm h.Xn) _),(h.out.far (p:=⟨y.nb,b,none⟩) (Ne.symm h.pn) _),(h.num.set (i:=b) hb _).congr λk hk=>?_,λc hc=>(h.pag c hc).far (p:=⟨y.nb,b,none⟩) (h.ng hc) _,h.inj,h.dX,h.dp,h.dn,h.dg,h.pc,h.nc,h.cp,h.hB,h.hP,h.hE,λc hc=>?_,h.hl,h.ht,h.len,λk hk=>by simpa[World.setCell] using h.fin k hk⟩
 ·by_cases e:k=b
  ·subst e
   rw[upd_hit]
   simp[rnb,FL.erd]
  ·rw[upd_miss _ _ e]
   simp[rnb,FL.erd,e]
 ·show(if c=b then v else fl.er c)<=fl.E
  split
  ·exact hv
  ·exact h.her c hc
/- What a walk reads. -/
theorem RW.c0 (h:RW w D X y fl):w.cell? ⟨X,0,none⟩=some (.int .i64 fl.B):=h.top.cell (i:=0) (by omega)
theorem RW.c1 (h:RW w D X y fl):w.cell? ⟨X,1,none⟩=some (.int .i64 fl.P):=h.top.cell (i:=1) (by omega)
theorem RW.c2 (h:RW w D X y fl):w.cell? ⟨X,2,none⟩=some (.int .i64 fl.E):=h.top.cell (i:=2) (by omega)
theorem RW.c3 (h:RW w D X y fl):w.cell? ⟨X,3,none⟩=some (.slice (some ⟨y.pb,0,none⟩) fl.B y.pc):=h.top.cell (i:=3) (by omega)
theorem RW.c4 (h:RW w D X y fl):w.cell? ⟨X,4,none⟩=some (.slice (some ⟨y.nb,0,none⟩) fl.B y.nc):=h.top.cell (i:=4) (by omega)
theorem RW.c5 (h:RW w D X y fl):w.cell? ⟨X,5,none⟩=some (.bool fl.off):=h.top.cell (i:=5) (by omega)
theorem RW.c6 (h:RW w D X y fl):w.cell? ⟨X,6,none⟩=some (.int .i64 (planF fl)):=h.top.cell (i:=6) (by omega)
theorem RW.c7 (h:RW w D X y fl):w.cell? ⟨X,7,none⟩=some (.int .u64 fl.torn):=h.top.cell (i:=7) (by omega)
theorem RW.cs (h:RW w D X y fl){b:Nat}(hb:b<fl.B):w.cell? ⟨y.pb,b,none⟩=some (.slice (some ⟨y.g b,0,none⟩) fl.P (y.cp b)):=h.out.cell hb
theorem RW.ce (h:RW w D X y fl){b:Nat}(hb:b<fl.B):w.cell? ⟨y.nb,b,none⟩=some (.int .i64 (fl.er b)):=h.num.cell hb
theorem RW.cg (h:RW w D X y fl){b p:Nat}(hb:b<fl.B)(hp:p<fl.P):w.cell? ⟨y.g b,p,none⟩=some (str (fl.pg b p)):=(h.pag b hb).cell hp
theorem rin_any (h:RW w D X y fl){b p:Nat}(hb:b<fl.B)(hp:p<fl.P):Calls Tryz.prog 141 #[fptr X,.int .i64 b,.int .i64 p] w λe w'=>e=.returned (.bool true)/\w=w':=by
 have c0:=h.c0
 have c1:=h.c1
 have hB:=h.hB
 have hP:=h.hP
 have hbI:(b:Int)<fl.B:=by omega
 have hpI:(p:Int)<fl.P:=by omega
 clear h
 go_enter Tryz.func141,Tryz.ntmps141
 go_wp2_with fail
 go_ret
 exact⟨by simp,rfl⟩
theorem rcut_any (h:RW w D X y fl):Calls Tryz.prog 142 #[fptr X] w λe w'=>e=.returned (.bool (intF fl).1)/\RW w' D X y (intF fl).2/\Ch D w w':=by
 have c5:=h.c5
 have c6:=h.c6
 have f5:=h.top.frozen 5
 have f6:=h.top.frozen 6
 have hpl:=h.plan
 cases hc:fl.cut
 ·have e:intF fl=(false,fl):=by unfold intF;rw[hc];rfl
  have hp:planF fl=-1:=by unfold planF;rw[hc];rfl
  rw[hp] at c6
  rw[e]
  have H:=Hh h
  clear h hc hp hpl e
  go_enter Tryz.func142,Tryz.ntmps142
  go_wp2_with fail
  go_ret
  exact⟨rfl,H.out,Ch.refl _ _⟩
 ·have hll:=h.hl hc
  have hp:planF fl=fl.left:=by unfold planF;rw[hc];rfl
  rw[hp] at c6
  by_cases hl:0<fl.left
  ·have e:intF fl=(false,{ fl with left:=fl.left-1 }):=by unfold intF;rw[hc,if_neg (by simp),if_pos hl]
   rw[e]
   have hfl:({ fl with cut:=true,left:=fl.left-1 }:FL)={ fl with left:=fl.left-1 }:=by rw[<-hc]
   have h2:=h.setPlan true (fl.left-1) (λ_=>by omega)
   have hq:planF { fl with cut:=true,left:=fl.left-1 }=fl.left-1:=rfl
   rw[hq,hfl] at h2
   have H2:=Hh h2
   have HC:Hid (Ch D w (w.setCell ⟨X,6,none⟩ (.int .i64 (fl.left-1)))):=(Ch.refl D w).setCell (p:=⟨X,6,none⟩) (λ_=>h.dX) _
   have hd0:¬fl.left=0:=by omega
   have hd:decide (fl.left > 0)=true:=by simpa using hl
   have hb0:(fl.left==0)=false:=by rw[beq_eq_false_iff_ne];omega
   clear h h2 hc e hp hq hfl hpl
   generalize fl.left=lf at *
   go_enter Tryz.func142,Tryz.ntmps142
   go_wp2_with fail
   go_ret
   exact⟨rfl,H2.out,HC.out⟩
  ·have e:intF fl=(true,loseF fl):=by unfold intF;rw[hc,if_neg (by simp),if_neg hl]
   rw[e]
   have h0:fl.left=0:=by omega
   rw[h0] at c6
   have h2:=(h.setOff true).setPlan false fl.left (λe=>by cases e)
   have hq:planF { ({ fl with off:=true }:FL) with cut:=false,left:=fl.left }=-1:=rfl
   rw[hq] at h2
   have H2:Hid (RW ((w.setCell ⟨X,5,none⟩ (.bool true)).setCell ⟨X,6,none⟩ (.int .i64 (-1))) D X y (loseF fl)):=h2
   have HC:Hid (Ch D w ((w.setCell ⟨X,5,none⟩ (.bool true)).setCell ⟨X,6,none⟩ (.int .i64 (-1)))):=(((Ch.refl D w).setCell (p:=⟨X,5,none⟩) (λ_=>h.dX) _).setCell (p:=⟨X,6,none⟩) (λ_=>h.dX) _)
   clear h h2 hc e hp hq hpl
   go_enter Tryz.func142,Tryz.ntmps142
   go_wp2_with fail
   go_ret
   exact⟨rfl,H2.out,HC.out⟩
end
end
def mrg1 (t i:Nat)(o d:UInt8):UInt8:=(o &&& ~~~selB t i) ||| (d &&& selB t i)
def mrgS (t:Nat)(was tw:Str):Str:=(List.range was.length).map λi=>mrg1 t i (was.getD i 0) (tw.getD i 0)
theorem mrgS_len (t:Nat)(a b:Str):(mrgS t a b).length=a.length:=by simp[mrgS]
theorem mrg1_torn (t i:Nat)(o d:UInt8)(h:fits1 o d=true):mrg1 t i o d=torn1 t i o d:=by
 unfold mrg1 torn1
 unfold fits1 at h
 rw[beq_iff_eq] at h
 generalize selB t i=s
 apply UInt8.eq_of_toBitVec_eq
 apply BitVec.eq_of_getLsbD_eq
 intro k hk
 have h2:=congrArg (λx=>x.toBitVec.getLsbD k) h
 simp[hk] at h2 ⊢
 revert h2
 generalize o.toBitVec[k]=a,d.toBitVec[k]=b,s.toBitVec[k]=c
 cases a<;>cases b<;>cases c<;>decide
theorem mrg1_all (t i:Nat)(o:UInt8):mrg1 t i o 255=o ||| selB t i:=by
 unfold mrg1
 generalize selB t i=s
 apply UInt8.eq_of_toBitVec_eq
 apply BitVec.eq_of_getLsbD_eq
 intro k hk
 have h255:(255:UInt8).toBitVec.getLsbD k=true:=by
  rcases(by omega:k=0\/k=1\/k=2\/k=3\/k=4\/k=5\/k=6\/k=7) with rfl|rfl|rfl|rfl|rfl|rfl|rfl|rfl<;>rfl
 simp only[UInt8.toBitVec_or,UInt8.toBitVec_and,UInt8.toBitVec_not,BitVec.getLsbD_or,BitVec.getLsbD_and,BitVec.getLsbD_not,h255]
 cases o.toBitVec.getLsbD k<;>cases s.toBitVec.getLsbD k<;>first|rfl|simp[hk]
theorem mrgS_torn (t:Nat)(was tw:Str)(h1:was.length=64)(h2:tw.length=64)(h:fitsB was tw=true):mrgS t was tw=tornP t was tw:=by
 unfold mrgS tornP
 apply List.map_congr_left
 intro i hi
 rw[List.mem_range] at hi
 apply mrg1_torn
 unfold fitsB at h
 rw[List.all_eq_true] at h
 have h3:i<(List.zipWith fits1 was tw).length:=by rw[List.length_zipWith];omega
 have:=h _ (List.getElem_mem h3)
 rw[List.getElem_zipWith] at this
 rw[List.getD_eq_getElem?_getD,List.getD_eq_getElem?_getD,List.getElem?_eq_getElem hi,List.getElem?_eq_getElem (by omega)]
 exact this
theorem mrgS_eras (t:Nat)(was:Str)(h1:was.length=64):mrgS t was blank=tornE t was:=by
 unfold mrgS tornE
 apply List.map_congr_left
 intro i hi
 rw[List.mem_range] at hi
 rw[show blank.getD i 0=255 by rw[List.getD_eq_getElem?_getD,blank,List.getElem?_replicate,if_pos (by omega)];rfl]
 exact mrg1_all t i _
theorem rerased_any (w:World):Calls Tryz.prog 83 #[] w λe w'=>e=.returned (str blank)/\Below w.heap.size w w':=by
 obtain⟨i0,hi0,hx0,hx1,hx2⟩:=info_parts Tryz.infoU
 have hmk:(Instr.makeSlice 99 (.int .i64 64) (.int .i64 64)).run Tryz.prog w=.ok (.slice (some ⟨w.heap.size,0,none⟩) 64 64) (w.alloc (.cells (madeCells (Value.int .u8 0).cells 64) 5)):=by
  have:=run_make (P:=Tryz.prog) w 99 5 i0 (.int .u8 0) Tryz.underlying99 hi0 hx0 .i64 .i64 64 64 (by omega) (by omega) (by rw[hx2];omega) (by omega)
  rw[hx1] at this
  simpa using this
 have R1:Bt (w.alloc (.cells (madeCells (Value.int .u8 0).cells 64) 5)) w.heap.size 64 (List.replicate 64 0):=Rg.bt ((Rg.made w 5 64 (.int .u8 0) rfl).congr λi hi=>by
  rw[List.getD_eq_getElem?_getD,List.getElem?_replicate,if_pos hi];rfl) (by simp)
 have B1:Below w.heap.size w (w.alloc (.cells (madeCells (Value.int .u8 0).cells 64) 5)):=(Below.refl _ _).alloc (Nat.le_refl _) _
 obtain⟨w1,hw1⟩:∃w1,w.alloc (.cells (madeCells (Value.int .u8 0).cells 64) 5)=w1:=⟨_,rfl⟩
 obtain⟨g,hg⟩:∃g,w.heap.size=g:=⟨_,rfl⟩
 rw[hw1] at R1 B1 hmk
 rw[hg] at R1 hmk
 have HB:=Hh B1
 have HR:Hid (∃c:Str,Bt w1 g 64 c/\∀j,j<0->c.getD j 0=255):=⟨_,R1,λj hj=>by omega⟩
 clear R1 B1 hw1
 go_enter Tryz.func83,Tryz.ntmps83
 go_wp2_with fail
 clear hmk
 go_loopw [2] (λz wr=>∃i:Nat,i<=64/\z=.int .i64 (i:Int)/\Hid (∃c:Str,Bt wr g 64 c/\∀j,j<i->c.getD j 0=255)/\Hid (Below w.heap.size w wr)) (λz _=>64-(intOf z).toNat)
 case atStart=>exact⟨0,by omega,rfl,HR,HB⟩
 case round=>
  clear HR HB
  obtain⟨i,hi,rfl,HR,HB⟩:=hrel
  by_cases hlt:i<64
  ·have y0:(i:Int)<64:=by omega
   obtain⟨c,hbt,hcj⟩:=HR.out
   have cb:=hbt.cell hlt
   have fb:=hbt.frozen hlt
   have HR2:Hid (∃c:Str,Bt (wr.setCell ⟨g,i,none⟩ (.int .u8 255)) g 64 c/\∀j,j<i+1->c.getD j 0=255):=by
    refine⟨_,hbt.set hlt 255,λj hj=>?_⟩
    have hcl:c.length=64:=by obtain⟨_,_,_,h1,_⟩:=hbt;exact h1
    by_cases e:j=i
    ·subst e
     rw[List.getD_eq_getElem?_getD,List.getElem?_set_self (by omega)];rfl
    ·rw[List.getD_eq_getElem?_getD,List.getElem?_set_ne (Ne.symm e),<-List.getD_eq_getElem?_getD,hcj j (by omega)]
   have HB2:Hid (Below w.heap.size w (wr.setCell ⟨g,i,none⟩ (.int .u8 255))):=HB.out.setCell (p:=⟨g,i,none⟩) (by show w.heap.size<=g;omega) _
   clear hcj hbt HR HB
   go_wp2_with fail
   exact⟨⟨i+1,by omega,by go_num,HR2,HB2⟩,by simp[intOf];omega⟩
  ·have y0:¬(i:Int)<64:=by omega
   obtain⟨c,hbt,hcj⟩:=HR.out
   have hcl:c.length=64:=by obtain⟨_,_,_,h1,_⟩:=hbt;exact h1
   have hce:c=blank:=by
    apply List.ext_getElem
    ·rw[blank,List.length_replicate,hcl]
    ·intro j h1 h2
     have:=hcj j (by omega)
     rw[List.getD_eq_getElem?_getD,List.getElem?_eq_getElem h1] at this
     simp only[Option.getD_some] at this
     rw[this]
     exact(List.eq_of_mem_replicate (List.getElem_mem h2)).symm
   subst hce
   have hcs:=hbt.str 64
   clear hcj hbt HR hcl
   go_wp2_with fail
   go_ret
   exact⟨rfl,by first|exact HB.out|(rw[<-hg];exact HB.out)⟩
theorem rmerge_any (was tw:ByteArray)(t:Nat)(w:World)(h1:was.size=64)(h2:tw.size=64)(_:t<=18446744073709551615) :
  Calls Tryz.prog 143 #[.string was,.string tw,.int .u64 t] w λe w'=>e=.returned (str (mrgS t was.data.toList tw.data.toList))/\Below w.heap.size w w':=by
 obtain⟨cap,w1,hcv,hc1,hc2,hbt,hbel⟩:=conv_bytes w was (by omega)
 rw[h1] at hcv hc1 hbt
 obtain⟨g,hg⟩:∃g,w.heap.size=g:=⟨_,rfl⟩
 rw[hg] at hcv hbt
 have HB:=Hh hbel
 have HR:Hid (∃c:Str,Bt w1 g 64 c/\∀j,j<64->c.getD j 0=if j<0 then mrg1 t j (was.data.toList.getD j 0) (tw.data.toList.getD j 0) else was.data.toList.getD j 0):=⟨_,hbt,λj hj=>by rw[if_neg (by omega)]⟩
 clear hbt hbel
 go_enter Tryz.func143,Tryz.ntmps143
 go_wp2_with fail
 clear hcv
 go_loopw [8] (λz wr=>∃i:Nat,i<=64/\z=.int .i64 (i:Int)/\Hid (∃c:Str,Bt wr g 64 c/\∀j,j<64->c.getD j 0=if j<i then mrg1 t j (was.data.toList.getD j 0) (tw.data.toList.getD j 0) else was.data.toList.getD j 0)/\Hid (Below w.heap.size w wr)) (λz _=>64-(intOf z).toNat)
 case atStart=>exact⟨0,by omega,rfl,HR,HB⟩
 case round=>
  clear HR HB
  obtain⟨i,hi,rfl,HR,HB⟩:=hrel
  by_cases hi7:i<64
  ·have z0:(i:Int)<64:=by omega
   obtain⟨c,hbt,hcj⟩:=HR.out
   have hoi:was.data.toList.getD i 0=was[i]'(by omega):=by
    rw[List.getD_eq_getElem?_getD,List.getElem?_eq_getElem (by rw[Array.length_toList];exact(by omega:i<was.size))];rfl
   have hdi:tw.data.toList.getD i 0=tw[i]'(by omega):=by
    rw[List.getD_eq_getElem?_getD,List.getElem?_eq_getElem (by rw[Array.length_toList];exact(by omega:i<tw.size))];rfl
   have cb:=hbt.cell hi7
   have fb:=hbt.frozen hi7
   obtain⟨ss,hss⟩:∃ss:UInt8,ss=selB t i:=⟨_,rfl⟩
   have hsn:((t:Int)/2^(8*(i%8))%256)=(ss.toNat:Int):=by
    rw[hss]
    unfold selB
    rw[u8_of (by omega)]
    simp
   obtain⟨a1,ha1⟩:∃a:UInt8,a=(was[i]'(by omega)) &&& ~~~ss:=⟨_,rfl⟩
   obtain⟨a2,ha2⟩:∃a:UInt8,a=(tw[i]'(by omega)) &&& ss:=⟨_,rfl⟩
   obtain⟨a3,ha3⟩:∃a:UInt8,a=a1 ||| a2:=⟨_,rfl⟩
   have ht1:mrg1 t i (was[i]'(by omega)) (tw[i]'(by omega))=a3:=by rw[ha3,ha2,ha1,hss];rfl
   have e1:bits .andNot .u8 ((was[i]'(by omega)).toNat:Int) (ss.toNat:Int)=(a1.toNat:Int):=by rw[ha1];exact b_andNot _ _
   have e2:bits .and .u8 ((tw[i]'(by omega)).toNat:Int) (ss.toNat:Int)=(a2.toNat:Int):=by rw[ha2];exact b_and _ _
   have e3:bits .or .u8 (a1.toNat:Int) (a2.toNat:Int)=(a3.toNat:Int):=by rw[ha3];exact b_or _ _
   have HNX:Hid (∃c:Str,Bt (wr.setCell ⟨g,i,none⟩ (.int .u8 (a3.toNat:Int))).drew g 64 c/\∀j,j<64->c.getD j 0=if j<i+1 then mrg1 t j (was.data.toList.getD j 0) (tw.data.toList.getD j 0) else was.data.toList.getD j 0):=by
    refine⟨_,(hbt.ch (w':=wr.drew) ((Ch.refl (λ_=>False) wr).drew) id).set hi7 _,λj hj=>?_⟩
    have hcl:c.length=64:=by obtain⟨_,_,_,h1,_⟩:=hbt;exact h1
    by_cases e:j=i
    ·subst e
     rw[if_pos (by omega),List.getD_eq_getElem?_getD,List.getElem?_set_self (by omega),hoi,hdi]
     exact ht1.symm
    ·rw[List.getD_eq_getElem?_getD,List.getElem?_set_ne (Ne.symm e),<-List.getD_eq_getElem?_getD,hcj j hj]
     by_cases e2:j<i
     ·rw[if_pos e2,if_pos (by omega)]
     ·rw[if_neg e2,if_neg (by omega)]
   have K3n:Hid (Below w.heap.size w (wr.setCell ⟨g,i,none⟩ (.int .u8 (a3.toNat:Int))).drew):=
    (HB.out.drew).setCell (p:=⟨g,i,none⟩) (by show w.heap.size<=g;omega) _
   have fb':wr.drew.frozen? ⟨g,i,none⟩=false:=fb
   have cb':wr.drew.cell? ⟨g,i,none⟩=some (.int .u8 ((c.getD i 0).toNat:Int)):=cb
   clear hbt hcj hoi hdi cb fb ht1 HR HB ha1 ha2 ha3 hss
   go_wp2_with fail
   rw[hsn]
   clear hsn
   refine wp_region_pl (λ Y=>Y.cell? ⟨g,i,none⟩=some (.int .u8 ((c.getD i 0).toNat:Int))) ((0,0)::(1,0)::(2,0)::(3,0)::(4,0)::(5,0)::(6,0)::(7,0)::(8,0)::(9,0)::(10,0)::(11,0)::(12,0)::(13,0)::(14,2)::[]) (by kernel_rfl) (by kernel_rfl) ?_
   iterate 14 (apply wpP_go;rfl;rfl;exact cb';(rintro Z s0;go_simp;exact rfl);intro K hK;go_simp;refine hK _ ?_;clear hK K)
   apply wpP_two
   rfl
   intro K hK
   go_simp
   refine hK _ _ ?_
   clear hK K
   refine wpP_done ?_
   clear cb' fb' e1 e2 e3
   generalize (wr.setCell ⟨g,i,none⟩ (.int .u8 (a3.toNat:Int))).drew=V at *
   go_wp2_with fail
   go_roundw
   case rel=>exact⟨i+1,by omega,by go_num,HNX,K3n⟩
   case measure=>simp[intOf];omega
  ·have z0:¬(i:Int)<64:=by omega
   obtain⟨c,hbt,hcj⟩:=HR.out
   have hcl:c.length=64:=by obtain⟨_,_,_,h1,_⟩:=hbt;exact h1
   have hce:c=mrgS t was.data.toList tw.data.toList:=by
    have hol:was.data.toList.length=64:=by rw[Array.length_toList];exact h1
    apply List.ext_getElem
    ·rw[mrgS_len,hol,hcl]
    ·intro j h1 h2
     have hj:j<64:=by omega
     have:=hcj j hj
     rw[if_pos (by omega),List.getD_eq_getElem?_getD,List.getElem?_eq_getElem h1] at this
     simp only[Option.getD_some] at this
     rw[this]
     have h3:(mrgS t was.data.toList tw.data.toList)[j]? = some (mrg1 t j (was.data.toList.getD j 0) (tw.data.toList.getD j 0)):=by
      unfold mrgS
      rw[List.getElem?_map,List.getElem?_range (by omega)]
      rfl
     rw[List.getElem?_eq_getElem h2] at h3
     exact(Option.some.inj h3).symm
   subst hce
   have hcs:=hbt.str cap
   clear hcj hbt HR hcl
   go_wp2_with fail
   go_ret
   exact⟨rfl,by first|exact HB.out|(rw[<-hg];exact HB.out)⟩
section
structure OB (w wr:World)(t sz:Nat)(v:Value)(n:Nat)(xs:List Value):Prop where
 row:wr.ownsRow 0 t sz v n xs
 new:∀g,v.ownBlock=some g->w.heap.size<=g
 bel:Below w.heap.size w wr
section
variable {w wr w' w3:World}{t sz n m g cap:Nat}{v:Value}{xs news:List Value}
theorem own_rg (h:wr.ownsRow 0 t sz v n xs)(e:v.ownBlock=some g):Rg wr g t 0 (λ_=>.bool false):=by
 rcases h.2 with ⟨rfl,_⟩|⟨g',cap,cur,rfl,_,hh,_⟩
 ·cases e
 ·have e:g'=g:=by simpa[Value.ownBlock] using e
  subst e
  exact⟨cur,hh,λi hi=>by omega⟩
theorem own_ch {C:Nat->Prop}(h:wr.ownsRow 0 t sz v n xs)(c:Ch C wr w')(hC:∀g,v.ownBlock=some g->¬C g):w'.ownsRow 0 t sz v n xs:=by
 refine⟨h.1,?_⟩
 rcases h.2 with h1|⟨g',cap,cur,rfl,h2,hh,r⟩
 ·exact .inl h1
 ·exact .inr ⟨g',cap,cur,rfl,h2,(c.block g' (heap_lt hh) (hC g' rfl)).trans hh,r⟩
theorem own_form (h:wr.ownsRow 0 t sz v n xs)(hn:0<n):∃g cap,v=.slice (some ⟨g,0,none⟩) n cap/\n<=cap/\cap<=maxLen/\Rg wr g t (n*sz) (λi=>xs.getD i (.bool false)):=by
 obtain⟨hl,h1|⟨g,cap,cur,rfl,_,hh,hn1,hm1,_,ht⟩⟩:=h
 ·omega
 ·refine⟨g,cap,rfl,hn1,hm1,cur,hh,λi hi=>?_⟩
  have h2:xs[i]? = cur[i]? := by rw[<-ht,List.getElem?_take_of_lt hi,Array.getElem?_toList]
  rw[<-h2]
  show _=some (xs.getD i (.bool false))
  rw[List.getD_eq_getElem?_getD,List.getElem?_eq_getElem (by omega)]
  rfl
theorem OB.nil (b:Below w.heap.size w wr):OB w wr t sz (.slice none 0 0) 0 []:=⟨⟨by simp,.inl ⟨rfl,rfl⟩⟩,(λ_ hg=>(by cases hg)),b⟩
theorem OB.below (h:OB w wr t sz v n xs)(b:Below wr.heap.size wr w'):OB w w' t sz v n xs:=
 ⟨own_ch h.row (Ch.of_below b (λ_=>False)) (λ_ _ h=>h),h.new,h.bel.trans (b.mono h.bel.size)⟩
theorem OB.take {wz:World}(h:OB w wr t sz v n xs)(hz:Below w.heap.size w wz)(ho:w3.ownsRow 0 t sz (.slice (some ⟨g,0,none⟩) (n+m) cap) (n+m) (xs++news))(hg3:wz.grownBy w3 v.ownBlock)(hat:v.ownBlock=some g\/w.heap.size<=g) :
  OB w w3 t sz (.slice (some ⟨g,0,none⟩) (n+m) cap) (n+m) (xs++news):=by
 refine⟨ho,λk hk=>?_,Below.grown hz hg3 hz.size (λk hk=>h.new k hk)⟩
 have e:g=k:=by simpa[Value.ownBlock] using hk
 subst e
 rcases hat with h1|h1
 ·exact h.new g h1
 ·exact h1
theorem grown_ch {wz:World}(hg:wz.grownBy w3 v.ownBlock):Ch (λx=>v.ownBlock=some x) wz w3:=Ch.of_grown hg λ_ hx _=>hx
theorem news_new (w:World)(t:Nat)(cs:Array Value)(xs:List Value)(e:cs.toList=xs):∀j u,xs[j]? = some u->(w.alloc (.cells cs t)).cell? ((⟨w.heap.size,0,none⟩:Addr).add j)=some u:=by
 rw[<-e]
 exact World.news_of_block (heap_alloc_new w _)
theorem one_str (l:List Str):∀u∈l.map str,u.oneCell'=true:=λu hu=>by
 obtain⟨x,_,rfl⟩:=List.mem_map.1 hu
 rfl
end
theorem OB.ps {w wr:World}{t:Nat}{v:Value}{n:Nat}{ps:List Str}(h:OB w wr t 1 v n (ps.map str))(hn:0<n):∃g cap,v=.slice (some ⟨g,0,none⟩) n cap/\w.heap.size<=g/\n<=cap/\cap<=maxLen/\Rg wr g t n (λi=>str (ps.getD i [])):=by
 have hl:ps.length=n:=by have:=h.row.1;simpa using this
 obtain⟨g,cap,rfl,h1,h2,h3⟩:=own_form h.row hn
 refine⟨g,cap,rfl,h.new g rfl,h1,h2,?_⟩
 rw[Nat.mul_one] at h3
 refine h3.congr λi hi=>?_
 rw[List.getD_eq_getElem?_getD,List.getD_eq_getElem?_getD,List.getElem?_map,List.getElem?_eq_getElem (by omega)]
 rfl
end
theorem Tryz.infoN:(Tryz.prog.info? 3).map (λi=>(i.zero,i.size,i.bytes))=some (some (.int .i64 0),1,8):=by kernel_rfl
theorem Tryz.infoSS:(Tryz.prog.info? 37).map (λi=>(i.zero,i.size,i.bytes))=some (some (.slice none 0 0),1,24):=by kernel_rfl
def outS (g cp:Nat->Nat)(P k:Nat):List Value:=(List.range k).map λb=>.slice (some ⟨g b,0,none⟩) P (cp b)
theorem outS_get (g cp:Nat->Nat)(P k:Nat){b:Nat}(hb:b<k)(d:Value):(outS g cp P k).getD b d=.slice (some ⟨g b,0,none⟩) P (cp b):=by
 unfold outS
 rw[List.getD_eq_getElem?_getD,List.getElem?_map,List.getElem?_range hb]
 rfl
theorem outS_succ {g g' cp cp':Nat->Nat}{P k:Nat}(h:∀b,b<k->g' b=g b/\cp' b=cp b):outS g' cp' P (k+1)=outS g cp P k++[.slice (some ⟨g' k,0,none⟩) P (cp' k)]:=by
 unfold outS
 rw[List.range_succ,List.map_append]
 congr 1
 apply List.map_congr_left
 intro b hb
 rw[List.mem_range] at hb
 rw[(h b hb).1,(h b hb).2]
structure GN (w:World)(w0 Z X nb B P E k:Nat)(pv:Value)(g cp:Nat->Nat):Prop where
 box:Rg w Z 76 3 (λj=>if j=0 then .int .i64 B else if j=1 then .int .i64 P else .int .i64 E)
 top:Rg w X 142 8 (λj=>if j=3 then pv else rfc (newF B P E) ⟨0,0,nb,B,g,cp⟩ j)
 num:Rg w nb 3 B (λ_=>.int .i64 0)
 row:w.ownsRow 0 37 1 pv k (outS g cp P k)
 rl:∀h,pv.ownBlock=some h->w0<=h
 pag:∀b,b<k->Rg w (g b) 9 P (λ_=>str blank)
 cap:∀b,b<k->P<=cp b/\cp b<=maxLen
 inj:∀b c,b<k->c<k->g b=g c->b=c
 low:w0<=Z/\w0<=X/\w0<=nb/\∀b,b<k->w0<=g b
theorem GN.below {w w':World}{w0 Z X nb B P E k:Nat}{pv:Value}{g cp:Nat->Nat}(h:GN w w0 Z X nb B P E k pv g cp)(b:Below w.heap.size w w'):GN w' w0 Z X nb B P E k pv g cp:=by
 have c:Ch (λ_=>False) w w':=Ch.of_below b _
 exact⟨h.box.ch c id,h.top.ch c id,h.num.ch c id,own_ch h.row c (λ_ _ h=>h),h.rl,λi hi=>(h.pag i hi).ch c id,h.cap,h.inj,h.low⟩
theorem GN.next {w w2 w3:World}{w0 Z X nb B P E k gi ci g2 c2:Nat}{pv:Value}{g cp:Nat->Nat}{li:Nat}(h:GN w w0 Z X nb B P E k pv g cp)(hb:Below w.heap.size w w2)(hg:w.heap.size<=gi)(hr:Rg w2 gi 9 P (λ_=>str blank))(hci:P<=ci/\ci<=maxLen)
  (hl:w2.heap.size<=li) (ho:w3.ownsRow 0 37 1 (.slice (some ⟨g2,0,none⟩) (k+1) c2) (k+1) (outS g cp P k++[.slice (some ⟨gi,0,none⟩) P ci])) (hg3:(w2.alloc (.cells #[.slice (some ⟨gi,0,none⟩) P ci] 37)).grownBy w3 pv.ownBlock) (hat:pv.ownBlock=some g2\/g2=li) :
  GN (w3.setCell ⟨X,3,none⟩ (.slice (some ⟨g2,0,none⟩) (k+1) c2)) w0 Z X nb B P E (k+1) (.slice (some ⟨g2,0,none⟩) (k+1) c2) (λb=>if b=k then gi else g b) (λb=>if b=k then ci else cp b):=by
 have h2:=h.below hb
 have c:Ch (λx=>pv.ownBlock=some x) w2 w3:=(Ch.alloc (Ch.refl _ w2) _).trans (Ch.of_grown hg3 λ_ hx _=>hx)
 have hw0:w0<=w.heap.size:=Nat.le_trans h.low.1 (Nat.le_of_lt h.box.lt)
 have tX:pv.ownBlock≠some X:=λe=>(h2.top.ty (own_rg h2.row e) (by decide)) rfl
 have tZ:pv.ownBlock≠some Z:=λe=>(h2.box.ty (own_rg h2.row e) (by decide)) rfl
 have tn:pv.ownBlock≠some nb:=λe=>(h2.num.ty (own_rg h2.row e) (by decide)) rfl
 have tg:∀b,b<k->pv.ownBlock≠some (g b):=λb hb e=>((h2.pag b hb).ty (own_rg h2.row e) (by decide)) rfl
 have ti:pv.ownBlock≠some gi:=λe=>(hr.ty (own_rg h2.row e) (by decide)) rfl
 have hX3:=h2.top.ch c tX
 have hrow3:∃cs,w3.heap[g2]? = some (.cells cs 37 (0,0)):=by
  obtain⟨cs,hh,_⟩:=own_rg (g:=g2) ho rfl
  exact⟨cs,hh⟩
 have gX:∀{B1 t1 N1:Nat} {f1:Nat->Value},Rg w3 B1 t1 N1 f1->t1≠142->Rg (w3.setCell ⟨X,3,none⟩ (.slice (some ⟨g2,0,none⟩) (k+1) c2)) B1 t1 N1 f1:=λhB ht=>hB.far (p:=⟨X,3,none⟩) (λe=>hX3.ty hB (Ne.symm ht) e) _
 refine⟨gX (h2.box.ch c tZ) (by decide),(hX3.set (i:=3) (by omega) _).congr λj hj8=>?_,gX (h2.num.ch c tn) (by decide),?_,λx hx=>?_,λb hbk=>?_,λb hbk=>?_,λb c' hb1 hc1 e=>?_,h.low.1,h.low.2.1,h.low.2.2.1,λb hbk=>?_⟩
 ·rcases(by omega:j=0\/j=1\/j=2\/j=3\/j=4\/j=5\/j=6\/j=7) with rfl|rfl|rfl|rfl|rfl|rfl|rfl|rfl<;>rfl
 ·have e:outS (λb=>if b=k then gi else g b) (λb=>if b=k then ci else cp b) P (k+1)=outS g cp P k++[.slice (some ⟨gi,0,none⟩) P ci]:=by
   rw[outS_succ (g:=g) (cp:=cp) (λb hb=>by simp only[if_neg (by omega:¬b=k)];exact⟨trivial,trivial⟩)]
   simp
  rw[e]
  refine own_ch ho ((Ch.refl (λx=>x=X) w3).setCell (p:=⟨X,3,none⟩) (λ_=>rfl) _) λx hx e2=>?_
  have hx:g2=x:=by simpa[Value.ownBlock] using hx
  obtain⟨cs,hh⟩:=hrow3
  have:Rg w3 x 37 0 (λ_=>.bool false):=⟨cs,by rw[<-hx];exact hh,λi hi=>by omega⟩
  exact hX3.ty this (by decide) e2.symm
 ·have hx:g2=x:=by simpa[Value.ownBlock] using hx
  subst hx
  rcases hat with h1|h1
  ·exact h.rl _ h1
  ·have:=hb.size;omega
 ·by_cases e:b=k
  ·subst e
   simp only[if_true]
   exact gX (hr.ch c ti) (by decide)
  ·simp only[if_neg e]
   exact gX ((h2.pag b (by omega)).ch c (tg b (by omega))) (by decide)
 ·by_cases e:b=k
  ·simp only[if_pos e];exact hci
  ·simp only[if_neg e];exact h.cap b (by omega)
 ·by_cases e1:b=k<;>by_cases e2:c'=k
  ·omega
  ·simp only[if_pos e1,if_neg e2] at e
   have:=(h.pag c' (by omega)).lt
   omega
  ·simp only[if_neg e1,if_pos e2] at e
   have:=(h.pag b (by omega)).lt
   omega
  ·simp only[if_neg e1,if_neg e2] at e
   exact h.inj b c' (by omega) (by omega) e
 ·by_cases e:b=k
  ·simp only[if_pos e];omega
  ·simp only[if_neg e]
   exact h.low.2.2.2 b (by omega)
theorem GN.done {w:World}{w0 Z X nb B P E:Nat}{pv:Value}{g cp:Nat->Nat}(h:GN w w0 Z X nb B P E B pv g cp)(hB:1<=B/\B<=32)(hP:1<=P/\P<=32)(hE:E<=1048576):∃y,RW w (λk=>w0<=k/\k<w.heap.size) X y (newF B P E):=by
 obtain⟨ph,pc,hv,h1,h2,h3⟩:=own_form h.row (by omega)
 rw[Nat.mul_one] at h3
 have htop:=h.top
 rw[hv] at htop
 refine⟨⟨ph,pc,nb,B,g,cp⟩,htop.congr λj hj=>?_,h3.congr λb hb=>?_,h.num.congr λb _=>rfl,λb hb=>h.pag b hb,λb c hb hc e=>h.inj b c hb hc e,⟨h.low.2.1,h.top.lt⟩,⟨h.rl ph (by rw[hv];rfl),h3.lt⟩,⟨h.low.2.2.1,h.num.lt⟩,λb hb=>⟨h.low.2.2.2 b hb,(h.pag b hb).lt⟩,⟨h1,h2⟩,⟨Nat.le_refl _,by unfold maxLen;show B<=_;omega⟩,λb hb=>h.cap b hb,hB,hP,hE,λb _=>Nat.zero_le _,(λe=>by cases e),Nat.zero_le _,λb p _ _=>by simp[newF,blank],λk hk=>hk.2⟩
 ·rcases(by omega:j=0\/j=1\/j=2\/j=3\/j=4\/j=5\/j=6\/j=7) with rfl|rfl|rfl|rfl|rfl|rfl|rfl|rfl<;>rfl
 ·exact outS_get g cp P B hb _
theorem rnew_any (w:World)(B P E:Nat)(hB:1<=B/\B<=32)(hP:1<=P/\P<=32)(hE:E<=1048576) :
  Calls Tryz.prog 34 #[.agg #[.int .i64 B,.int .i64 P,.int .i64 E]] w λe w'=>∃X y,e=.returned (.tuple #[fptr X,.int .i64 0])/\RW w' (λk=>w.heap.size<=k/\k<w'.heap.size) X y (newF B P E)/\Below w.heap.size w w':=by
 obtain⟨iS,hiS,hxS0,hxS1,hxS2⟩:=info_parts Tryz.infoS
 obtain⟨iT,hiT,hxT0,hxT1,hxT2⟩:=info_parts Tryz.infoSS
 obtain⟨i0,hi0,hx0,hx1,hx2⟩:=info_parts Tryz.infoN
 obtain⟨w1,hw1⟩:∃w1,w.alloc (.cells #[.int .i64 B,.int .i64 P,.int .i64 E] 76)=w1:=⟨_,rfl⟩
 have R1:Row w1 w.heap.size 76 3 (λj=>if j=0 then .int .i64 B else if j=1 then .int .i64 P else .int .i64 E):=by rw[<-hw1];exact Row.ofList w 76 _ _ 3 rfl
 obtain⟨Z,hZ⟩:∃Z,w.heap.size=Z:=⟨_,rfl⟩
 have hz1:w1.heap.size=w.heap.size+1:=by rw[<-hw1];simp
 have B1:Below w.heap.size w w1:=by rw[<-hw1];exact(Below.refl _ _).alloc (Nat.le_refl _) _
 rw[hZ] at R1 hz1
 have b0:w1.cell? ⟨Z,0,none⟩=some (.int .i64 B):=R1.cell (i:=0) (by omega)
 have b1:w1.cell? ⟨Z,1,none⟩=some (.int .i64 P):=R1.cell (i:=1) (by omega)
 have b2:w1.cell? ⟨Z,2,none⟩=some (.int .i64 E):=R1.cell (i:=2) (by omega)
 have hBI:(1:Int)<=B/\(B:Int)<=32:=by omega
 have hPI:(1:Int)<=P/\(P:Int)<=32:=by omega
 have hEI:(0:Int)<=E/\(E:Int)<=1048576:=by omega
 have S0:Hid (w1.drew.cell? ⟨Z,0,none⟩=some (.int .i64 B)/\w1.drew.cell? ⟨Z,1,none⟩=some (.int .i64 P)/\w1.drew.cell? ⟨Z,2,none⟩=some (.int .i64 E)):=⟨b0,b1,b2⟩
 have hmk:(Instr.makeSlice 36 (.int .i64 (B:Int)) (.int .i64 (B:Int))).run Tryz.prog w1.drew=.ok (.slice (some ⟨w1.heap.size,0,none⟩) B B) (w1.drew.alloc (.cells (madeCells (Value.int .i64 0).cells B) 3)):=by
  have:=run_make (P:=Tryz.prog) w1.drew 36 3 i0 (.int .i64 0) Tryz.underlying36 hi0 hx0 .i64 .i64 (B:Int) (B:Int) (by omega) (by omega) (by rw[hx2];omega) (by omega)
  rw[hx1] at this
  simpa using this
 obtain⟨w2,hw2⟩:∃w2,w1.drew.alloc (.cells (madeCells (Value.int .i64 0).cells B) 3)=w2:=⟨_,rfl⟩
 have R2:Rg w2 w1.heap.size 3 B (λ_=>.int .i64 0):=by rw[<-hw2];exact Rg.made w1.drew 3 B (.int .i64 0) rfl
 have B2:Below w1.heap.size w1 w2:=by rw[<-hw2];exact((Below.refl _ _).drew).alloc (Nat.le_refl _) _
 have hz2:w2.heap.size=Z+2:=by rw[<-hw2];simp[hz1]
 rw[hw2] at hmk
 rw[hz1] at R2 hmk
 have S2:Hid (w2.cell? ⟨Z,0,none⟩=some (.int .i64 B)/\w2.cell? ⟨Z,1,none⟩=some (.int .i64 P)/\w2.cell? ⟨Z,2,none⟩=some (.int .i64 E)):=
  ⟨(B2.cell (p:=⟨Z,0,none⟩) (by show Z<_;omega)).trans b0,(B2.cell (p:=⟨Z,1,none⟩) (by show Z<_;omega)).trans b1,(B2.cell (p:=⟨Z,2,none⟩) (by show Z<_;omega)).trans b2⟩
 go_enter Tryz.func34,Tryz.ntmps34
 go_wp2_with fail
 refine wp_region_pl (λ Y=>Y.cell? ⟨Z,0,none⟩=some (.int .i64 B)/\Y.cell? ⟨Z,1,none⟩=some (.int .i64 P)/\Y.cell? ⟨Z,2,none⟩=some (.int .i64 E)) ((0,0)::(1,0)::(2,0)::(3,1)::(4,0)::(5,1)::(6,0)::[]) (by kernel_rfl) (by kernel_rfl) ?_
 iterate 3 (apply wpP_go;rfl;rfl;exact S0.out;(rintro Y ⟨s0,s1,s2⟩;go_simp;exact rfl);intro K hK;go_simp;refine hK _ ?_;clear hK K)
 apply wpP_one
 rfl
 intro K hK
 go_simp
 refine hK _ _ S2.out ?_
 clear hK K
 iterate 1 (apply wpP_go;rfl;rfl;exact S2.out;(rintro Y ⟨s0,s1,s2⟩;go_simp;exact rfl);intro K hK;go_simp;refine hK _ ?_;clear hK K)
 apply wpP_one
 rfl
 intro K hK
 go_simp
 have hz3:(w2.alloc (.cells #[.int .i64 B,.int .i64 P,.int .i64 E,.slice none 0 0,.slice (some ⟨Z+1,0,none⟩) B B,.bool false,.int .i64 (-1),.int .u64 0] 142)).heap.size=Z+3:=by simp[hz2]
 have B3:Below w2.heap.size w2 (w2.alloc (.cells #[.int .i64 B,.int .i64 P,.int .i64 E,.slice none 0 0,.slice (some ⟨Z+1,0,none⟩) B B,.bool false,.int .i64 (-1),.int .u64 0] 142)):=(Below.refl _ _).alloc (Nat.le_refl _) _
 have R3:Row (w2.alloc (.cells #[.int .i64 B,.int .i64 P,.int .i64 E,.slice none 0 0,.slice (some ⟨Z+1,0,none⟩) B B,.bool false,.int .i64 (-1),.int .u64 0] 142)) (Z+2) 142 8 (λj=>if j=3 then .slice none 0 0 else rfc (newF B P E) ⟨0,0,Z+1,B,λ_=>0,λ_=>0⟩ j):=by
  rw[<-hz2]
  exact Row.ofList w2 142 _ _ 8 rfl
 have S3:Hid ((w2.alloc (.cells #[.int .i64 B,.int .i64 P,.int .i64 E,.slice none 0 0,.slice (some ⟨Z+1,0,none⟩) B B,.bool false,.int .i64 (-1),.int .u64 0] 142)).cell? ⟨Z,0,none⟩=some (.int .i64 B)/\(w2.alloc (.cells #[.int .i64 B,.int .i64 P,.int .i64 E,.slice none 0 0,.slice (some ⟨Z+1,0,none⟩) B B,.bool false,.int .i64 (-1),.int .u64 0] 142)).cell? ⟨Z,1,none⟩=some (.int .i64 P)/\(w2.alloc (.cells #[.int .i64 B,.int .i64 P,.int .i64 E,.slice none 0 0,.slice (some ⟨Z+1,0,none⟩) B B,.bool false,.int .i64 (-1),.int .u64 0] 142)).cell? ⟨Z,2,none⟩=some (.int .i64 E)):=
  ⟨(B3.cell (p:=⟨Z,0,none⟩) (by show Z<_;omega)).trans S2.out.1,(B3.cell (p:=⟨Z,1,none⟩) (by show Z<_;omega)).trans S2.out.2.1,(B3.cell (p:=⟨Z,2,none⟩) (by show Z<_;omega)).trans S2.out.2.2⟩
 have row_rg:∀{W:World} {b t N:Nat} {v:Nat->Value},Row W b t N v->Rg W b t N v:=λh=>by obtain⟨cs,h1,_,h2⟩:=h;exact⟨cs,h1,h2⟩
 have HN:Hid (∃pv g cp,GN (w2.alloc (.cells #[.int .i64 B,.int .i64 P,.int .i64 E,.slice none 0 0,.slice (some ⟨Z+1,0,none⟩) B B,.bool false,.int .i64 (-1),.int .u64 0] 142)) Z Z (Z+2) (Z+1) B P E 0 pv g cp):=by
  refine⟨.slice none 0 0,λ_=>0,λ_=>0,((row_rg R1).ch (Ch.of_below B2 (λ_=>False)) id).ch (Ch.of_below B3 (λ_=>False)) id,row_rg R3,R2.ch (Ch.of_below B3 (λ_=>False)) id,⟨rfl,.inl ⟨rfl,rfl⟩⟩,(λ_ h=>(by cases h)),λb hb=>by omega,λb hb=>by omega,λb c hb=>by omega,by omega,by omega,by omega,λb hb=>by omega⟩
 have HB:Hid (Below Z w (w2.alloc (.cells #[.int .i64 B,.int .i64 P,.int .i64 E,.slice none 0 0,.slice (some ⟨Z+1,0,none⟩) B B,.bool false,.int .i64 (-1),.int .u64 0] 142))):=by
  have:=bthen B1 (bthen B2 B3)
  rw[hZ] at this
  exact this
 refine hK _ _ S3.out ?_
 clear hK K
 clear R1 R2 R3 B1 B2 B3 b0 b1 b2 hmk hw1 hw2
 iterate 1 (apply wpP_go;rfl;rfl;exact S3.out;(rintro Y ⟨s0,s1,s2⟩;go_simp;exact rfl);intro K hK;go_simp;refine hK _ ?_;clear hK K)
 refine wpP_done ?_
 clear S0 S2 S3 hi0 hx0 hx1 hx2
 generalize (w2.alloc (.cells #[.int .i64 B,.int .i64 P,.int .i64 E,.slice none 0 0,.slice (some ⟨Z+1,0,none⟩) B B,.bool false,.int .i64 (-1),.int .u64 0] 142))=w3 at *
 go_wp2_with fail
 go_loopw [5] (λz wr=>∃k:Nat,k<=B/\z=.int .i64 (k:Int)/\Hid (∃pv g cp,GN wr Z Z (Z+2) (Z+1) B P E k pv g cp)/\Hid (Below Z w wr)) (λz _=>B-(intOf z).toNat)
 case atStart=>exact⟨0,by omega,rfl,HN,HB⟩
 case round=>
  clear HN HB hz3
  obtain⟨k,hk,rfl,HN,HB⟩:=hrel
  obtain⟨pv,g,cp,hn⟩:=HN.out
  obtain⟨wo,hwo⟩:∃wo:World,wo=wr:=⟨_,rfl⟩
  subst hwo
  have b0:wo.cell? ⟨Z,0,none⟩=some (.int .i64 B):=hn.box.cell (i:=0) (by omega)
  by_cases hlt:k<B
  ·have y0:(k:Int)<B:=by omega
   have HG:=Hh hn
   have HO:Hid (OB wo wo 9 1 (.slice none 0 0) 0 (List.replicate 0 (str blank))):=OB.nil (Below.refl _ _)
   clear HN hn
   go_wp2_with fail
   clear b0
   go_loopw [6,7] (λl z wi=>∃(j:Nat) (vl:Value),j<=P/\vl=l/\z=.int .i64 (j:Int)/\Hid (OB wo wi 9 1 vl j (List.replicate j (str blank)))) (λ_ z _=>P-(intOf z).toNat)
   case atStart=>exact⟨0,_,by omega,rfl,rfl,HO⟩
   case round=>
    clear HO
    obtain⟨j,vl,hj,hvl,rfl,HO⟩:=hrel
    subst hvl
    have b1:wr.cell? ⟨Z,1,none⟩=some (.int .i64 P):=(HG.out.below HO.out.bel).box.cell (i:=1) (by omega)
    by_cases hltj:j<P
    ·have y1:(j:Int)<P:=by omega
     obtain⟨be,hbe⟩:∃be:ByteArray,str blank=.string be:=⟨_,rfl⟩
     have HER:=Hh (rerased_any wr)
     rw[hbe] at HER
     have HBE:=Hh hbe
     clear hbe
     go_wp2_with fail
     refine HER.out.mono ?_
     rintro e w4 ⟨rfl,b4⟩
     have HO4:=Hh (HO.out.below b4)
     have HOW:=Hh (HO4.out.below ((Below.refl _ _).alloc (Nat.le_refl _) (.cells #[.string be] 9)))
     clear b4 HER HO b1
     go_wp2_with (at_builtin;refine wpList_append_lies _ rfl _ _ 37 rfl 0 9 iS _ 1 16 Tryz.underlying37 hiS hxS0 hxS1 hxS2 rfl (by omega) vl j (List.replicate j (str blank)) rfl (by exact HOW.out.row) ⟨w4.heap.size,0,none⟩ 1 1 [.string be] rfl rfl (by exact news_new w4 9 #[.string be] _ rfl) (by intro u hu;rw[List.mem_singleton.1 hu];rfl) (by omega) (by simp only[maxLen];omega) (by omega) (Nat.zero_le _) (w4.heap.size+1) (by simp) ?_)
     intro g1 cap1 w6 ho hg hat hbel
     have O2:=HO4.out.take (m:=1) (news:=[.string be]) HOW.out.bel ho hg (by
      rcases hat with h|h
      ·exact .inl h
      ·right;have:=HO4.out.bel.size;omega)
     rw[<-HBE.out,<-List.replicate_succ'] at O2
     have HO6:=Hh O2
     clear ho hg hat hbel O2 HO4 HOW
     go_wp2_with fail
     go_roundw
     case rel=>exact⟨j+1,_,by omega,rfl,by go_num,HO6⟩
     case measure=>simp[intOf];omega
    ·have y1:¬(j:Int)<P:=by omega
     have hjP:j=P:=by omega
     subst hjP
     have hps:List.replicate j (str blank)=(List.replicate j blank).map str:=by simp
     have ho:=HO.out
     rw[hps] at ho
     obtain⟨gi,ci,rfl,hgi,hc1,hc2,hr0⟩:=ho.ps (by omega)
     have hr:Rg wr gi 9 j (λ_=>str blank):=hr0.congr λi hi=>by
      rw[List.getD_eq_getElem?_getD,List.getElem?_replicate,if_pos hi];rfl
     have HRI:=Hh hr
     have HGI:=Hh hgi
     have hn2:=HG.out.below HO.out.bel
     have x3:wr.cell? ⟨Z+2,3,none⟩=some pv:=hn2.top.cell (i:=3) (by omega)
     have HOW:=Hh ((hn2.below ((Below.refl _ _).alloc (Nat.le_refl _) (.cells #[.slice (some ⟨gi,0,none⟩) j ci] 37))).row)
     have HN2:=Hh hn2
     have HBE:=Hh HO.out.bel
     clear hr hr0 hgi ho hps HO hn2
     go_wp2_with (at_builtin;refine wpList_append_lies _ rfl _ _ 140 rfl 0 37 iT _ 1 24 Tryz.underlying140 hiT hxT0 hxT1 hxT2 rfl (by omega) pv k (outS g cp j k) rfl (by exact HOW.out) ⟨wr.heap.size,0,none⟩ 1 1 [.slice (some ⟨gi,0,none⟩) j ci] rfl rfl (by exact news_new wr 37 #[.slice (some ⟨gi,0,none⟩) j ci] _ rfl) (by intro u hu;rw[List.mem_singleton.1 hu];rfl) (by omega) (by simp only[maxLen];omega) (by omega) (Nat.zero_le _) (wr.heap.size+1) (by simp) ?_)
     intro g2 c2 w6 ho hg hat hbel
     have hnx:=HG.out.next HBE.out HGI.out HRI.out ⟨hc1,hc2⟩ (Nat.le_succ wr.heap.size) ho hg hat
     have c6:=(Ch.alloc (Ch.refl (λx=>pv.ownBlock=some x) wr) (.cells #[.slice (some ⟨gi,0,none⟩) j ci] 37)).trans (grown_ch hg)
     have tX:pv.ownBlock≠some (Z+2):=λe=>(HN2.out.top.ty (own_rg HN2.out.row e) (by decide)) rfl
     have x36:=(HN2.out.top.ch c6 tX).cell (i:=3) (by omega)
     have f36:=(HN2.out.top.ch c6 tX).frozen 3
     simp only[if_true] at x36
     have hbz:Below Z w wr:=HB.out.trans (HBE.out.mono (by rw[<-hZ];exact HB.out.size))
     have hb6:Below Z w w6:=hbz.trans ((c6.below (B:=Z) (by rw[<-hZ];exact hbz.size) (λx hx=>HG.out.rl x hx)))
     have HN6:=Hh hnx
     have HB6:Hid (Below Z w (w6.setCell ⟨Z+2,3,none⟩ (.slice (some ⟨g2,0,none⟩) (k+1) c2))):=hb6.setCell (p:=⟨Z+2,3,none⟩) (by show Z<=Z+2;omega) _
     clear ho hg hat hbel hnx c6 tX hbz hb6 x3 HOW HN2 HRI HGI HBE HG HB b1
     go_wp2_with fail
     go_roundw
     case rel=>exact⟨k+1,by omega,by go_num,⟨_,_,_,HN6.out⟩,HB6⟩
     case measure=>simp[intOf];omega
  ·have y0:¬(k:Int)<B:=by omega
   have hkB:k=B:=by omega
   subst hkB
   obtain⟨y,hy⟩:=hn.done hB hP hE
   have HY:=Hh hy
   clear HN hn hy
   go_wp2_with fail
   go_ret2
   exact⟨Z+2,rfl,⟨y,HY.out⟩,HB.out⟩
def zk (b:UInt8)(k:Nat):Nat:=((List.range k).filter λj=>b.toNat/2^j%2==0).length
theorem zk_succ (b:UInt8)(k:Nat):zk b (k+1)=zk b k+if b.toNat/2^k%2=0 then 1 else 0:=by
 unfold zk
 rw[List.range_succ,List.filter_append,List.length_append]
 by_cases h:b.toNat/2^k%2=0
 ·have hb:(b.toNat/2^k%2==0)=true:=by simpa using h
  rw[if_pos h,List.filter_cons,hb];rfl
 ·have hb:(b.toNat/2^k%2==0)=false:=by simpa using h
  rw[if_neg h,List.filter_cons,hb];rfl
theorem zk_all:∀x:Fin 256,((List.range 8).filter λj=>x.val/2^j%2==0).length=8-Lib.onesCount x.val:=by decide +kernel
theorem zk_eight (b:UInt8):zk b 8=zbit b:=zk_all ⟨b.toNat,b.toNat_lt⟩
theorem zk_le (b:UInt8)(k:Nat):zk b k<=k:=by
 unfold zk
 have:=List.length_filter_le (λj=>b.toNat/2^j%2==0) (List.range k)
 rw[List.length_range] at this
 exact this
theorem b_bit (b:UInt8)(k:Nat):bits .and .u8 ((b.toNat:Int)/2^k) 1=((b.toNat/2^k%2:Nat):Int):=by
 have hb:b.toNat<256:=b.toNat_lt
 have hq:b.toNat/2^k<=255:=Nat.le_trans (Nat.div_le_self _ _) (by omega)
 have h:=b_and (UInt8.ofNat (b.toNat/2^k)) 1
 rw[u8_of hq] at h
 rw[UInt8.toNat_and,u8_of hq] at h
 have h1:((1:UInt8).toNat:Int)=1:=rfl
 have h2:b.toNat/2^k &&& (1:UInt8).toNat=b.toNat/2^k%2:=Nat.and_one_is_mod _
 rw[h1,h2] at h
 rw[<-h]
 congr 1
theorem rzeros_any (s:ByteArray)(w:World)(hs:s.size<=1000000) :
  Calls Tryz.prog 144 #[.string s] w λe w'=>e=.returned (.int .i64 (zeros s.data.toList:Nat))/\w=w':=by
 have hsz:s.data.toList.length=s.size:=Array.length_toList
 go_enter Tryz.func144,Tryz.ntmps144
 go_wp2_with fail
 go_loop [3,4] (λx z=>∃i:Nat,i<=s.size/\z=.int .i64 (i:Int)/\x=.int .i64 (zeros (s.data.toList.take i):Nat)) (λ_ z=>s.size-(intOf z).toNat)
 case atStart=>exact⟨0,by omega,rfl,rfl⟩
 case round=>
  obtain⟨i,hi,rfl,rfl⟩:=hrel
  by_cases hlt:i<s.size
  ·have y0:(i:Int)<s.size:=by omega
   have hz:=zeros_le (s.data.toList.take i)
   rw[List.length_take] at hz
   have hzs:zeros (s.data.toList.take (i+1))=zeros (s.data.toList.take i)+zk s[i] 8:=by
    rw[zeros_succ (l:=s.data.toList) (i:=i) (by omega),zk_eight]
    rfl
   have HZS:=Hh hzs
   obtain⟨bt,hbt⟩:∃b:UInt8,s[i]=b:=⟨_,rfl⟩
   rw[hbt] at HZS
   clear hzs
   generalize zeros (s.data.toList.take i)=z at *
   go_wp2_with fail
   go_loop [3,5] (λx y=>∃k:Nat,k<=8/\y=.int .i64 (k:Int)/\x=.int .i64 ((z+zk bt k:Nat):Int)) (λ_ y=>8-(intOf y).toNat)
   case atStart=>exact⟨0,by omega,rfl,by simp[zk]⟩
   case round=>
    obtain⟨k,hk,rfl,rfl⟩:=hrel
    have hzk:=zk_le bt k
    by_cases hk8:k<8
    ·have y1:(k:Int)<8:=by omega
     have e1:=b_bit bt k
     have hsu:=zk_succ bt k
     have HSU:=Hh hsu
     clear hsu
     by_cases hb:bt.toNat/2^k%2=0
     ·rw[hb] at e1
      rw[if_pos hb] at HSU
      generalize zk bt k=q at *
      go_wp2_with fail
      go_round
      case rel=>exact⟨k+1,by omega,by go_num,by rw[HSU.out];go_num⟩
      case measure=>simp[intOf];omega
     ·have hb1:bt.toNat/2^k%2=1:=by omega
      rw[hb1] at e1
      rw[if_neg hb] at HSU
      generalize zk bt k=q at *
      go_wp2_with fail
      go_round
      case rel=>exact⟨k+1,by omega,by go_num,by rw[HSU.out];go_num⟩
      case measure=>simp[intOf];omega
    ·have y1:¬(k:Int)<8:=by omega
     have hke:k=8:=by omega
     subst hke
     go_wp2_with fail
     go_round
     case rel=>exact⟨i+1,by omega,by go_num,by rw[HZS.out]⟩
     case measure=>simp[intOf];omega
  ·have y0:¬(i:Int)<s.size:=by omega
   have e:s.data.toList.take i=s.data.toList:=List.take_of_length_le (by omega)
   rw[e]
   go_wp2_with fail
   go_ret
   exact⟨rfl,rfl⟩
theorem rfits_any (k n v:Nat)(w:World)(hn:n<=1000000000000)(hv:v<=1000000000000) :
  Calls Tryz.prog 108 #[.int .u8 (k:Int),.int .i64 (n:Int),.int .i64 (v:Int)] w λe w'=>e=.returned (.bool (okLens k n v))/\w=w':=by
 go_enter Tryz.func108,Tryz.ntmps108
 go_wp2_with fail
 all_goals
  go_ret
  refine⟨?_,rfl⟩
  show Ending.returned (Value.bool _)=Ending.returned (Value.bool _)
  congr 2
  rw[Bool.eq_iff_iff]
  simp at *
  simp[okLens]
  omega
theorem rnumber_any (s:ByteArray)(w:World)(hs:s.size=8) :
  Calls Tryz.prog 104 #[.string s] w λe w'=>e=.returned (.int .u64 (numB s.data.toList:Nat))/\w=w':=by
 have hsz:s.data.toList.length=8:=by rw[Array.length_toList];exact hs
 go_enter Tryz.func104,Tryz.ntmps104
 go_wp2_with fail
 go_loop [3,4] (λx z=>∃i:Nat,i<=8/\z=.int .i64 (i:Int)/\x=.int .u64 (numB (s.data.toList.take i):Nat)) (λ_ z=>8-(intOf z).toNat)
 case atStart=>exact⟨0,by omega,rfl,rfl⟩
 case round=>
  obtain⟨i,hi,rfl,rfl⟩:=hrel
  by_cases hlt:i<8
  ·have y0:(i:Int)<8:=by omega
   obtain⟨x,hx⟩:∃x,numB (s.data.toList.take i)=x:=⟨_,rfl⟩
   have hxl:x<72057594037927936:=by
    have h1:=numB_lt (s.data.toList.take i)
    rw[hx,List.length_take,hsz] at h1
    have h2:256^(min i 8)<=256^7:=Nat.pow_le_pow_right (by omega) (by omega)
    omega
   have hb:(s[i]'(by omega)).toNat<256:=(s[i]'(by omega)).toNat_lt
   have hn:numB (s.data.toList.take (i+1))=x*256+(s[i]'(by omega)).toNat:=by
    rw[List.take_succ_eq_append_getElem (by omega),numB_snoc,hx]
    rfl
   have HN:=Hh hn
   rw[hx]
   clear hn hx
   go_wp2_with fail
   go_round
   case rel=>exact⟨i+1,by omega,by go_num,by rw[HN.out];simp⟩
   case measure=>simp[intOf];omega
  ·have y0:¬(i:Int)<8:=by omega
   have e:s.data.toList.take i=s.data.toList:=List.take_of_length_le (by omega)
   rw[e]
   go_wp2_with fail
   go_ret
   exact⟨rfl,rfl⟩
theorem rrecord_any (k:Nat)(n v:ByteArray)(w:World)(hk:k<=255)(hn:n.size<=255)(hv:v.size<=255) :
  Calls Tryz.prog 97 #[.int .u8 (k:Int),.string n,.string v] w λe w'=>e=.returned (.string ⟨(recd k n.data.toList v.data.toList).toArray⟩)/\Below w.heap.size w w':=by
 obtain⟨lead,hlead⟩:∃lead:ByteArray,lead=⟨#[UInt8.ofNat k,UInt8.ofNat n.size,UInt8.ofNat v.size]⟩:=⟨_,rfl⟩
 have hb1:Below w.heap.size w (w.alloc (.cells #[.int .u8 k,.int .u8 n.size,.int .u8 v.size] 5)):=(Below.refl _ _).alloc (Nat.le_refl _) _
 have B1:=Hh hb1
 have C1:(convert 99 9 (.slice (some ⟨w.heap.size,0,none⟩) 3 3)).run Tryz.prog (w.alloc (.cells #[.int .u8 k,.int .u8 n.size,.int .u8 v.size] 5))=.ok (.string lead) (w.alloc (.cells #[.int .u8 k,.int .u8 n.size,.int .u8 v.size] 5)):=by
  rw[hlead];exact conv_new w [UInt8.ofNat k,UInt8.ofNat n.size,UInt8.ofNat v.size] #[.int .u8 k,.int .u8 n.size,.int .u8 v.size] 3 rfl (by simp[u8_of hk,u8_of hn,u8_of hv])
 have hls:lead.size=3:=by rw[hlead];rfl
 have HL:=Hh hlead
 clear hb1 hlead
 go_enter Tryz.func97,Tryz.ntmps97
 go_wp2_with fail
 have hbz:=B1.out.size
 generalize w.alloc (.cells #[.int .u8 k,.int .u8 n.size,.int .u8 v.size] 5)=w1 at *
 clear C1
 obtain⟨all,hall⟩:∃all:ByteArray,all=lead++n++v:=⟨_,rfl⟩
 have has:all.size<=513:=by rw[hall,ByteArray.size_append,ByteArray.size_append];omega
 have HZ:=Hh (rzeros_any all w1 (by omega))
 have hz:=zeros_le all.data.toList
 have hzl:all.data.toList.length=all.size:=Array.length_toList
 obtain⟨c,hc⟩:∃c,zeros all.data.toList=c:=⟨_,rfl⟩
 rw[hc] at HZ hz
 have HC:=Hh hc
 have HA:=Hh hall
 have hc4:c<=4104:=by omega
 rw[<-hall]
 clear hc hz hzl hall
 refine HZ.out.mono ?_
 rintro e w2 ⟨rfl,rfl⟩
 have hc1:c/256<=255:=by omega
 have hc2:c%256<=255:=by omega
 obtain⟨chk,hchk⟩:∃chk:ByteArray,chk=⟨#[UInt8.ofNat (c/256),UInt8.ofNat (c%256)]⟩:=⟨_,rfl⟩
 have C2:(convert 99 9 (.slice (some ⟨w1.heap.size,0,none⟩) 2 2)).run Tryz.prog (w1.alloc (.cells #[.int .u8 ((c:Int)/256),.int .u8 ((c:Int)%256)] 5))=.ok (.string chk) (w1.alloc (.cells #[.int .u8 ((c:Int)/256),.int .u8 ((c:Int)%256)] 5)):=by
  rw[hchk];exact conv_new w1 [UInt8.ofNat (c/256),UInt8.ofNat (c%256)] _ 2 rfl (by
   simp only[List.map_cons,List.map_nil,u8_of hc1,u8_of hc2]
   rfl)
 have B2:Hid (Below w.heap.size w (w1.alloc (.cells #[.int .u8 ((c:Int)/256),.int .u8 ((c:Int)%256)] 5))):=B1.out.alloc hbz _
 have HF:Hid (lead++chk++n++v=(⟨(recd k n.data.toList v.data.toList).toArray⟩:ByteArray)):=by
  show _=_
  apply ByteArray.ext
  apply Array.toList_inj.1
  have f1:=HL.out
  have f2:n.data.toList.length=n.size:=Array.length_toList
  have f3:v.data.toList.length=v.size:=Array.length_toList
  have f4:lead.data.toList=[UInt8.ofNat k,UInt8.ofNat n.size,UInt8.ofNat v.size]:=by rw[f1]
  have f5:zeros [UInt8.ofNat k,UInt8.ofNat n.size,UInt8.ofNat v.size]+zeros n.data.toList+zeros v.data.toList=c:=by
   rw[<-HC.out,HA.out]
   simp only[ByteArray.data_append,Array.toList_append,zeros_append,f4]
  unfold recd
  dsimp only
  rw[f2,f3,f5]
  simp only[ByteArray.data_append,Array.toList_append,f4,hchk]
 have hcs:chk.size=2:=by rw[hchk];rfl
 have q1:¬9223372036854775807<5+n.size:=by omega
 have q2:¬9223372036854775807<5+n.size+v.size:=by omega
 clear hchk hc1 hc2 HC HA HL
 go_wp2_with fail
 go_ret
 exact⟨by rw[<-HF.out];rfl,B2.out⟩
theorem be8_take (n:Nat){j:Nat}(h:j<8):(be8 n).take (j+1)=(be8 n).take j++[UInt8.ofNat (n/2^(8*(7-j))%256)]:=by
 have hl:(be8 n).length=8:=by simp[be8]
 rw[List.take_succ_eq_append_getElem (by omega)]
 congr 2
 simp[be8]
def bys (l:Str):List Value:=l.map λb=>.int .u8 (b.toNat:Int)
theorem OB.bt {w wr:World}{v:Value}{n:Nat}{l:Str}(h:OB w wr 5 1 v n (bys l))(hn:0<n):∃g cap,v=.slice (some ⟨g,0,none⟩) n cap/\n<=cap/\cap<=maxLen/\Bt wr g n l:=by
 have hl:l.length=n:=by have:=h.row.1;simpa[bys] using this
 obtain⟨g,cap,rfl,h1,h2,h3⟩:=own_form h.row hn
 refine⟨g,cap,rfl,h1,h2,?_⟩
 rw[Nat.mul_one] at h3
 refine Rg.bt (h3.congr λi hi=>?_) hl
 unfold bys
 rw[List.getD_eq_getElem?_getD,List.getD_eq_getElem?_getD,List.getElem?_map,List.getElem?_eq_getElem (by omega)]
 rfl
theorem rbig_any (n:Nat)(w:World) :
  Calls Tryz.prog 98 #[.int .u64 n] w λe w'=>e=.returned (str (be8 n))/\Below w.heap.size w w':=by
 obtain⟨i0,hi0,hx0,hx1,hx2⟩:=info_parts Tryz.infoU
 have HO:Hid (OB w w 5 1 (.slice none 0 0) 0 (bys ((be8 n).take 0))):=OB.nil (Below.refl _ _)
 go_enter Tryz.func98,Tryz.ntmps98
 go_wp2_with fail
 go_loopw [3,4] (λx z wr=>∃(j:Nat) (vl:Value),j<=8/\vl=x/\z=.int .i64 (7-(j:Int))/\Hid (OB w wr 5 1 vl j (bys ((be8 n).take j)))) (λ_ z _=>(intOf z+1).toNat)
 case atStart=>exact⟨0,_,by omega,rfl,rfl,HO⟩
 case round=>
  clear HO
  obtain⟨j,vl,hj,hvl,rfl,HO⟩:=hrel
  subst hvl
  by_cases hlt:j<8
  ·obtain⟨m,hm⟩:∃m:Nat,m+j=7:=⟨7-j,by omega⟩
   have hmI:(7:Int)-(j:Int)=(m:Int):=by omega
   have y0:(m:Int) ≥ 0:=by omega
   have hm7:m<=7:=by omega
   rw[hmI]
   obtain⟨u,hu⟩:∃u:UInt8,u=UInt8.ofNat (n/2^(8*m)%256):=⟨_,rfl⟩
   have hue:((n:Int)/2^(8*m)%256)=(u.toNat:Int):=by
    rw[hu,u8_of (by omega)]
    simp
   have HT:Hid (bys ((be8 n).take (j+1))=bys ((be8 n).take j)++[.int .u8 ((n:Int)/2^(8*m)%256)]):=by
    show _=_
    rw[be8_take n hlt,hue,hu,show 7-j=m by omega]
    unfold bys
    rw[List.map_append];rfl
   have HOW:=Hh (HO.out.below ((Below.refl _ wr).alloc (Nat.le_refl _) (.cells #[.int .u8 ((n:Int)/2^(8*m)%256)] 5)))
   have HMJ:=Hh hmI
   clear hu hue hmI
   go_wp2_with (at_builtin;refine wpList_append_lies _ rfl _ _ 99 rfl 0 5 i0 _ 1 1 Tryz.underlying99 hi0 hx0 hx1 hx2 rfl (by omega) vl j (bys ((be8 n).take j)) rfl (by exact HOW.out.row) ⟨wr.heap.size,0,none⟩ 1 1 [.int .u8 ((n:Int)/2^(8*m)%256)] rfl rfl (by exact news_new wr 5 #[.int .u8 ((n:Int)/2^(8*m)%256)] _ rfl) (by intro u hu;rw[List.mem_singleton.1 hu];rfl) (by omega) (by simp only[maxLen];omega) (by omega) (Nat.zero_le _) (wr.heap.size+1) (by simp) ?_)
   intro g1 cap1 w6 ho hg hat hbel
   have O2:=HO.out.take (m:=1) (news:=[.int .u8 ((n:Int)/2^(8*m)%256)]) HOW.out.bel ho hg (by
    rcases hat with h|h
    ·exact .inl h
    ·right;have:=HO.out.bel.size;omega)
   rw[<-HT.out] at O2
   have HO6:=Hh O2
   clear ho hg hat hbel O2 HO HOW HT
   go_wp2_with fail
   go_roundw
   case rel=>exact⟨j+1,_,by omega,rfl,by rw[show(7:Int)-((j+1:Nat):Int)=(m:Int)-1 by omega],HO6⟩
   case measure=>simp[intOf]
  ·have hj8:j=8:=by omega
   subst hj8
   have hm1:(7:Int)-((8:Nat):Int)=-1:=by omega
   rw[hm1]
   have ho:=HO.out
   rw[List.take_of_length_le (by simp[be8])] at ho
   obtain⟨g,cap,rfl,h1,h2,hbt⟩:=ho.bt (by omega)
   have hcs:=hbt.str cap
   have HB:=Hh ho.bel
   clear ho hbt HO
   go_wp2_with fail
   go_ret
   exact⟨rfl,HB.out⟩
section
variable {w:World}{D:Nat->Prop}{X:Nat}{y:RLay}{fl:FL}
theorem rprogram_any (h:RW w D X y fl){b p:Nat}(hb:b<fl.B)(hp:p<fl.P){d:ByteArray}(hd:d.size=64) :
  Calls Tryz.prog 95 #[fptr X,.int .i64 b,.int .i64 p,.string d] w λe w'=>e=.returned (.int .i64 (progF fl b p d.data.toList).1)/\RW w' D X y (progF fl b p d.data.toList).2/\Ch D w w':=by
 have c3:=h.c3
 have c5:=h.c5
 have cs:=h.cs hb
 have cg:=h.cg hb hp
 have hpc:=h.pc
 have hB:=h.hB
 have hP:=h.hP
 have hcp:=h.cp b hb
 have hbI:(b:Int)<fl.B:=by omega
 have hpI:(p:Int)<fl.P:=by omega
 have HB:=Hh (rin_any h hb hp)
 have H:=Hh h
 have hlen:=h.len b p hb hp
 obtain⟨old,hold⟩:∃old:ByteArray,old=⟨(fl.pg b p).toArray⟩:=⟨_,rfl⟩
 have hol:old.data.toList=fl.pg b p:=by rw[hold]
 have hos:old.size=64:=by rw[hold];simpa[ByteArray.size] using hlen
 have HOL:=Hh hol
 rw[show str (fl.pg b p)=.string old by rw[hold]] at cg
 clear h hold hol hlen
 cases ho:fl.off
 ·rw[ho] at c5
  go_enter Tryz.func95,Tryz.ntmps95
  go_wp2_with fail
  refine HB.out.mono ?_
  rintro e w' ⟨rfl,rfl⟩
  go_wp2_with fail
  have HC:Hid (Ch D w w):=Ch.refl _ _
  go_loopw [10] (λz wr=>∃i:Nat,i<=64/\z=.int .i64 (i:Int)/\Hid (∀j,j<i->fits1 (old.data.toList.getD j 0) (d.data.toList.getD j 0)=true)/\Hid (RW wr D X y fl)/\Hid (Ch D w wr)) (λz _=>64-(intOf z).toNat)
  case atStart=>exact⟨0,by omega,rfl,λj hj=>by omega,H,HC⟩
  case round=>
   clear cs cg c3 c5 H HC HB
   obtain⟨i,hi,rfl,HJ,H,HC⟩:=hrel
   by_cases hi6:i<64
   ·have y0:(i:Int)<64:=by omega
    have hdl:d.data.toList.getD i 0=d[i]:=by
     rw[List.getD_eq_getElem?_getD,List.getElem?_eq_getElem (by rw[Array.length_toList];exact(by omega:i<d.size))];rfl
    have hol:old.data.toList.getD i 0=old[i]:=by
     rw[List.getD_eq_getElem?_getD,List.getElem?_eq_getElem (by rw[Array.length_toList];exact(by omega:i<old.size))];rfl
    by_cases hf:fits1 (old.data.toList.getD i 0) (d.data.toList.getD i 0)=true
    ·have ha:bits .andNot .u8 (d[i].toNat:Int) (old[i].toNat:Int)=0:=by
      rw[b_andNot]
      rw[hdl,hol] at hf
      unfold fits1 at hf
      rw[beq_iff_eq] at hf
      rw[hf];rfl
     have HJ2:Hid (∀j,j<i+1->fits1 (old.data.toList.getD j 0) (d.data.toList.getD j 0)=true):=λj hj=>by
      rcases(by omega:j<i\/j=i) with h1|h1
      ·exact HJ.out j h1
      ·rw[h1];exact hf
     have H2:Hid (RW wr.drew D X y fl):=H.out.drew
     have HC2:Hid (Ch D w wr.drew):=HC.out.drew
     clear hdl hol hf HJ H HC
     go_wp2_with fail
     refine wp_region_pl (λ_=>True) ((0,0)::(1,0)::(2,0)::(3,0)::(4,0)::(5,0)::(6,0)::(7,0)::[]) (by kernel_rfl) (by kernel_rfl) ?_
     iterate 8 (apply wpP_go;rfl;rfl;exact trivial;(rintro Z _;go_simp;exact rfl);intro K hK;go_simp;refine hK _ ?_;clear hK K)
     refine wpP_done ?_
     clear ha
     generalize wr.drew=V at *
     go_wp2_with fail
     go_roundw
     case rel=>exact⟨i+1,by omega,by go_num,HJ2,H2,HC2⟩
     case measure=>simp[intOf];omega
    ·obtain⟨x,ha,hx⟩:∃x:Int,bits .andNot .u8 (d[i].toNat:Int) (old[i].toNat:Int)=x/\x≠0:=by
      refine⟨_,rfl,?_⟩
      rw[b_andNot]
      rw[hdl,hol] at hf
      unfold fits1 at hf
      rw[beq_iff_eq] at hf
      intro h0
      apply hf
      apply UInt8.toNat_inj.1
      simpa using h0
     have HS:Hid (progF fl b p d.data.toList=(9,fl)):=by
      show _=_
      unfold progF
      rw[if_neg (by rw[ho];simp),if_pos]
      unfold fitsB
      rw[<-HOL.out]
      rw[List.all_eq_false]
      refine⟨fits1 (old.data.toList.getD i 0) (d.data.toList.getD i 0),?_,by simpa using hf⟩
      have h1:i<old.data.toList.length:=by rw[Array.length_toList];exact(by omega:i<old.size)
      have h2:i<d.data.toList.length:=by rw[Array.length_toList];exact(by omega:i<d.size)
      rw[List.getD_eq_getElem?_getD,List.getD_eq_getElem?_getD,List.getElem?_eq_getElem h1,List.getElem?_eq_getElem h2]
      have h3:i<(List.zipWith fits1 old.data.toList d.data.toList).length:=by rw[List.length_zipWith];omega
      have:=List.getElem_mem h3
      rw[List.getElem_zipWith] at this
      exact this
     have H2:Hid (RW wr.drew D X y fl):=H.out.drew
     have HC2:Hid (Ch D w wr.drew):=HC.out.drew
     clear hdl hol hf HJ H HC
     go_wp2_with fail
     refine wp_region_pl (λ_=>True) ((0,0)::(1,0)::(2,0)::(3,0)::(4,0)::(5,0)::(6,0)::(7,0)::[]) (by kernel_rfl) (by kernel_rfl) ?_
     iterate 8 (apply wpP_go;rfl;rfl;exact trivial;(rintro Z _;go_simp;exact rfl);intro K hK;go_simp;refine hK _ ?_;clear hK K)
     refine wpP_done ?_
     clear ha
     generalize wr.drew=V at *
     go_wp2_with fail
     go_ret
     rw[HS.out]
     exact⟨rfl,H2.out,HC2.out⟩
   ·have y0:¬(i:Int)<64:=by omega
    have hfit:fitsB (fl.pg b p) d.data.toList=true:=by
     unfold fitsB
     rw[List.all_eq_true]
     intro x hx
     obtain⟨j,hj,rfl⟩:=List.getElem_of_mem hx
     rw[List.length_zipWith] at hj
     rw[List.getElem_zipWith]
     have e1:(fl.pg b p).length=64:=by rw[<-HOL.out,Array.length_toList];exact hos
     have:=HJ.out j (by omega)
     rw[HOL.out,List.getD_eq_getElem?_getD,List.getD_eq_getElem?_getD,List.getElem?_eq_getElem (by omega),List.getElem?_eq_getElem (by omega)] at this
     exact this
    have HPF:Hid (progF fl b p d.data.toList=if (intF fl).1=false then (0,(intF fl).2.put b p d.data.toList) else (16,(intF fl).2.put b p (tornP fl.torn (fl.pg b p) d.data.toList))):=by
     show _=_
     unfold progF
     rw[if_neg (by rw[ho];simp),if_neg (by rw[hfit];simp)]
    have hdl:d.data.toList.length=64:=by rw[Array.length_toList];exact hd
    have HTN:Hid (mrgS fl.torn old.data.toList d.data.toList=tornP fl.torn (fl.pg b p) d.data.toList/\(tornP fl.torn (fl.pg b p) d.data.toList).length=64):=by
     have e1:(fl.pg b p).length=64:=by rw[<-HOL.out,Array.length_toList];exact hos
     refine⟨?_,by rw[tornP,List.length_map,List.length_range,e1]⟩
     rw[HOL.out];exact mrgS_torn _ _ _ e1 hdl hfit
    have HI:=Hh (rcut_any H.out)
    have htn:=H.out.ht
    obtain⟨sB,sP,sE,sp,se,st⟩:=intF_same fl
    have SB:=Hh sB
    have SP:=Hh sP
    have Spg:=Hh sp
    have ST:=Hh st
    obtain⟨f2,hf2⟩:∃f2,(intF fl).2=f2:=⟨_,rfl⟩
    rw[hf2] at HI HPF SB SP Spg ST
    clear hf2 sB sP sE sp se st HJ hfit
    rcases hin:(intF fl).1 with _|_
    ·rw[hin] at HI
     rw[hin,if_pos rfl] at HPF
     go_wp2_with fail
     refine HI.out.mono ?_
     rintro e w2 ⟨rfl,h2,k2⟩
     have hb2:b<f2.B:=by rw[SB.out];exact hb
     have hp2:p<f2.P:=by rw[SP.out];exact hp
     have c3:=h2.c3
     have cs:=h2.cs hb2
     have cg:=h2.cg hb2 hp2
     have fg:=(h2.pag b hb2).frozen p
     have hcb2:=h2.pc
     have hcp2:=h2.cp b hb2
     have hbI2:(b:Int)<f2.B:=by omega
     have hpI2:(p:Int)<f2.P:=by omega
     have HS:=Hh (h2.setPg hb2 hp2 hdl)
     have HK:Hid (Ch D w (w2.setCell ⟨y.g b,p,none⟩ (.string d))):=(HC.out.trans k2).setCell (p:=⟨y.g b,p,none⟩) (λ_=>h2.dg b hb2) _
     clear h2 k2
     go_wp2_with fail
     go_ret
     rw[HPF.out]
     exact⟨rfl,HS.out,HK.out⟩
    ·rw[hin] at HI
     rw[hin,if_neg (by simp)] at HPF
     go_wp2_with fail
     refine HI.out.mono ?_
     rintro e w2 ⟨rfl,h2,k2⟩
     have hb2:b<f2.B:=by rw[SB.out];exact hb
     have hp2:p<f2.P:=by rw[SP.out];exact hp
     have hcb2:=h2.pc
     have hcp2:=h2.cp b hb2
     have hbI2:(b:Int)<f2.B:=by omega
     have hpI2:(p:Int)<f2.P:=by omega
     have c7:=h2.c7
     rw[ST.out] at c7
     have S0:Hid (w2.drew.cell? ⟨X,3,none⟩=some (.slice (some ⟨y.pb,0,none⟩) f2.B y.pc)/\w2.drew.cell? ⟨y.pb,b,none⟩=some (.slice (some ⟨y.g b,0,none⟩) f2.P (y.cp b))/\w2.drew.cell? ⟨X,7,none⟩=some (.int .u64 (fl.torn:Int))):=⟨h2.c3,h2.cs hb2,c7⟩
     have H2d:Hid (RW w2.drew D X y f2):=h2.drew
     have K2d:Hid (Ch D w w2.drew):=(HC.out.trans k2).drew
     have HCG:=Hh (rmerge_any old d fl.torn w2.drew hos hd htn)
     obtain⟨new,hnew⟩:∃new:ByteArray,str (mrgS fl.torn old.data.toList d.data.toList)=.string new:=⟨_,rfl⟩
     rw[hnew] at HCG
     have HNEW:Hid (Value.string new=str (tornP fl.torn (fl.pg b p) d.data.toList)):=by show _=_;rw[<-hnew,HTN.out.1]
     clear h2 k2 hnew c7 HI H HC
     go_wp2_with fail
     refine wp_region_pl (λ Y=>Y.cell? ⟨X,3,none⟩=some (.slice (some ⟨y.pb,0,none⟩) f2.B y.pc)/\Y.cell? ⟨y.pb,b,none⟩=some (.slice (some ⟨y.g b,0,none⟩) f2.P (y.cp b))/\Y.cell? ⟨X,7,none⟩=some (.int .u64 (fl.torn:Int))) ((0,0)::(1,0)::(2,0)::(3,0)::(4,0)::(5,0)::(6,0)::(7,0)::(8,0)::(9,0)::(10,0)::(11,0)::(12,0)::(13,0)::(14,1)::(15,0)::(16,2)::[]) (by kernel_rfl) (by kernel_rfl) ?_
     iterate 14 (apply wpP_go;rfl;rfl;exact S0.out;(rintro Z ⟨s0,s1,s2⟩;go_simp;exact rfl);intro K hK;go_simp;refine hK _ ?_;clear hK K)
     apply wpP_one
     rfl
     intro K hK
     go_simp
     refine HCG.out.mono ?_
     rintro e V1 ⟨rfl,b1⟩
     have h3:=H2d.out.below b1
     have S1:Hid (V1.cell? ⟨X,3,none⟩=some (.slice (some ⟨y.pb,0,none⟩) f2.B y.pc)/\V1.cell? ⟨y.pb,b,none⟩=some (.slice (some ⟨y.g b,0,none⟩) f2.P (y.cp b))/\V1.cell? ⟨X,7,none⟩=some (.int .u64 (fl.torn:Int))):=⟨h3.c3,h3.cs hb2,by rw[<-ST.out];exact h3.c7⟩
     have fg:=(h3.pag b hb2).frozen p
     have cg:=h3.cg hb2 hp2
     have HS:Hid (RW (V1.setCell ⟨y.g b,p,none⟩ (.string new)) D X y (f2.put b p (tornP fl.torn (fl.pg b p) d.data.toList))):=by
      have:=h3.setPg hb2 hp2 HTN.out.2
      show RW _ _ _ _ _
      rw[HNEW.out]
      exact this
     have HK:Hid (Ch D w (V1.setCell ⟨y.g b,p,none⟩ (.string new))):=(K2d.out.trans (Ch.of_below b1 _)).setCell (p:=⟨y.g b,p,none⟩) (λ_=>h3.dg b hb2) _
     refine hK _ _ S1.out ?_
     clear hK K b1 h3 S0 H2d K2d HCG
     iterate 1 (apply wpP_go;rfl;rfl;exact S1.out;(rintro Z ⟨s0,s1,s2⟩;go_simp;exact rfl);intro K hK;go_simp;refine hK _ ?_;clear hK K)
     apply wpP_two
     rfl
     intro K hK
     go_simp
     refine hK _ _ ?_
     clear hK K
     refine wpP_done ?_
     clear S1 fg cg
     generalize V1.setCell ⟨y.g b,p,none⟩ (.string new)=V at *
     go_wp2_with fail
     go_ret
     rw[HPF.out]
     exact⟨rfl,HS.out,HK.out⟩
 ·rw[ho] at c5
  have HS:Hid (progF fl b p d.data.toList=(16,fl)):=by show _=_;unfold progF;rw[if_pos ho]
  go_enter Tryz.func95,Tryz.ntmps95
  go_wp2_with fail
  refine HB.out.mono ?_
  rintro e w' ⟨rfl,rfl⟩
  go_wp2_with fail
  go_ret
  rw[HS.out]
  exact⟨rfl,H.out,Ch.refl _ _⟩
theorem rerase_any (h:RW w D X y fl){b:Nat}(hb:b<fl.B) :
  Calls Tryz.prog 94 #[fptr X,.int .i64 b] w λe w'=>e=.returned (.int .i64 (eraseF fl b).1)/\RW w' D X y (eraseF fl b).2/\Ch D w w':=by
 have c2:=h.c2
 have c4:=h.c4
 have c5:=h.c5
 have ce:=h.ce hb
 have hnc:=h.nc
 have hB:=h.hB
 have hP:=h.hP
 have hbI:(b:Int)<fl.B:=by omega
 have HB:=Hh (rin_any h hb (p:=0) (by omega))
 have H:=Hh h
 have her:=h.her b hb
 have hE:=h.hE
 cases ho:fl.off
 ·rw[ho] at c5
  by_cases hw:fl.E<=fl.er b
  ·have HS:Hid (eraseF fl b=(15,fl)):=by show _=_;unfold eraseF;rw[if_neg (by rw[ho];simp),if_pos hw]
   have hwI:(fl.E:Int)<=fl.er b:=by omega
   have S0:Hid (w.drew.cell? ⟨X,4,none⟩=some (.slice (some ⟨y.nb,0,none⟩) fl.B y.nc)/\w.drew.cell? ⟨y.nb,b,none⟩=some (.int .i64 (fl.er b))/\w.drew.cell? ⟨X,2,none⟩=some (.int .i64 fl.E)):=⟨c4,ce,c2⟩
   have H2:Hid (RW w.drew D X y fl):=H.out.drew
   have HC2:Hid (Ch D w w.drew):=(Ch.refl _ _).drew
   clear h H
   go_enter Tryz.func94,Tryz.ntmps94
   go_wp2_with fail
   refine HB.out.mono ?_
   rintro e w' ⟨rfl,rfl⟩
   clear HB
   go_wp2_with fail
   refine wp_region_pl (λ Y=>Y.cell? ⟨X,4,none⟩=some (.slice (some ⟨y.nb,0,none⟩) fl.B y.nc)/\Y.cell? ⟨y.nb,b,none⟩=some (.int .i64 (fl.er b))/\Y.cell? ⟨X,2,none⟩=some (.int .i64 fl.E)) ((0,0)::(1,0)::(2,0)::(3,0)::(4,0)::(5,0)::(6,0)::(7,0)::(8,0)::(9,0)::(10,0)::(11,0)::(12,0)::[]) (by kernel_rfl) (by kernel_rfl) ?_
   iterate 13 (apply wpP_go;rfl;rfl;exact S0.out;(rintro Z ⟨s0,s1,s2⟩;go_simp;exact rfl);intro K hK;go_simp;refine hK _ ?_;clear hK K)
   refine wpP_done ?_
   clear S0 c2 c4 c5 ce
   generalize w.drew=V at *
   go_wp2_with fail
   go_ret
   rw[HS.out]
   exact⟨rfl,H2.out,HC2.out⟩
  ·have hwI:¬(fl.E:Int)<=fl.er b:=by omega
   have hlt1:fl.er b<fl.E:=by omega
   have HI0:Hid (RW (w.drew.setCell ⟨y.nb,b,none⟩ (.int .i64 ((fl.er b+1:Nat):Int))) D X y (fl.erd b (fl.er b+1))):=h.drew.setEr hb (by omega)
   have HC0:Hid (Ch D w (w.drew.setCell ⟨y.nb,b,none⟩ (.int .i64 ((fl.er b+1:Nat):Int)))):=((Ch.refl D w).drew).setCell (p:=⟨y.nb,b,none⟩) (λ_=>h.dn) _
   obtain⟨w1,hw1⟩:∃w1,w.drew.setCell ⟨y.nb,b,none⟩ (.int .i64 ((fl.er b+1:Nat):Int))=w1:=⟨_,rfl⟩
   rw[hw1] at HI0 HC0
   have hw1':w.drew.setCell ⟨y.nb,b,none⟩ (.int .i64 ((fl.er b:Int)+1))=w1:=by rw[<-hw1];rfl
   have fn:=h.drew.num.frozen b
   have S0:Hid (w.drew.cell? ⟨X,4,none⟩=some (.slice (some ⟨y.nb,0,none⟩) fl.B y.nc)/\w.drew.cell? ⟨y.nb,b,none⟩=some (.int .i64 (fl.er b))/\w.drew.cell? ⟨X,2,none⟩=some (.int .i64 fl.E)):=⟨c4,ce,c2⟩
   have c4':=S0.out.1
   have ce':=S0.out.2.1
   have HCU:=Hh (rcut_any HI0.out)
   have HS0:Hid (eraseF fl b=if (intF (fl.erd b (fl.er b+1))).1=false then (0,(intF (fl.erd b (fl.er b+1))).2.eras b fl.P 18446744073709551615) else (16,(intF (fl.erd b (fl.er b+1))).2.eras b fl.P fl.torn)):=by
    show _=_
    unfold eraseF
    rw[if_neg (by rw[ho];simp),if_neg hw]
   have htn:=h.ht
   obtain⟨sB,sP,sE,sp,se,st⟩:=intF_same (fl.erd b (fl.er b+1))
   have SB:Hid ((intF (fl.erd b (fl.er b+1))).2.B=fl.B):=sB
   have SP:Hid ((intF (fl.erd b (fl.er b+1))).2.P=fl.P):=sP
   have ST:Hid ((intF (fl.erd b (fl.er b+1))).2.torn=fl.torn):=st
   clear h H hw1 hw sB sP sE sp se st
   go_enter Tryz.func94,Tryz.ntmps94
   go_wp2_with fail
   refine HB.out.mono ?_
   rintro e w' ⟨rfl,rfl⟩
   clear HB
   go_wp2_with fail
   refine wp_region_pl (λ Y=>Y.cell? ⟨X,4,none⟩=some (.slice (some ⟨y.nb,0,none⟩) fl.B y.nc)/\Y.cell? ⟨y.nb,b,none⟩=some (.int .i64 (fl.er b))/\Y.cell? ⟨X,2,none⟩=some (.int .i64 fl.E)) ((0,0)::(1,0)::(2,0)::(3,0)::(4,0)::(5,0)::(6,0)::(7,0)::(8,0)::(9,0)::(10,0)::(11,0)::(12,0)::[]) (by kernel_rfl) (by kernel_rfl) ?_
   iterate 13 (apply wpP_go;rfl;rfl;exact S0.out;(rintro Z ⟨s0,s1,s2⟩;go_simp;exact rfl);intro K hK;go_simp;refine hK _ ?_;clear hK K)
   refine wpP_done ?_
   clear S0 c2 c4 c5 ce
   go_wp2_with fail
   clear hw1' c4' ce' fn
   refine HCU.out.mono ?_
   generalize intF (fl.erd b (fl.er b+1))=q at *
   obtain⟨stop,f2⟩:=q
   simp only at SB SP ST HS0
   rintro e w2 ⟨rfl,h2,k2⟩
   cases stop
   ·have H2:Hid (RW w2 D X y (f2.eras b 0 18446744073709551615)):=by rw[eras_zero];exact h2
    have HK2:Hid (Ch D w w2):=HC0.out.trans k2
    have HS:Hid (eraseF fl b=(0,f2.eras b fl.P 18446744073709551615)):=by
     show _=_
     rw[HS0.out];rfl
    have c7:=h2.c7
    rw[ST.out] at c7
    clear h2 k2 HCU HI0 HC0 HS0
    go_wp2_with fail
    clear c7
    go_loopw [7] (λz wr=>∃k:Nat,k<=fl.P/\z=.int .i64 (k:Int)/\Hid (RW wr D X y (f2.eras b k 18446744073709551615))/\Hid (Ch D w wr)) (λz _=>fl.P-(intOf z).toNat)
    case atStart=>exact⟨0,by omega,rfl,H2,HK2⟩
    case round=>
     clear H2 HK2
     obtain⟨k,hk,rfl,H2,HK2⟩:=hrel
     have c1:wr.cell? ⟨X,1,none⟩=some (.int .i64 fl.P):=by rw[<-SP.out];exact H2.out.c1
     by_cases hlt:k<fl.P
     ·have y0:(k:Int)<fl.P:=by omega
      have hb2:b<(f2.eras b k 18446744073709551615).B:=by rw[show(f2.eras b k 18446744073709551615).B=f2.B from rfl,SB.out];exact hb
      have hp2:k<(f2.eras b k 18446744073709551615).P:=by rw[show(f2.eras b k 18446744073709551615).P=f2.P from rfl,SP.out];exact hlt
      have hpg:(f2.eras b k 18446744073709551615).pg b k=f2.pg b k:=by
       show(if b=b/\k<k then _ else _)=_
       rw[if_neg (by omega)]
      have hln:=H2.out.len b k hb2 hp2
      rw[hpg] at hln
      have cg:=H2.out.cg hb2 hp2
      rw[hpg] at cg
      obtain⟨old,hold⟩:∃old:ByteArray,str (f2.pg b k)=.string old:=⟨_,rfl⟩
      obtain⟨be,hbe⟩:∃be:ByteArray,str blank=.string be:=⟨_,rfl⟩
      have ho1:old.data.toList=f2.pg b k:=by injection hold with hold;rw[<-hold]
      have hb1:be.data.toList=blank:=by injection hbe with hbe;rw[<-hbe]
      have hos:old.size=64:=by rw[<-hln,<-ho1,Array.length_toList];rfl
      have hbs:be.size=64:=by
       have:be.data.toList.length=64:=by rw[hb1];rfl
       rw[Array.length_toList] at this
       exact this
      rw[hold] at cg
      have S0:Hid (wr.drew.cell? ⟨X,3,none⟩=some (.slice (some ⟨y.pb,0,none⟩) fl.B y.pc)/\wr.drew.cell? ⟨y.pb,b,none⟩=some (.slice (some ⟨y.g b,0,none⟩) fl.P (y.cp b))/\wr.drew.cell? ⟨y.g b,k,none⟩=some (.string old)):=⟨by rw[<-SB.out];exact H2.out.c3,by rw[<-SP.out];exact H2.out.cs hb2,cg⟩
      have HER:=Hh (rerased_any wr.drew)
      rw[hbe] at HER
      have HCG:Hid (∀V,Calls Tryz.prog 143 #[.string old,.string be,.int .u64 (18446744073709551615:Nat)] V λe w'=>e=.returned (str (tornE 18446744073709551615 (f2.pg b k)))/\Below V.heap.size V w'):=λ V=>by
       have:=rmerge_any old be 18446744073709551615 V hos hbs (by omega)
       rw[hb1,ho1,mrgS_eras _ _ hln] at this
       exact this
      have HLN:Hid ((tornE 18446744073709551615 (f2.pg b k)).length=64):=by show _=_;rw[tornE_len];exact hln
      obtain⟨new,hnew⟩:∃new:ByteArray,str (tornE 18446744073709551615 (f2.pg b k))=.string new:=⟨_,rfl⟩
      rw[hnew] at HCG
      have HNEW:Hid (Value.string new=str (tornE 18446744073709551615 (f2.pg b k))):=hnew.symm
      have H2d:Hid (RW wr.drew D X y (f2.eras b k 18446744073709551615)):=H2.out.drew
      have HK2d:Hid (Ch D w wr.drew):=HK2.out.drew
      have hcpb:=H2.out.cp b hb2
      rw[show(f2.eras b k 18446744073709551615).P=f2.P from rfl,SP.out] at hcpb
      have hpcb:=H2.out.pc
      rw[show(f2.eras b k 18446744073709551615).B=f2.B from rfl,SB.out] at hpcb
      clear hold hbe ho1 hb1 hos hbs hnew hln hpg cg H2 HK2
      go_wp2_with fail
      refine wp_region_pl (λ Y=>Y.cell? ⟨X,3,none⟩=some (.slice (some ⟨y.pb,0,none⟩) fl.B y.pc)/\Y.cell? ⟨y.pb,b,none⟩=some (.slice (some ⟨y.g b,0,none⟩) fl.P (y.cp b))/\Y.cell? ⟨y.g b,k,none⟩=some (.string old)) ((0,0)::(1,0)::(2,0)::(3,0)::(4,0)::(5,0)::(6,0)::(7,0)::(8,0)::(9,0)::(10,0)::(11,0)::(12,0)::(13,0)::(14,0)::(15,0)::(16,0)::(17,0)::(19,0)::(18,1)::(20,1)::(21,0)::(22,2)::[]) (by kernel_rfl) (by kernel_rfl) ?_
      iterate 19 (apply wpP_go;rfl;rfl;exact S0.out;(rintro Z ⟨s0,s1,s2⟩;go_simp;exact rfl);intro K hK;go_simp;refine hK _ ?_;clear hK K)
      apply wpP_one
      rfl
      intro K hK
      go_simp
      refine HER.out.mono ?_
      rintro e V1 ⟨rfl,b1⟩
      have h3:=H2d.out.below b1
      have S1:Hid (V1.cell? ⟨X,3,none⟩=some (.slice (some ⟨y.pb,0,none⟩) fl.B y.pc)/\V1.cell? ⟨y.pb,b,none⟩=some (.slice (some ⟨y.g b,0,none⟩) fl.P (y.cp b))/\V1.cell? ⟨y.g b,k,none⟩=some (.string old)):=⟨by rw[<-SB.out];exact h3.c3,by rw[<-SP.out];exact h3.cs hb2,(b1.cell (p:=⟨y.g b,k,none⟩) (by exact(H2d.out.pag b hb2).lt)).trans S0.out.2.2⟩
      have H3:=Hh h3
      have HK3:Hid (Ch D w V1):=HK2d.out.trans (Ch.of_below b1 _)
      refine hK _ _ S1.out ?_
      clear hK K b1 h3 S0 H2d HK2d HER
      apply wpP_one
      rfl
      intro K hK
      go_simp
      refine(HCG.out V1).mono ?_
      rintro e V2 ⟨rfl,b2⟩
      have h4:=H3.out.below b2
      have S2:Hid (V2.cell? ⟨X,3,none⟩=some (.slice (some ⟨y.pb,0,none⟩) fl.B y.pc)/\V2.cell? ⟨y.pb,b,none⟩=some (.slice (some ⟨y.g b,0,none⟩) fl.P (y.cp b))/\V2.cell? ⟨y.g b,k,none⟩=some (.string old)):=⟨by rw[<-SB.out];exact h4.c3,by rw[<-SP.out];exact h4.cs hb2,(b2.cell (p:=⟨y.g b,k,none⟩) (by exact(H3.out.pag b hb2).lt)).trans S1.out.2.2⟩
      have fg:=(h4.pag b hb2).frozen k
      have cg:=S2.out.2.2
      have HS4:Hid (RW (V2.setCell ⟨y.g b,k,none⟩ (.string new)) D X y (f2.eras b (k+1) 18446744073709551615)):=by
       have:=h4.setPg hb2 hp2 HLN.out
       rw[eras_put] at this
       show RW _ _ _ _ _
       rw[HNEW.out]
       exact this
      have HK4:Hid (Ch D w (V2.setCell ⟨y.g b,k,none⟩ (.string new))):=(HK3.out.trans (Ch.of_below b2 _)).setCell (p:=⟨y.g b,k,none⟩) (λ_=>h4.dg b hb2) _
      refine hK _ _ S2.out ?_
      clear hK K b2 h4 S1 H3 HK3 HCG
      iterate 1 (apply wpP_go;rfl;rfl;exact S2.out;(rintro Z ⟨s0,s1,s2⟩;go_simp;exact rfl);intro K hK;go_simp;refine hK _ ?_;clear hK K)
      apply wpP_two
      rfl
      intro K hK
      go_simp
      refine hK _ _ ?_
      clear hK K
      refine wpP_done ?_
      clear S2 fg cg c1 HNEW HLN
      generalize V2.setCell ⟨y.g b,k,none⟩ (.string new)=V at *
      go_wp2_with fail
      go_roundw
      case rel=>exact⟨k+1,by omega,by go_num,HS4,HK4⟩
      case measure=>simp[intOf];omega
     ·have y0:¬(k:Int)<fl.P:=by omega
      have hke:k=fl.P:=by omega
      subst hke
      go_wp2_with fail
      go_ret
      rw[HS.out]
      exact⟨rfl,H2.out,HK2.out⟩
   ·have H2:Hid (RW w2 D X y (f2.eras b 0 fl.torn)):=by rw[eras_zero];exact h2
    have HK2:Hid (Ch D w w2):=HC0.out.trans k2
    have HS:Hid (eraseF fl b=(16,f2.eras b fl.P fl.torn)):=by
     show _=_
     rw[HS0.out];rfl
    have c7:=h2.c7
    rw[ST.out] at c7
    clear h2 k2 HCU HI0 HC0 HS0
    go_wp2_with fail
    clear c7
    go_loopw [7] (λz wr=>∃k:Nat,k<=fl.P/\z=.int .i64 (k:Int)/\Hid (RW wr D X y (f2.eras b k fl.torn))/\Hid (Ch D w wr)) (λz _=>fl.P-(intOf z).toNat)
    case atStart=>exact⟨0,by omega,rfl,H2,HK2⟩
    case round=>
     clear H2 HK2
     obtain⟨k,hk,rfl,H2,HK2⟩:=hrel
     have c1:wr.cell? ⟨X,1,none⟩=some (.int .i64 fl.P):=by rw[<-SP.out];exact H2.out.c1
     by_cases hlt:k<fl.P
     ·have y0:(k:Int)<fl.P:=by omega
      have hb2:b<(f2.eras b k fl.torn).B:=by rw[show(f2.eras b k fl.torn).B=f2.B from rfl,SB.out];exact hb
      have hp2:k<(f2.eras b k fl.torn).P:=by rw[show(f2.eras b k fl.torn).P=f2.P from rfl,SP.out];exact hlt
      have hpg:(f2.eras b k fl.torn).pg b k=f2.pg b k:=by
       show(if b=b/\k<k then _ else _)=_
       rw[if_neg (by omega)]
      have hln:=H2.out.len b k hb2 hp2
      rw[hpg] at hln
      have cg:=H2.out.cg hb2 hp2
      rw[hpg] at cg
      obtain⟨old,hold⟩:∃old:ByteArray,str (f2.pg b k)=.string old:=⟨_,rfl⟩
      obtain⟨be,hbe⟩:∃be:ByteArray,str blank=.string be:=⟨_,rfl⟩
      have ho1:old.data.toList=f2.pg b k:=by injection hold with hold;rw[<-hold]
      have hb1:be.data.toList=blank:=by injection hbe with hbe;rw[<-hbe]
      have hos:old.size=64:=by rw[<-hln,<-ho1,Array.length_toList];rfl
      have hbs:be.size=64:=by
       have:be.data.toList.length=64:=by rw[hb1];rfl
       rw[Array.length_toList] at this
       exact this
      rw[hold] at cg
      have S0:Hid (wr.drew.cell? ⟨X,3,none⟩=some (.slice (some ⟨y.pb,0,none⟩) fl.B y.pc)/\wr.drew.cell? ⟨y.pb,b,none⟩=some (.slice (some ⟨y.g b,0,none⟩) fl.P (y.cp b))/\wr.drew.cell? ⟨y.g b,k,none⟩=some (.string old)):=⟨by rw[<-SB.out];exact H2.out.c3,by rw[<-SP.out];exact H2.out.cs hb2,cg⟩
      have HER:=Hh (rerased_any wr.drew)
      rw[hbe] at HER
      have HCG:Hid (∀V,Calls Tryz.prog 143 #[.string old,.string be,.int .u64 (fl.torn:Nat)] V λe w'=>e=.returned (str (tornE fl.torn (f2.pg b k)))/\Below V.heap.size V w'):=λ V=>by
       have:=rmerge_any old be fl.torn V hos hbs (by omega)
       rw[hb1,ho1,mrgS_eras _ _ hln] at this
       exact this
      have HLN:Hid ((tornE fl.torn (f2.pg b k)).length=64):=by show _=_;rw[tornE_len];exact hln
      obtain⟨new,hnew⟩:∃new:ByteArray,str (tornE fl.torn (f2.pg b k))=.string new:=⟨_,rfl⟩
      rw[hnew] at HCG
      have HNEW:Hid (Value.string new=str (tornE fl.torn (f2.pg b k))):=hnew.symm
      have H2d:Hid (RW wr.drew D X y (f2.eras b k fl.torn)):=H2.out.drew
      have HK2d:Hid (Ch D w wr.drew):=HK2.out.drew
      have hcpb:=H2.out.cp b hb2
      rw[show(f2.eras b k fl.torn).P=f2.P from rfl,SP.out] at hcpb
      have hpcb:=H2.out.pc
      rw[show(f2.eras b k fl.torn).B=f2.B from rfl,SB.out] at hpcb
      clear hold hbe ho1 hb1 hos hbs hnew hln hpg cg H2 HK2
      go_wp2_with fail
      refine wp_region_pl (λ Y=>Y.cell? ⟨X,3,none⟩=some (.slice (some ⟨y.pb,0,none⟩) fl.B y.pc)/\Y.cell? ⟨y.pb,b,none⟩=some (.slice (some ⟨y.g b,0,none⟩) fl.P (y.cp b))/\Y.cell? ⟨y.g b,k,none⟩=some (.string old)) ((0,0)::(1,0)::(2,0)::(3,0)::(4,0)::(5,0)::(6,0)::(7,0)::(8,0)::(9,0)::(10,0)::(11,0)::(12,0)::(13,0)::(14,0)::(15,0)::(16,0)::(17,0)::(19,0)::(18,1)::(20,1)::(21,0)::(22,2)::[]) (by kernel_rfl) (by kernel_rfl) ?_
      iterate 19 (apply wpP_go;rfl;rfl;exact S0.out;(rintro Z ⟨s0,s1,s2⟩;go_simp;exact rfl);intro K hK;go_simp;refine hK _ ?_;clear hK K)
      apply wpP_one
      rfl
      intro K hK
      go_simp
      refine HER.out.mono ?_
      rintro e V1 ⟨rfl,b1⟩
      have h3:=H2d.out.below b1
      have S1:Hid (V1.cell? ⟨X,3,none⟩=some (.slice (some ⟨y.pb,0,none⟩) fl.B y.pc)/\V1.cell? ⟨y.pb,b,none⟩=some (.slice (some ⟨y.g b,0,none⟩) fl.P (y.cp b))/\V1.cell? ⟨y.g b,k,none⟩=some (.string old)):=⟨by rw[<-SB.out];exact h3.c3,by rw[<-SP.out];exact h3.cs hb2,(b1.cell (p:=⟨y.g b,k,none⟩) (by exact(H2d.out.pag b hb2).lt)).trans S0.out.2.2⟩
      have H3:=Hh h3
      have HK3:Hid (Ch D w V1):=HK2d.out.trans (Ch.of_below b1 _)
      refine hK _ _ S1.out ?_
      clear hK K b1 h3 S0 H2d HK2d HER
      apply wpP_one
      rfl
      intro K hK
      go_simp
      refine(HCG.out V1).mono ?_
      rintro e V2 ⟨rfl,b2⟩
      have h4:=H3.out.below b2
      have S2:Hid (V2.cell? ⟨X,3,none⟩=some (.slice (some ⟨y.pb,0,none⟩) fl.B y.pc)/\V2.cell? ⟨y.pb,b,none⟩=some (.slice (some ⟨y.g b,0,none⟩) fl.P (y.cp b))/\V2.cell? ⟨y.g b,k,none⟩=some (.string old)):=⟨by rw[<-SB.out];exact h4.c3,by rw[<-SP.out];exact h4.cs hb2,(b2.cell (p:=⟨y.g b,k,none⟩) (by exact(H3.out.pag b hb2).lt)).trans S1.out.2.2⟩
      have fg:=(h4.pag b hb2).frozen k
      have cg:=S2.out.2.2
      have HS4:Hid (RW (V2.setCell ⟨y.g b,k,none⟩ (.string new)) D X y (f2.eras b (k+1) fl.torn)):=by
       have:=h4.setPg hb2 hp2 HLN.out
       rw[eras_put] at this
       show RW _ _ _ _ _
       rw[HNEW.out]
       exact this
      have HK4:Hid (Ch D w (V2.setCell ⟨y.g b,k,none⟩ (.string new))):=(HK3.out.trans (Ch.of_below b2 _)).setCell (p:=⟨y.g b,k,none⟩) (λ_=>h4.dg b hb2) _
      refine hK _ _ S2.out ?_
      clear hK K b2 h4 S1 H3 HK3 HCG
      iterate 1 (apply wpP_go;rfl;rfl;exact S2.out;(rintro Z ⟨s0,s1,s2⟩;go_simp;exact rfl);intro K hK;go_simp;refine hK _ ?_;clear hK K)
      apply wpP_two
      rfl
      intro K hK
      go_simp
      refine hK _ _ ?_
      clear hK K
      refine wpP_done ?_
      clear S2 fg cg c1 HNEW HLN
      generalize V2.setCell ⟨y.g b,k,none⟩ (.string new)=V at *
      go_wp2_with fail
      go_roundw
      case rel=>exact⟨k+1,by omega,by go_num,HS4,HK4⟩
      case measure=>simp[intOf];omega
     ·have y0:¬(k:Int)<fl.P:=by omega
      have hke:k=fl.P:=by omega
      subst hke
      go_wp2_with fail
      go_ret
      rw[HS.out]
      exact⟨rfl,H2.out,HK2.out⟩
 ·rw[ho] at c5
  have HS:Hid (eraseF fl b=(16,fl)):=by show _=_;unfold eraseF;rw[if_pos ho]
  clear h
  go_enter Tryz.func94,Tryz.ntmps94
  go_wp2_with fail
  refine HB.out.mono ?_
  rintro e w' ⟨rfl,rfl⟩
  go_wp2_with fail
  go_ret
  rw[HS.out]
  exact⟨rfl,H.out,Ch.refl _ _⟩
end
end Go.Proofs.YtdinbpdpalgohaaGreatDoor
