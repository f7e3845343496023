/- Walks and laws: BA BB BC BD BE BF BG BH. Conditions: those that each theorem names. -/
import Derived.Deep.AppendLies
import Derived.Test.YtdinbpdpalgohaaGreatDoorX6
import Derived.Test.YtdinbpdpalgohaaGreatDoorX4
import Derived.Test.YtdinbpdpalgohaaGreatDoorX5
import Derived.Test.YtdinbpdpalgohaaGreatDoorX8
import Derived.Test.YtdinbpdpalgohaaGreatDoorX7
import Derived.Test.YtdinbpdpalgohaaGreatDoorX1
set_option maxHeartbeats 4000000
set_option maxRecDepth 100000
namespace Go.Proofs.YtdinbpdpalgohaaGreatDoor
open Go.RowKit
def nmE (i:Nat):Str:=[69,110,116,114,121,UInt8.ofNat i]
def nmO:Str:=[79,114,100,101,114]
def nmN:Str:=[78,101,120,116]
def nmD:Str:=[68,101,110,105,101,100]
def nmX:Str:=[111,116,104,101,114]
def isId (i:Int):Bool:=decide (0<=i)&&decide (i<16)
theorem isId_iff {i:Int}:isId i=true↔0<=i/\i<16:=by simp[isId]
def okE (v:Str):Bool:=decide (v.length=35)&&decide ((v.getD 32 0).toNat<=1)
theorem okE_len {v:Str}(h:okE v=true):v.length=35:=by simp[okE] at h;exact h.1
def entV (V:Vars)(i:Int):Option Str:=if isId i=true then (getV V (nmE i.toNat)).filter okE else none
theorem entV_some {V:Vars}{i:Int}{v:Str}(h:entV V i=some v):isId i=true/\getV V (nmE i.toNat)=some v/\okE v=true:=by
 unfold entV at h
 split at h
 ·rename_i h1
  rw[Option.filter_eq_some_iff] at h
  exact⟨h1,h⟩
 ·cases h
def okO (l:List Int):Bool:=decide (l.Nodup/\∀x∈l,isId x=true)
def byI (v:Str):List Int:=v.map λb=>(b.toNat:Int)
def ordV (V:Vars):List Int:=match getV V nmO with
 | some v=>if okO (byI v)=true then byI v else []
 | none=>[]
def chunk (v:Str):List Str:=(List.range (v.length/32)).map λi=>(v.drop (i*32)).take 32
def denV (V:Vars):List Str:=match getV V nmD with
 | some v=>if v.length%32=0/\v.length<=128 then chunk v else []
 | none=>[]
def nxtV (V:Vars):List Int:=match getV V nmN with
 | some [b]=>if isId b.toNat=true then [(b.toNat:Int)] else []
 | _=>[]
def cndV (V:Vars):List Int:=nxtV V++(ordV V).filter (λx=>!(nxtV V).contains x)
theorem nxtV_id {V:Vars}:∀x∈nxtV V,isId x=true:=by
 intro x hx
 unfold nxtV at hx
 split at hx
 ·split at hx
  ·rename_i h;rw[List.mem_singleton.1 hx];exact h
  ·cases hx
 ·cases hx
theorem ordV_ok (V:Vars):okO (ordV V)=true:=by
 unfold ordV
 split
 ·split
  ·assumption
  ·rfl
 ·rfl
theorem okO_id {l:List Int}(h:okO l=true):∀x∈l,isId x=true:=(decide_eq_true_iff.1 h).2
theorem okO_nodup {l:List Int}(h:okO l=true):l.Nodup:=(decide_eq_true_iff.1 h).1
theorem nxtV_len (V:Vars):(nxtV V).length<=1:=by
 unfold nxtV
 split
 ·split<;>simp
 ·simp
theorem cndV_id {V:Vars}:∀x∈cndV V,isId x=true:=by
 intro x hx
 rcases List.mem_append.1 hx with h|h
 ·exact nxtV_id x h
 ·exact okO_id (ordV_ok V) x (List.mem_filter.1 h).1
theorem nodup_le:∀(n:Nat) (l:List Int),l.Nodup->(∀x∈l,0<=x/\x<(n:Int))->l.length<=n
 | 0,l,_,h=>by
  cases l with
  | nil=>exact Nat.le_refl _
  | cons x r=>have:=h x (List.mem_cons_self ..);omega
 | n+1,l,hd,h=>by
  have ih:=nodup_le n (l.erase (n:Int)) (hd.erase _) (λx hx=>by
   have h1:=h x (List.mem_of_mem_erase hx)
   have h2:x≠(n:Int):=λe=>(hd.not_mem_erase) (by rw[e] at hx;exact hx)
   omega)
  by_cases hm:(n:Int)∈l
  ·rw[List.length_erase_of_mem hm] at ih;omega
  ·rw[List.erase_of_not_mem hm] at ih;omega
theorem okO_len {l:List Int}(h:okO l=true):l.length<=16:=nodup_le 16 l (okO_nodup h) (λx hx=>isId_iff.1 (okO_id h x hx))
theorem chunk_len (v:Str):(chunk v).length=v.length/32:=by simp[chunk]
theorem chunk_32 {v:Str}:∀d∈chunk v,d.length=32:=by
 intro d hd
 obtain⟨i,hi,rfl⟩:=List.mem_map.1 hd
 have:=List.mem_range.1 hi
 rw[List.length_take,List.length_drop]
 omega
theorem denV_32 {V:Vars}:∀d∈denV V,d.length=32:=by
 unfold denV
 split
 ·split
  ·exact chunk_32
  ·intro d hd;cases hd
 ·intro d hd;cases hd
theorem denV_len (V:Vars):(denV V).length<=4:=by
 unfold denV
 split
 ·split
  ·rw[chunk_len];omega
  ·exact Nat.zero_le _
 ·exact Nat.zero_le _
theorem chunk_flat:∀(l:List Str),(∀d∈l,d.length=32)->l.flatten.length=l.length*32/\chunk l.flatten=l
 | [],_=>⟨rfl,rfl⟩
 | d::r,h=>by
  have hd:=h d (List.mem_cons_self ..)
  obtain⟨h1,h2⟩:=chunk_flat r (λe he=>h e (List.mem_cons_of_mem _ he))
  have hl:(d::r).flatten.length=(d::r).length*32:=by rw[List.flatten_cons,List.length_append,hd,h1,List.length_cons];omega
  refine⟨hl,?_⟩
  conv=>rhs;rw[<-h2]
  unfold chunk
  rw[hl,h1,List.length_cons,show(r.length+1)*32/32=r.length+1 by omega,show r.length*32/32=r.length by omega,List.range_succ_eq_map,List.map_cons,List.flatten_cons,List.map_map]
  congr 1
  ·simp[hd]
  ·apply List.map_congr_left
   intro i _
   show((d++r.flatten).drop ((i+1)*32)).take 32=_
   rw[show(i+1)*32=d.length+i*32 by omega,List.drop_append,List.drop_eq_nil_of_le (by omega),List.nil_append,show d.length+i*32-d.length=i*32 by omega]
def entS (d:Str)(a:Bool)(n u:Nat):Str:=d++[if a=true then 1 else 0,UInt8.ofNat n,UInt8.ofNat u]
theorem entS_len {d:Str}(h:d.length=32)(a:Bool)(n u:Nat):(entS d a n u).length=35:=by simp[entS,h]
theorem entS_32 {d:Str}(h:d.length=32)(a:Bool)(n u:Nat):(entS d a n u).getD 32 0=if a=true then 1 else 0:=by
 unfold entS
 rw[List.getD_eq_getElem?_getD,List.getElem?_append_right (by omega),h]
 rfl
theorem entS_33 {d:Str}(h:d.length=32)(a:Bool)(n u:Nat):(entS d a n u).getD 33 0=UInt8.ofNat n:=by
 unfold entS
 rw[List.getD_eq_getElem?_getD,List.getElem?_append_right (by omega),h]
 rfl
theorem entS_34 {d:Str}(h:d.length=32)(a:Bool)(n u:Nat):(entS d a n u).getD 34 0=UInt8.ofNat u:=by
 unfold entS
 rw[List.getD_eq_getElem?_getD,List.getElem?_append_right (by omega),h]
 rfl
theorem entS_take {d:Str}(h:d.length=32)(a:Bool)(n u:Nat):(entS d a n u).take 32=d:=by
 unfold entS
 rw[<-h,List.take_left]
theorem okE_entS {d:Str}(h:d.length=32)(a:Bool)(n u:Nat):okE (entS d a n u)=true:=by
 unfold okE
 rw[entS_len h,entS_32 h]
 cases a<;>rfl
theorem nmE_inj {i j:Nat}(hi:i<256)(hj:j<256)(h:nmE i=nmE j):i=j:=by
 have:UInt8.ofNat i=UInt8.ofNat j:=by
  unfold nmE at h
  simpa using h
 have h2:=congrArg UInt8.toNat this
 simp at h2
 omega
theorem nmE_len (i:Nat):(nmE i).length=6:=rfl
def okVar (p:Str×Str):Prop:=(∃i,i<16/\p.1=nmE i/\p.2.length=35)\/(p.1=nmO/\p.2.length<=16)\/(p.1=nmN/\p.2.length=1)\/(p.1=nmD/\p.2.length<=128)\/(p.1=nmX/\p.2.length<=50)
def VOK (V:Vars):Prop:=∀p∈V,okVar p
theorem VOK.set {V:Vars}(h:VOK V){n v:Str}(k:okVar (n,v)):VOK (setV V n v):=λp hp=>by
 rcases mem_setV hp with rfl|e
 ·exact k
 ·exact h p e
theorem VOK.del {V:Vars}(h:VOK V)(n:Str):VOK (delV V n):=λp hp=>h p (List.mem_filter.1 hp).1
def wt (n:Str):Nat:=if n=nmD then 3 else 1
def wsum (l:List Str):Nat:=(l.map wt).sum
theorem wsum_erase:∀{l:List Str} {k:Str},k∈l->wsum l=wt k+wsum (l.erase k)
 | x::r,k,h=>by
  by_cases e:x=k
  ·subst e;rw[List.erase_cons_head];rfl
  ·have hb:(x==k)=false:=by simpa using e
   have hm:k∈r:=(List.mem_cons.1 h).resolve_left (λq=>e q.symm)
   have ih:=wsum_erase hm
   rw[List.erase_cons_tail (by simpa using e)]
   have h1:wsum (x::r)=wt x+wsum r:=rfl
   have h2:wsum (x::r.erase k)=wt x+wsum (r.erase k):=rfl
   omega
theorem wsum_sub:∀(V:Vars) (ns:List Str),Srt V->(∀p∈V,p.1∈ns/\pgs (recd 1 p.1 p.2).length<=wt p.1)->sumP (recs V)<=wsum ns
 | [],_,_,_=>Nat.zero_le _
 | p::r,ns,hs,h=>by
  have h':=List.pairwise_cons.1 hs
  have hp:=h p (List.mem_cons_self ..)
  have ih:=wsum_sub r (ns.erase p.1) h'.2 (λq hq=>by
   have k:=h q (List.mem_cons_of_mem _ hq)
   refine⟨?_,k.2⟩
   have hne:q.1≠p.1:=λe=>List.lt_irrefl _ (by have:=h'.1 q hq;rw[e] at this;exact this)
   exact(List.mem_erase_of_ne hne).2 k.1)
  have e:sumP (recs (p::r))=pgs (recd 1 p.1 p.2).length+sumP (recs r):=rfl
  have h3:=wsum_erase hp.1
  omega
def nms:List Str:=nmX::nmO::nmN::nmD::(List.range 16).map nmE
theorem nms_sum:wsum nms=22:=by decide +kernel
theorem VOK.cap {V:Vars}(h:VOK V)(hs:Srt V):sumP (recs V)<=22:=by
 rw[<-nms_sum]
 refine wsum_sub V nms hs (λp hp=>?_)
 have hl:=recd_len 1 p.1 p.2
 rw[hl]
 unfold pgs
 rcases h p hp with ⟨i,hi,e,h2⟩|⟨e,h2⟩|⟨e,h2⟩|⟨e,h2⟩|⟨e,h2⟩
 ·rw[e,h2]
  refine⟨?_,?_⟩
  ·unfold nms
   simp only[List.mem_cons]
   right;right;right;right
   exact List.mem_map.2 ⟨i,List.mem_range.2 hi,rfl⟩
  ·have:wt (nmE i)=1:=if_neg (λq=>by unfold nmE nmD at q;simp at q)
   rw[this,nmE_len];omega
 ·rw[e];refine⟨by simp[nms],?_⟩
  have:nmO.length=5:=rfl
  have:wt nmO=1:=by decide
  omega
 ·rw[e];refine⟨by simp[nms],?_⟩
  have:nmN.length=4:=rfl
  have:wt nmN=1:=by decide
  omega
 ·rw[e];refine⟨by simp[nms],?_⟩
  have:nmD.length=6:=rfl
  have:wt nmD=3:=by decide
  omega
 ·rw[e];refine⟨by simp[nms],?_⟩
  have:nmX.length=5:=rfl
  have:wt nmX=1:=by decide
  omega
theorem okVar.lens {n v:Str}(h:okVar (n,v)):okLens 1 n.length v.length=true:=by
 have h6:nmD.length=6:=rfl
 have h5:nmO.length=5:=rfl
 have h4:nmN.length=4:=rfl
 have h3:nmX.length=5:=rfl
 unfold okLens
 rcases h with ⟨i,hi,e,h2⟩|⟨e,h2⟩|⟨e,h2⟩|⟨e,h2⟩|⟨e,h2⟩<;>(dsimp only at e h2;subst e;simp only[nmE_len,h6,h5,h4,h3,h2];simp;try omega)
structure Cal (m k:Nat)(fl:FL)(st:ST):Prop where
 inv:Inv fl st
 cut:fl.cut=false
 E:fl.E=m
 hm:m<=1000000
 P:23<=fl.P
 gen:st.gen<=k+1
 er:∀c,fl.er c<=k
 ok:VOK st.V
theorem Cal.mono {m k k':Nat}{fl:FL}{st:ST}(h:Cal m k fl st)(hk:k<=k'):Cal m k' fl st:={ h with gen:=Nat.le_trans h.gen (by omega),er:=λc=>Nat.le_trans (h.er c) hk }
def CalR (m k:Nat)(V:Vars)(r:Int×FL×ST):Prop:=∃g st',r=(0,g,st')/\Cal m (k+1) g st'/\st'.V=V
theorem Cal.chg {m k:Nat}{fl:FL}{st:ST}(h:Cal m k fl st)(hk:k<m){q:Nat}(hq:q=1\/q=2){n v:Str}(hok:okLens q n.length v.length=true)(hV:VOK (chgV st.V q n v)) :
  CalR m k (chgV st.V q n v) (chgF fl st q n v):=by
 have hgen:=h.gen
 have hm:=h.hm
 rcases chgF_cases h.inv hq hok (by omega) with ⟨g,st',e,h1,h2,h3,h4,_,h6⟩|⟨_,hf|hf⟩|⟨hl,_⟩
 ·refine⟨g,st',e,⟨h1,h4 h.cut,by rw[h3.2.2.1];exact h.E,h.hm,by rw[h3.2.1];exact h.P,?_,λc=>?_,by rw[h2];exact hV⟩,h2⟩
  ·rcases h6 with ⟨_,e,_⟩|⟨_,_,e,_⟩<;>omega
  ·have:=h.er c
   rcases h6 with ⟨_,_,e⟩|⟨bl,_,_,e⟩
   ·rw[e];omega
   ·rw[e]
    cases bl
    ·have:=bump_le fl.er st'.blk c
     show(if false=true then fl.er else bump fl.er st'.blk) c<=_
     rw[if_neg (by simp)];omega
    ·show(if true=true then fl.er else bump fl.er st'.blk) c<=_
     rw[if_pos rfl];omega
 ·have:=hV.cap (chgV_srtI h.inv hq)
  have:=h.P
  omega
 ·exfalso
  have hB:=h.inv.B2
  have hE:=h.E
  have hbb:=h.inv.blk
  by_cases e:st.blk=0
  ·exact absurd (.inr (by rw[hE];have:=h.er 1;omega)) (hf 1 (by omega) (by omega))
  ·exact absurd (.inr (by rw[hE];have:=h.er 0;omega)) (hf 0 (by omega) (λk=>e k.symm))
 ·rw[h.cut] at hl;cases hl
theorem Cal.set {m k:Nat}{fl:FL}{st:ST}(h:Cal m k fl st)(hk:k<m){n v:Str}(ho:okVar (n,v)):CalR m k (setV st.V n v) (setF fl st n v):=by
 have hok:=ho.lens
 unfold setF
 rw[if_neg (by rw[hok];simp)]
 split
 ·rename_i hg
  exact⟨fl,st,rfl,h.mono (Nat.le_succ _),(setV_same h.inv.srt hg).symm⟩
 ·exact h.chg hk (q:=1) (.inl rfl) hok (h.ok.set ho)
theorem Cal.del {m k:Nat}{fl:FL}{st:ST}(h:Cal m k fl st)(hk:k<m){n v:Str}(hn:okLens 2 n.length 0=true)(hg:getV st.V n=some v):CalR m k (delV st.V n) (delF fl st n):=by
 unfold delF
 rw[if_neg (by rw[hn];simp),if_neg (by rw[hg];simp)]
 exact h.chg hk (q:=2) (.inr rfl) (v:=[]) hn (h.ok.del n)
theorem cal_new {B P m:Nat}(hB:2<=B)(hP:23<=P)(hm:m<=1000000):∃f1,fmtF (newF B P m)=(0,f1)/\Cal m 0 f1 st0:=by
 obtain⟨f1,h1,h2,h3,h4,h5,h6⟩:=fmt_new (B:=B) (P:=P) (E:=m) hB (by omega)
 exact⟨f1,h1,h2,h5,h3.2.2.1,hm,by rw[h3.2.1];exact hP,Nat.le_refl _,λc=>by rw[h4];exact Nat.le_refl _,λp hp=>by cases hp⟩
section
structure BM where
 fl:FL
 st:ST
 cand:List Int
 log:List (Int×Int)
 last:Int
 es:List Ms.Ev
def mgv (S L:Nat)(vc vl:Value)(last:Int)(j:Nat):Value:=if j=0 then fptr S else if j=1 then fptr L else if j=2 then vc else if j=3 then vl else .int .i64 last
def stv (l:List (Int×Int)):List Value:=l.flatMap λp=>[.int .i64 p.1,.int .i64 p.2]
theorem stv_len (l:List (Int×Int)):(stv l).length=l.length*2:=by
 induction l with
 | nil=>rfl
 | cons p r ih=>simp only[stv,List.flatMap_cons,List.length_append,List.length_cons,List.length_nil] at ih ⊢;omega
theorem stv_snoc (l:List (Int×Int))(p:Int×Int):stv (l++[p])=stv l++[.int .i64 p.1,.int .i64 p.2]:=by simp[stv]
def RdI (w:World)(v:Value)(l:List Int):Prop:=∃a c,v=.slice a l.length c/\l.length<=c/\c<=maxLen/\(∀g,v.ownBlock=some g->g<w.heap.size)/\(l≠[]->∃g o,a=some ⟨g,o,none⟩/\∀i x,l[i]? = some x->w.cell? ⟨g,o+i,none⟩=some (.int .i64 x))
section
variable {w w':World}{v:Value}{l:List Int}
theorem RdI.ch {C:Nat->Prop}(h:RdI w v l)(c:Ch C w w')(hC:∀g,v.ownBlock=some g->¬C g):RdI w' v l:=by
 obtain⟨a,n,rfl,h1,h2,h3,h4⟩:=h
 refine⟨a,n,rfl,h1,h2,λg hg=>Nat.lt_of_lt_of_le (h3 g hg) c.size,λhne=>?_⟩
 obtain⟨g,o,rfl,hx⟩:=h4 hne
 have hg:(Value.slice (some ⟨g,o,none⟩) l.length n).ownBlock=some g:=rfl
 exact⟨g,o,rfl,λi x hi=>(c.cell ⟨g,o+i,none⟩ (h3 g hg) (hC g hg)).trans (hx i x hi)⟩
theorem RdI.below (h:RdI w v l)(b:Below w.heap.size w w'):RdI w' v l:=h.ch (Ch.of_below b (λ_=>False)) (λ_ _ h=>h)
theorem RdI.nil (w:World):RdI w (.slice none 0 0) []:=⟨none,0,rfl,Nat.le_refl _,by decide,(λ_ h=>(by cases h)),λh=>absurd rfl h⟩
theorem RdI.tail {x:Int}{r:List Int}(h:RdI w v (x::r)):∃g o c,v=.slice (some ⟨g,o,none⟩) (r.length+1) c/\r.length+1<=c/\c<=maxLen/\w.cell? ⟨g,o,none⟩=some (.int .i64 x)/\g<w.heap.size/\RdI w (.slice (some ⟨g,o+1,none⟩) r.length (c-1)) r:=by
 obtain⟨a,c,rfl,h1,h2,h3,h4⟩:=h
 obtain⟨g,o,rfl,hx⟩:=h4 (by simp)
 rw[List.length_cons] at h1 h3
 refine⟨g,o,c,rfl,h1,h2,hx 0 x rfl,h3 g rfl,_,_,rfl,by omega,by omega,λk hk=>?_,λ_=>⟨g,o+1,rfl,λi y hi=>?_⟩⟩
 ·have e:g=k:=by simpa[Value.ownBlock] using hk
  rw[<-e];exact h3 g rfl
 ·have:=hx (i+1) y (by simpa using hi)
  rw[show o+1+i=o+(i+1) by omega]
  exact this
end
section
variable {w w':World}{N t sz n g cap:Nat}{v:Value}{xs:List Value}
theorem ownN_rg (h:w.ownsRow N t sz v n xs)(e:v.ownBlock=some g):Rg w g t 0 (λ_=>.bool false)/\N<=g:=by
 rcases h.2 with ⟨rfl,_⟩|⟨g',cap,cur,rfl,hb,hh,_⟩
 ·cases e
 ·have e:g'=g:=by simpa[Value.ownBlock] using e
  subst e
  exact⟨⟨cur,hh,λi hi=>by omega⟩,hb⟩
theorem ownN_ch {C:Nat->Prop}(h:w.ownsRow N t sz v n xs)(c:Ch C w w')(hC:∀g,v.ownBlock=some g->¬C g):w'.ownsRow N t sz v n xs:=by
 refine⟨h.1,?_⟩
 rcases h.2 with h1|⟨g',cap,cur,rfl,h2,hh,r⟩
 ·exact .inl h1
 ·exact .inr ⟨g',cap,cur,rfl,h2,(c.block g' (heap_lt hh) (hC g' rfl)).trans hh,r⟩
end
structure BI (w:World)(N:Nat)(O:Nat->Prop)(R:Nat->Nat)(D DS:Nat->Prop)(X m:Nat)(y:FLay)(ve vc vl:Value)(M S L n:Nat)(b:BM):Prop where
 f:FW w D X y b.fl
 s:SW w DS S X m n b.st
 g:Ms.LG w L (Ms.regs b.es) ve
 e:w.ownsRow N 62 34 ve b.es.length (Ms.evs b.es)
 t:Row w M 117 5 (mgv S L vc vl b.last)
 c:RdI w vc b.cand
 l:w.ownsRow N 40 2 vl b.log.length (stv b.log)
 rD:∀k,D k->R k=1
 rS:∀k,DS k->R k=2
 rL:R L=3
 rE:∀k,ve.ownBlock=some k->R k=3
 rM:R M=4
 rl:∀k,vl.ownBlock=some k->R k=4
 rC:∀k,vc.ownBlock=some k->R k=5
 hO:∀k,R k≠0->O k
 oN:∀k,O k->N<=k/\k<w.heap.size
 rnd:Ms.Rnd w
 h0:0<N
 hN:N<=w.heap.size
def BW (w:World)(N:Nat)(O:Nat->Prop)(M S L n:Nat)(b:BM):Prop:=∃R D DS X m y ve vc vl,BI w N O R D DS X m y ve vc vl M S L n b
def MLeft (w w':World)(N:Nat)(O:Nat->Prop)(M S L n:Nat)(b:BM):Prop:=∃O',(∀k,O' k->O k\/w.heap.size<=k)/\BW w' N O' M S L n b/\Ch O w w'
theorem rnd_ch {C:Nat->Prop}{w w':World}(h:Ms.Rnd w)(c:Ch C w w')(h0:¬C 0)(hs:0<w.heap.size):Ms.Rnd w':=λi hi=>(c.cell ⟨0,i,none⟩ hs h0).trans (h i hi)
section
variable {w w':World}{N M S L n:Nat}{O:Nat->Prop}{R:Nat->Nat}{D DS:Nat->Prop}{X m:Nat}{y:FLay}{ve vc vl:Value}{b:BM}
theorem BI.ch {C:Nat->Prop}(h:BI w N O R D DS X m y ve vc vl M S L n b)(c:Ch C w w')(hC:∀k,C k->R k=0/\0<k):BI w' N O R D DS X m y ve vc vl M S L n b:=by
 have hs:0<w.heap.size:=Nat.lt_of_lt_of_le h.h0 h.hN
 have key:∀{k q},R k=q+1->¬C k:=λe hk=>by have:=(hC _ hk).1;omega
 exact { h with
  f:=h.f.ch c (λk hk=>key (h.rD k hk)),s:=h.s.ch c (λk hk=>key (h.rS k hk)),g:=Row.ch h.g c (key h.rL),e:=ownN_ch h.e c (λk hk=>key (h.rE k hk)),
  t:=h.t.ch c (key h.rM),c:=h.c.ch c (λk hk=>key (h.rC k hk)),l:=ownN_ch h.l c (λk hk=>key (h.rl k hk)),
  oN:=λk hk=>⟨(h.oN k hk).1,Nat.lt_of_lt_of_le (h.oN k hk).2 c.size⟩,rnd:=rnd_ch h.rnd c (λe=>by have:=(hC 0 e).2;omega) hs,hN:=Nat.le_trans h.hN c.size }
theorem BW.ch {C:Nat->Prop}(h:BW w N O M S L n b)(c:Ch C w w')(hC:∀k,C k->¬O k/\0<k):BW w' N O M S L n b:=by
 obtain⟨R,D,DS,X,m,y,ve,vc,vl,h⟩:=h
 exact⟨R,D,DS,X,m,y,ve,vc,vl,h.ch c (λk hk=>⟨Classical.byContradiction λe=>(hC k hk).1 (h.hO k e),(hC k hk).2⟩)⟩
theorem BW.below (h:BW w N O M S L n b)(c:Below w.heap.size w w'):BW w' N O M S L n b:=h.ch (Ch.of_below c (λ_=>False)) (λ_ h=>h.elim)
theorem BW.drew (h:BW w N O M S L n b):BW w.drew N O M S L n b:=h.below ((Below.refl _ _).drew)
theorem BW.mono (h:BW w N O M S L n b){n':Nat}(hn:n<=n'):BW w N O M S L n' b:=by
 obtain⟨R,D,DS,X,m,y,ve,vc,vl,h⟩:=h
 exact⟨R,D,DS,X,m,y,ve,vc,vl,{ h with s:=h.s.mono hn }⟩
theorem BW.rnd (h:BW w N O M S L n b):Ms.Rnd w:=by obtain⟨R,D,DS,X,m,y,ve,vc,vl,h⟩:=h;exact h.rnd
theorem BW.pos (h:BW w N O M S L n b):0<w.heap.size:=by obtain⟨R,D,DS,X,m,y,ve,vc,vl,h⟩:=h;exact Nat.lt_of_lt_of_le h.h0 h.hN
theorem BW.N_le (h:BW w N O M S L n b):N<=w.heap.size:=by obtain⟨R,D,DS,X,m,y,ve,vc,vl,h⟩:=h;exact h.hN
theorem BW.oN (h:BW w N O M S L n b):∀k,O k->N<=k/\k<w.heap.size:=by obtain⟨R,D,DS,X,m,y,ve,vc,vl,h⟩:=h;exact h.oN
theorem BW.below_of (h:BW w N O M S L n b)(c:Ch O w w'):Below N w w':=c.below h.N_le (λi hi=>(h.oN i hi).1)
theorem BW.M_lt (h:BW w N O M S L n b):M<w.heap.size:=by obtain⟨R,D,DS,X,m,y,ve,vc,vl,h⟩:=h;exact h.t.lt
theorem BW.OM (h:BW w N O M S L n b):O M:=by obtain⟨R,D,DS,X,m,y,ve,vc,vl,h⟩:=h;exact h.hO M (by rw[h.rM];omega)
theorem MLeft.same (h:BW w' N O M S L n b)(c:Ch O w w'):MLeft w w' N O M S L n b:=⟨O,λ_ h=>.inl h,h,c⟩
theorem MLeft.andThen {w1:World}{O1:Nat->Prop}(h1:Ch O w w1)(hO:∀k,O1 k->O k\/w.heap.size<=k)(h2:MLeft w1 w' N O1 M S L n b):MLeft w w' N O M S L n b:=by
 obtain⟨O2,q1,q2,q3⟩:=h2
 exact⟨O2,λk hk=>(q1 k hk).elim (hO k) (λe=>.inr (Nat.le_trans h1.size e)),q2,h1.andThen q3 (λi hi hl=>(hO i hi).elim id (λe=>by omega))⟩
theorem MLeft.after {w1:World}(h1:Below w.heap.size w w1)(h2:MLeft w1 w' N O M S L n b):MLeft w w' N O M S L n b:=h2.andThen (Ch.of_below h1 O) (λ_ h=>.inl h)
theorem BI.c0 (h:BI w N O R D DS X m y ve vc vl M S L n b):w.cell? ⟨M,0,none⟩=some (fptr S):=h.t.cell (i:=0) (by omega)
theorem BI.c1 (h:BI w N O R D DS X m y ve vc vl M S L n b):w.cell? ⟨M,1,none⟩=some (fptr L):=h.t.cell (i:=1) (by omega)
theorem BI.c2 (h:BI w N O R D DS X m y ve vc vl M S L n b):w.cell? ⟨M,2,none⟩=some vc:=h.t.cell (i:=2) (by omega)
theorem BI.c3 (h:BI w N O R D DS X m y ve vc vl M S L n b):w.cell? ⟨M,3,none⟩=some vl:=h.t.cell (i:=3) (by omega)
theorem BI.c4 (h:BI w N O R D DS X m y ve vc vl M S L n b):w.cell? ⟨M,4,none⟩=some (.int .i64 b.last):=h.t.cell (i:=4) (by omega)
theorem BW.c0 (h:BW w N O M S L n b):w.cell? ⟨M,0,none⟩=some (fptr S):=by obtain⟨R,D,DS,X,m,y,ve,vc,vl,h⟩:=h;exact h.c0
theorem BW.c1 (h:BW w N O M S L n b):w.cell? ⟨M,1,none⟩=some (fptr L):=by obtain⟨R,D,DS,X,m,y,ve,vc,vl,h⟩:=h;exact h.c1
theorem BW.c2 (h:BW w N O M S L n b):∃vc,w.cell? ⟨M,2,none⟩=some vc/\RdI w vc b.cand/\∀k,vc.ownBlock=some k->O k:=by
 obtain⟨R,D,DS,X,m,y,ve,vc,vl,h⟩:=h;exact⟨vc,h.c2,h.c,λk hk=>h.hO k (by rw[h.rC k hk];omega)⟩
theorem BW.c3 (h:BW w N O M S L n b):∃vl,w.cell? ⟨M,3,none⟩=some vl/\w.ownsRow N 40 2 vl b.log.length (stv b.log)/\∀k,vl.ownBlock=some k->O k/\k≠M:=by
 obtain⟨R,D,DS,X,m,y,ve,vc,vl,h⟩:=h
 refine⟨vl,h.c3,h.l,λk hk=>⟨h.hO k (by rw[h.rl k hk];omega),λe=>?_⟩⟩
 obtain⟨hg,_⟩:=ownN_rg h.l hk
 obtain⟨cs,hh,_⟩:=hg
 obtain⟨cs',hh',_⟩:=h.t
 rw[e,hh'] at hh
 injection hh with hh
 injection hh with _ h2 _
 exact absurd h2 (by decide)
theorem BW.c4 (h:BW w N O M S L n b):w.cell? ⟨M,4,none⟩=some (.int .i64 b.last):=by obtain⟨R,D,DS,X,m,y,ve,vc,vl,h⟩:=h;exact h.c4
theorem BW.frz (h:BW w N O M S L n b)(i:Nat):w.frozen? ⟨M,i,none⟩=false:=by obtain⟨R,D,DS,X,m,y,ve,vc,vl,h⟩:=h;exact h.t.frozen i
theorem BI.fld {R':Nat->Nat}{O':Nat->Prop}(h:BI w N O R D DS X m y ve vc vl M S L n b){j:Nat}{u:Value}{vc' vl':Value}{b':BM}(hj:j<5)(e:∀i,i<5->upd (mgv S L vc vl b.last) j u i=mgv S L vc' vl' b'.last i)
  (e1:b'.fl=b.fl) (e2:b'.st=b.st) (e3:b'.es=b.es) (hR:∀k,R k≠0->R' k=R k) (hR':∀k,R' k≠0->O' k) (hO':∀k,O' k->N<=k/\k<w.heap.size)
  (hc:RdI w vc' b'.cand) (hl:w.ownsRow N 40 2 vl' b'.log.length (stv b'.log)) (rc:∀k,vc'.ownBlock=some k->R' k=5) (rl:∀k,vl'.ownBlock=some k->R' k=4/\k≠M) :
  BI (w.setCell ⟨M,j,none⟩ u) N O' R' D DS X m y ve vc' vl' M S L n b':=by
 have c:Ch (λk=>k=M) w (w.setCell ⟨M,j,none⟩ u):=(Ch.refl (λk=>k=M) w).setCell (p:=⟨M,j,none⟩) (λ_=>rfl) u
 have kp:∀{k q},R k=q->q≠0->R' k=q:=λh1 h2=>(hR _ (by rw[h1];exact h2)).trans h1
 have hs:0<w.heap.size:=Nat.lt_of_lt_of_le h.h0 h.hN
 have hM:=h.oN M (h.hO M (by rw[h.rM];omega))
 have h0:=h.h0
 exact {
  f:=by rw[e1];exact h.f.ch c (λk hk q=>by have:=h.rD k hk;rw[q,h.rM] at this;cases this)
  s:=by rw[e2];exact h.s.ch c (λk hk q=>by have:=h.rS k hk;rw[q,h.rM] at this;cases this)
  g:=by rw[e3];exact Row.ch h.g c (λq=>by have:=h.rL;rw[q,h.rM] at this;cases this)
  e:=by rw[e3];exact ownN_ch h.e c (λk hk q=>by have:=h.rE k hk;rw[q,h.rM] at this;cases this)
  t:=(h.t.set hj u).congr e
  c:=hc.ch c (λk hk q=>by have:=rc k hk;rw[q,kp h.rM (by omega)] at this;cases this)
  l:=ownN_ch hl c (λk hk q=>(rl k hk).2 q)
  rD:=λk hk=>kp (h.rD k hk) (by omega)
  rS:=λk hk=>kp (h.rS k hk) (by omega)
  rL:=kp h.rL (by omega)
  rE:=λk hk=>kp (h.rE k hk) (by omega)
  rM:=kp h.rM (by omega)
  rl:=λk hk=>(rl k hk).1
  rC:=rc
  hO:=hR'
  oN:=λk hk=>⟨(hO' k hk).1,Nat.lt_of_lt_of_le (hO' k hk).2 c.size⟩
  rnd:=rnd_ch h.rnd c (λq=>by omega) hs
  h0:=h.h0
  hN:=Nat.le_trans h.hN c.size }
theorem BI.vlM (h:BI w N O R D DS X m y ve vc vl M S L n b):∀k,vl.ownBlock=some k->k≠M:=λk hk e=>by
 obtain⟨hg,_⟩:=ownN_rg h.l hk
 obtain⟨cs,hh,_⟩:=hg
 obtain⟨cs',hh',_⟩:=h.t
 rw[e,hh'] at hh
 injection hh with hh
 injection hh with _ h2 _
 exact absurd h2 (by decide)
theorem mgv_2 (S L:Nat)(vc vl u:Value)(last:Int):∀i,i<5->upd (mgv S L vc vl last) 2 u i=mgv S L u vl last i:=by
 intro i hi;unfold upd mgv;split<;>simp_all
theorem mgv_3 (S L:Nat)(vc vl u:Value)(last:Int):∀i,i<5->upd (mgv S L vc vl last) 3 u i=mgv S L vc u last i:=by
 intro i hi;unfold upd mgv;split<;>simp_all
theorem mgv_4 (S L:Nat)(vc vl:Value)(last x:Int):∀i,i<5->upd (mgv S L vc vl last) 4 (.int .i64 x) i=mgv S L vc vl x i:=by
 intro i hi
 have:i=0\/i=1\/i=2\/i=3\/i=4:=by omega
 rcases this with rfl|rfl|rfl|rfl|rfl<;>rfl
theorem BW.setLast (h:BW w N O M S L n b)(x:Int):BW (w.setCell ⟨M,4,none⟩ (.int .i64 x)) N O M S L n { b with last:=x }:=by
 obtain⟨R,D,DS,X,m,y,ve,vc,vl,h⟩:=h
 exact⟨R,D,DS,X,m,y,ve,vc,vl,h.fld (b':={ b with last:=x }) (by omega) (mgv_4 _ _ _ _ _ _) rfl rfl rfl (λ_ _=>rfl) h.hO h.oN h.c h.l h.rC (λk hk=>⟨h.rl k hk,h.vlM k hk⟩)⟩
theorem BW.setCand (h:BW w N O M S L n b){u:Value}{l':List Int}(hu:RdI w u l')(ho:∀vc,w.cell? ⟨M,2,none⟩=some vc->∀g,u.ownBlock=some g->vc.ownBlock=some g):BW (w.setCell ⟨M,2,none⟩ u) N O M S L n { b with cand:=l' }:=by
 obtain⟨R,D,DS,X,m,y,ve,vc,vl,h⟩:=h
 exact⟨R,D,DS,X,m,y,ve,u,vl,h.fld (b':={ b with cand:=l' }) (by omega) (mgv_2 _ _ _ _ _ _) rfl rfl rfl (λ_ _=>rfl) h.hO h.oN hu h.l (λk hk=>h.rC k (ho vc h.c2 k hk)) (λk hk=>⟨h.rl k hk,h.vlM k hk⟩)⟩
theorem BW.takeCand (h:BW w N O M S L n b){u:Value}{l':List Int}(hu:RdI w u l')(ho:∀g,u.ownBlock=some g->¬O g/\N<=g):BW (w.setCell ⟨M,2,none⟩ u) N (λk=>O k\/u.ownBlock=some k) M S L n { b with cand:=l' }:=by
 obtain⟨R,D,DS,X,m,y,ve,vc,vl,h⟩:=h
 have hR0:∀g,u.ownBlock=some g->R g=0:=λg hg=>Classical.byContradiction λe=>(ho g hg).1 (h.hO g e)
 refine⟨λk=>if u.ownBlock=some k then 5 else R k,D,DS,X,m,y,ve,u,vl,h.fld (b':={ b with cand:=l' }) (by omega) (mgv_2 _ _ _ _ _ _) rfl rfl rfl ?_ ?_ ?_ hu h.l (λk hk=>if_pos hk) ?_⟩
 ·intro k hk
  show(if u.ownBlock=some k then 5 else R k)=R k
  rw[if_neg (λe=>hk (hR0 k e))]
 ·intro k hk
  by_cases e:u.ownBlock=some k
  ·exact .inr e
  ·have hk:(if u.ownBlock=some k then 5 else R k)≠0:=hk
   rw[if_neg e] at hk;exact .inl (h.hO k hk)
 ·rintro k (hk|hk)
  ·exact h.oN k hk
  ·obtain⟨_,_,_,_,_,h3,_⟩:=hu
   exact⟨(ho k hk).2,h3 k hk⟩
 ·intro k hk
  refine⟨?_,h.vlM k hk⟩
  show(if u.ownBlock=some k then 5 else R k)=4
  rw[if_neg (λe=>by have:=hR0 k e;rw[h.rl k hk] at this;cases this)]
  exact h.rl k hk
theorem BW.takeLog (h:BW w N O M S L n b){u:Value}{l':List (Int×Int)}(hu:w.ownsRow N 40 2 u l'.length (stv l'))(ho:∀g,u.ownBlock=some g->(∃vl,w.cell? ⟨M,3,none⟩=some vl/\vl.ownBlock=some g)\/¬O g):BW (w.setCell ⟨M,3,none⟩ u) N (λk=>O k\/u.ownBlock=some k) M S L n { b with log:=l' }:=by
 obtain⟨R,D,DS,X,m,y,ve,vc,vl,h⟩:=h
 have hR0:∀g,u.ownBlock=some g->R g=0\/R g=4:=λg hg=>by
  rcases ho g hg with ⟨vl',h1,h2⟩|h1
  ·rw[h.c3] at h1
   injection h1 with h1
   subst h1
   exact .inr (h.rl g h2)
  ·exact .inl (Classical.byContradiction λe=>h1 (h.hO g e))
 have hM:∀g,u.ownBlock=some g->g≠M:=λg hg e=>by
  obtain⟨hg,_⟩:=ownN_rg hu hg
  obtain⟨cs,hh,_⟩:=hg
  obtain⟨cs',hh',_⟩:=h.t
  rw[e,hh'] at hh
  injection hh with hh
  injection hh with _ h2 _
  exact absurd h2 (by decide)
 refine⟨λk=>if u.ownBlock=some k then 4 else R k,D,DS,X,m,y,ve,vc,u,h.fld (b':={ b with log:=l' }) (by omega) (mgv_3 _ _ _ _ _ _) rfl rfl rfl ?_ ?_ ?_ h.c hu ?_ (λk hk=>⟨if_pos hk,hM k hk⟩)⟩
 ·intro k hk
  show(if u.ownBlock=some k then 4 else R k)=R k
  split
  ·rename_i e
   rcases hR0 k e with q|q
   ·exact absurd q hk
   ·exact q.symm
  ·rfl
 ·intro k hk
  by_cases e:u.ownBlock=some k
  ·exact .inr e
  ·have hk:(if u.ownBlock=some k then 4 else R k)≠0:=hk
   rw[if_neg e] at hk;exact .inl (h.hO k hk)
 ·rintro k (hk|hk)
  ·exact h.oN k hk
  ·obtain⟨hg,hb⟩:=ownN_rg hu hk
   exact⟨hb,hg.lt⟩
 ·intro k hk
  show(if u.ownBlock=some k then 4 else R k)=5
  rw[if_neg (λe=>by rcases hR0 k e with q|q<;>(rw[h.rC k hk] at q;cases q))]
  exact h.rC k hk
theorem BW.get (h:BW w N O M S L n b){k:ByteArray}(hk:k.size<=1000000):Calls Tryz.prog 56 #[fptr S,.string k] w λe w'=>e=.returned (.tuple #[str (getS b.st.V k.data.toList).1,.int .i64 (getS b.st.V k.data.toList).2])/\w=w':=by
 obtain⟨R,D,DS,X,m,y,ve,vc,vl,h⟩:=h
 exact get_any h.s hk
theorem BI.left {r:Int×FL×ST}(h:BI w N O R D DS X m y ve vc vl M S L n b)(hl:Left w w' D DS S X n y r):MLeft w w' N O M S L (n+1) { b with fl:=r.2.1,st:=r.2.2 }:=by
 obtain⟨k1,k2,D',m',k3,k4⟩:=hl
 have hs:0<w.heap.size:=Nat.lt_of_lt_of_le h.h0 h.hN
 have h0:=h.h0
 have hN:=h.hN
 have cO:Ch O w w':=k2.mono λi hi _=>h.hO i (hi.elim (λe=>by rw[h.rD i e];omega) (λe=>by rw[h.rS i e];omega))
 have nd:∀{k q},R k=q->2<q->¬(D k\/DS k):=λe1 e2 e=>e.elim (λe=>by have:=h.rD _ e;omega) (λe=>by have:=h.rS _ e;omega)
 have lt:∀k,R k≠0->k<w.heap.size:=λk e=>(h.oN k (h.hO k e)).2
 have kp:∀{k q},R k=q->q≠0->(if k<w.heap.size then R k else if k<w'.heap.size then 2 else 0)=q:=λ {k q} e1 e2=>by rw[if_pos (lt k (by omega)),e1]
 refine⟨λk=>O k\/(w.heap.size<=k/\k<w'.heap.size),λk hk=>hk.imp id (λe=>e.1),⟨λk=>if k<w.heap.size then R k else if k<w'.heap.size then 2 else 0,D,D',X,m',y,ve,vc,vl,?_⟩,cO⟩
 exact {
  f:=k1
  s:=k4
  g:=Row.ch h.g k2 (nd h.rL (by omega))
  e:=ownN_ch h.e k2 (λk hk=>nd (h.rE k hk) (by omega))
  t:=h.t.ch k2 (nd h.rM (by omega))
  c:=h.c.ch k2 (λk hk=>nd (h.rC k hk) (by omega))
  l:=ownN_ch h.l k2 (λk hk=>nd (h.rl k hk) (by omega))
  rD:=λk hk=>kp (h.rD k hk) (by omega)
  rS:=λk hk=>by
   rcases k3 k hk with e|e
   ·exact kp (h.rS k e) (by omega)
   ·show(if k<w.heap.size then R k else if k<w'.heap.size then 2 else 0)=2
    rw[if_neg (by omega),if_pos (k4.fin k hk)]
  rL:=kp h.rL (by omega)
  rE:=λk hk=>kp (h.rE k hk) (by omega)
  rM:=kp h.rM (by omega)
  rl:=λk hk=>kp (h.rl k hk) (by omega)
  rC:=λk hk=>kp (h.rC k hk) (by omega)
  hO:=λk hk=>by
   have hk:(if k<w.heap.size then R k else if k<w'.heap.size then 2 else 0)≠0:=hk
   by_cases e:k<w.heap.size
   ·rw[if_pos e] at hk;exact .inl (h.hO k hk)
   ·rw[if_neg e] at hk
    by_cases e2:k<w'.heap.size
    ·exact .inr ⟨by omega,e2⟩
    ·rw[if_neg e2] at hk;exact absurd rfl hk
  oN:=λk hk=>hk.elim (λe=>⟨(h.oN k e).1,Nat.lt_of_lt_of_le (h.oN k e).2 k2.size⟩) (λe=>⟨by omega,e.2⟩)
  rnd:=rnd_ch h.rnd cO (λq=>by have:=(h.oN 0 q).1;omega) hs
  h0:=h0
  hN:=Nat.le_trans hN k2.size }
theorem BW.set (h:BW w N O M S L n b)(hb:b.st.blk<b.fl.B)(hn:n<1000){ke va:ByteArray}(hke:ke.size<=1000000)(hva:va.size<=1000000) :
  Calls Tryz.prog 43 #[fptr S,.string ke,.string va] w λe w'=>e=.returned (.int .i64 (setF b.fl b.st ke.data.toList va.data.toList).1)/\MLeft w w' N O M S L (n+1) { b with fl:=(setF b.fl b.st ke.data.toList va.data.toList).2.1,st:=(setF b.fl b.st ke.data.toList va.data.toList).2.2 }:=by
 obtain⟨R,D,DS,X,m,y,ve,vc,vl,h⟩:=h
 refine(set_any h.s h.f (λk e1 e2=>by have:=h.rD k e1;have:=h.rS k e2;omega) hb hn hke hva).mono ?_
 rintro e w' ⟨he,hl⟩
 exact⟨he,h.left hl⟩
theorem BW.del (h:BW w N O M S L n b)(hb:b.st.blk<b.fl.B)(hn:n<1000){ke:ByteArray}(hke:ke.size<=1000000) :
  Calls Tryz.prog 58 #[fptr S,.string ke] w λe w'=>e=.returned (.int .i64 (delF b.fl b.st ke.data.toList).1)/\MLeft w w' N O M S L (n+1) { b with fl:=(delF b.fl b.st ke.data.toList).2.1,st:=(delF b.fl b.st ke.data.toList).2.2 }:=by
 obtain⟨R,D,DS,X,m,y,ve,vc,vl,h⟩:=h
 refine(delete_any h.s h.f (λk e1 e2=>by have:=h.rD k e1;have:=h.rS k e2;omega) hb hn hke).mono ?_
 rintro e w' ⟨he,hl⟩
 exact⟨he,h.left hl⟩
theorem BW.measure (h:BW w N O M S L n b)(r:Nat)(t s:ByteArray)(hr:r<8)(ht:t.size<=64)(hes:b.es.length<256)(hs:s.size<=1073741824) :
  Calls Tryz.prog 60 #[fptr L,.int .i64 (r:Int),.string t,.string s] w λe w'=>e=.returned (.int .i64 0)/\MLeft w w' N O M S L n { b with es:=b.es++[⟨r,Ms.sumD s.data.toList,t⟩] }:=by
 obtain⟨R,D,DS,X,m,y,ve,vc,vl,h⟩:=h
 have hNL:N<=L:=(h.oN L (h.hO L (by rw[h.rL];omega))).1
 refine(Ms.measure_okF N L r b.es t s w hr ht hes hs h.rnd h.h0 ve hNL h.g h.e).mono ?_
 rintro e w' ⟨he,⟨_,v',g1,e1,o1⟩,k2⟩
 refine⟨he,?_⟩
 have hs:0<w.heap.size:=Nat.lt_of_lt_of_le h.h0 h.hN
 have h0:=h.h0
 have hN:=h.hN
 have f3:∀k,Ms.FP L ve k->R k=3:=λk hk=>hk.elim (λe=>by rw[e];exact h.rL) (h.rE k)
 have cO:Ch O w w':=k2.mono λi hi _=>h.hO i (by rw[f3 i hi];omega)
 have nd:∀{k q},R k=q->q≠3->¬Ms.FP L ve k:=λe1 e2 e=>by have:=f3 _ e;omega
 have lt:∀k,R k≠0->k<w.heap.size:=λk e=>(h.oN k (h.hO k e)).2
 have kp:∀{k q},R k=q->q≠0->(if k<w.heap.size then R k else if k<w'.heap.size then 3 else 0)=q:=λ {k q} e1 e2=>by rw[if_pos (lt k (by omega)),e1]
 refine⟨λk=>O k\/(w.heap.size<=k/\k<w'.heap.size),λk hk=>hk.imp id (λe=>e.1),⟨λk=>if k<w.heap.size then R k else if k<w'.heap.size then 3 else 0,D,DS,X,m,y,v',vc,vl,?_⟩,cO⟩
 exact {
  f:=h.f.ch k2 (λk hk=>nd (h.rD k hk) (by omega))
  s:=h.s.ch k2 (λk hk=>nd (h.rS k hk) (by omega))
  g:=g1
  e:=e1
  t:=h.t.ch k2 (nd h.rM (by omega))
  c:=h.c.ch k2 (λk hk=>nd (h.rC k hk) (by omega))
  l:=ownN_ch h.l k2 (λk hk=>nd (h.rl k hk) (by omega))
  rD:=λk hk=>kp (h.rD k hk) (by omega)
  rS:=λk hk=>kp (h.rS k hk) (by omega)
  rL:=kp h.rL (by omega)
  rE:=λk hk=>by
   rcases o1 k hk with e|e
   ·exact kp (h.rE k e) (by omega)
   ·show(if k<w.heap.size then R k else if k<w'.heap.size then 3 else 0)=3
    rw[if_neg (by omega),if_pos (ownN_rg e1 hk).1.lt]
  rM:=kp h.rM (by omega)
  rl:=λk hk=>kp (h.rl k hk) (by omega)
  rC:=λk hk=>kp (h.rC k hk) (by omega)
  hO:=λk hk=>by
   have hk:(if k<w.heap.size then R k else if k<w'.heap.size then 3 else 0)≠0:=hk
   by_cases e:k<w.heap.size
   ·rw[if_pos e] at hk;exact .inl (h.hO k hk)
   ·rw[if_neg e] at hk
    by_cases e2:k<w'.heap.size
    ·exact .inr ⟨by omega,e2⟩
    ·rw[if_neg e2] at hk;exact absurd rfl hk
  oN:=λk hk=>hk.elim (λe=>⟨(h.oN k e).1,Nat.lt_of_lt_of_le (h.oN k e).2 k2.size⟩) (λe=>⟨by omega,e.2⟩)
  rnd:=rnd_ch h.rnd cO (λq=>by have:=(h.oN 0 q).1;omega) hs
  h0:=h0
  hN:=Nat.le_trans hN k2.size }
theorem BW.log (h:BW w N O M S L n b):Ms.LOG w N L b.es:=by
 obtain⟨R,D,DS,X,m,y,ve,vc,vl,h⟩:=h
 exact⟨(h.oN L (h.hO L (by rw[h.rL];omega))).1,ve,h.g,h.e⟩
end
end
section
def ecl (i:Int)(d:Str)(a:Bool)(n:Int)(j:Nat):Value:=if j=0 then .int .i64 i else if j<33 then .int .u8 ((d.getD (j-1) 0).toNat:Int) else if j=33 then .bool a else .int .i64 n
def entA (i:Int)(d:Str)(a:Bool)(n:Int):Value:=.agg (Ms.arr 35 (ecl i d a n))
theorem ecl_one (i:Int)(d:Str)(a:Bool)(n:Int)(j:Nat):(ecl i d a n j).oneCell'=true:=by
 unfold ecl
 split
 ·rfl
 ·split
  ·rfl
  ·split<;>rfl
theorem ecl_mid (i:Int)(d:Str)(a:Bool)(n:Int)(j:Nat)(h:j<32):ecl i d a n (1+j)=.int .u8 ((d.getD j 0).toNat:Int):=by
 unfold ecl
 rw[if_neg (by omega),if_pos (by omega),show 1+j-1=j by omega]
def dgF (d:Str)(j:Nat):Int:=((d.getD j 0).toNat:Int)
def dgA (d:Str):Value:=.agg (Ms.arr 32 (Ms.b8 (dgF d)))
theorem dgF_byt (d:Str):Ms.Byt (dgF d):=λi=>by unfold dgF;have:=(d.getD i 0).toNat_lt;omega
theorem dgF_dl {d:Str}(h:d.length=32):Ms.dl (dgF d)=d:=by
 apply List.ext_getElem
 ·rw[Ms.dl_len,h]
 ·intro i h1 h2
  simp[Ms.dl,dgF,h2]
theorem sumD_dg (l:Str):dgA (Ms.dl (Ms.sumD l))=.agg (Ms.arr 32 (Ms.b8 (Ms.sumD l))):=by
 unfold dgA Ms.arr
 congr 2
 apply List.map_congr_left
 intro i hi
 have hi:=List.mem_range.1 hi
 unfold Ms.b8
 congr 1
 have:=Ms.dl_at (Ms.sumD_byt l) i (by rw[Ms.dl_len];exact hi)
 rw[<-this]
 unfold dgF
 simp[Ms.dl_len,hi]
def bys' (l:Str):List Value:=l.map λb=>.int .u8 (b.toNat:Int)
theorem bys'_len (l:Str):(bys' l).length=l.length:=by simp[bys']
theorem bys'_at (l:Str)(i:Nat)(h:i<l.length):(bys' l)[i]? = some (.int .u8 ((l.getD i 0).toNat:Int)):=by simp[bys',h]
theorem bys'_one (l:Str):∀u∈bys' l,u.oneCell'=true:=λu hu=>by obtain⟨x,_,rfl⟩:=List.mem_map.1 hu;rfl
theorem alloc34 (ρ:Operand->Value)(d:Option Tmp)(ty:TypeId)(p:String)(af:Array Edge)(g:Option (Nat×Bool))(w:World) :
  Sem.run Tryz.prog (execOp ρ { dst:=d,op:=.alloc 34,type:=ty,pos:=p,after:=af,guard:=g }) w=.ok (.value (.pointer (some ⟨w.heap.size,0,none⟩))) (w.alloc (.cells (Ms.arr 35 (ecl 0 [] false 0)) 34)):=by kernel_rfl
theorem load34 (ρ:Operand->Value)(d:Option Tmp)(x:Operand)(ty:TypeId)(p:String)(af:Array Edge)(g:Option (Nat×Bool))(w:World) :
  Sem.run Tryz.prog (execOp ρ { dst:=d,op:=.load 34 x,type:=ty,pos:=p,after:=af,guard:=g }) w =
   match Ms.ldN 35 w (ρ x) with
   | some cs=>.ok (.value (.agg cs)) w
   | none=>Sem.run Tryz.prog (Instr.loadAt 34 (ρ x) >>= λv=>pure (Next.value v)) w:=Ms.load_n 34 35 _ Tryz.underlying34 rfl (by kernel_rfl) ρ d x ty p af g w
theorem store34 (ρ:Operand->Value)(d:Option Tmp)(x y:Operand)(ty:TypeId)(p:String)(af:Array Edge)(g:Option (Nat×Bool))(w:World) :
  Sem.run Tryz.prog (execOp ρ { dst:=d,op:=.store 34 x y,type:=ty,pos:=p,after:=af,guard:=g }) w =
   match Ms.stN 35 w (ρ x) (ρ y) with
   | some (b,o,cs)=>.ok .skip (w.setCells b o cs.toList)
   | none=>Sem.run Tryz.prog (Instr.storeAt 34 (ρ x) (ρ y) >>= λ_=>pure Next.skip) w:=Ms.store_n 34 35 (by kernel_rfl) ρ d x y ty p af g w
theorem build34a (i n:Int)(a:Bool)(w:World):Sem.run Tryz.prog (Instr.build 34 #[(0,.int .i64 i),(2,.bool a),(3,.int .i64 n)]) w=.ok (.agg (Ms.arr 35 (ecl i [] a n))) w:=by kernel_rfl
theorem build34z (w:World):Sem.run Tryz.prog (Instr.build 34 #[]) w=.ok (.agg (Ms.arr 35 (ecl 0 [] false 0))) w:=by kernel_rfl
theorem build34o (ρ:Operand->Value)(d:Option Tmp)(ty:TypeId)(p:String)(af:Array Edge)(g:Option (Nat×Bool))(w:World) :
  Sem.run Tryz.prog (execOp ρ { dst:=d,op:=.build 34 #[],type:=ty,pos:=p,after:=af,guard:=g }) w=.ok (.value (.agg (Ms.arr 35 (ecl 0 [] false 0)))) w:=by
 have e:execOp ρ { dst:=d,op:=.build 34 #[],type:=ty,pos:=p,after:=af,guard:=g }=Instr.build 34 #[] >>= λv=>pure (Next.value v):=by simp[execOp]
 rw[e,Sem.run_bind,build34z]
 rfl
def bl3V (x y z:Value):Option (Int×Bool×Int):=match x,y,z with
 | .int .i64 i,.bool a,.int .i64 n=>some (i,a,n)
 | _,_,_=>none
theorem build34 (ρ:Operand->Value)(d:Option Tmp)(x y z:Operand)(ty:TypeId)(p:String)(af:Array Edge)(g:Option (Nat×Bool))(w:World) :
  Sem.run Tryz.prog (execOp ρ { dst:=d,op:=.build 34 #[(0,x),(2,y),(3,z)],type:=ty,pos:=p,after:=af,guard:=g }) w =
   match bl3V (ρ x) (ρ y) (ρ z) with
   | some (i,a,n)=>.ok (.value (.agg (Ms.arr 35 (ecl i [] a n)))) w
   | none=>Sem.run Tryz.prog (Instr.build 34 #[(0,ρ x),(2,ρ y),(3,ρ z)] >>= λv=>pure (Next.value v)) w:=by
 have e:execOp ρ { dst:=d,op:=.build 34 #[(0,x),(2,y),(3,z)],type:=ty,pos:=p,after:=af,guard:=g }=Instr.build 34 #[(0,ρ x),(2,ρ y),(3,ρ z)] >>= λv=>pure (Next.value v):=by simp[execOp]
 rw[e]
 clear e
 generalize ρ x=X,ρ y=Y,ρ z=Z
 unfold bl3V
 split
 ·next i a n h=>
  split at h
  ·injection h with h
   injection h with h1 h2
   injection h2 with h2 h3
   subst h1 h2 h3
   rw[Sem.run_bind,build34a]
   rfl
  ·cases h
 ·rfl
section
variable {w w':World}{N M S L n:Nat}{O:Nat->Prop}{b:BM}
theorem isid_any (i:Int)(w:World):Calls Tryz.prog 52 #[.int .i64 i] w λe w'=>e=.returned (.bool (isId i))/\w=w':=by
 by_cases h:0<=i
 ·have d1:decide (i ≥ 0)=true:=by simpa using h
  by_cases h2:i<16
  ·have d2:decide (i<16)=true:=by simpa using h2
   have e:isId i=true:=isId_iff.2 ⟨h,h2⟩
   rw[e]
   clear e
   go_enter Tryz.func52,Tryz.ntmps52
   go_wp2
   go_ret
   exact⟨rfl,rfl⟩
  ·have d2:decide (i<16)=false:=by simpa using h2
   have e:isId i=false:=by unfold isId;rw[d2];simp
   rw[e]
   clear e
   go_enter Tryz.func52,Tryz.ntmps52
   go_wp2
   go_ret
   exact⟨rfl,rfl⟩
 ·have d1:decide (i ≥ 0)=false:=by simpa using h
  have e:isId i=false:=by unfold isId;simp[h]
  rw[e]
  clear e
  go_enter Tryz.func52,Tryz.ntmps52
  go_wp2
  go_ret
  exact⟨rfl,rfl⟩
def setB (b:BM)(k v:Str):Int×BM:=((setF b.fl b.st k v).1,{ b with fl:=(setF b.fl b.st k v).2.1,st:=(setF b.fl b.st k v).2.2 })
def delB (b:BM)(k:Str):Int×BM:=((delF b.fl b.st k).1,{ b with fl:=(delF b.fl b.st k).2.1,st:=(delF b.fl b.st k).2.2 })
def MR (w:World)(N:Nat)(O:Nat->Prop)(M S L n:Nat)(r:Int×BM)(e:Ending)(w':World):Prop:=e=.returned (.int .i64 r.1)/\MLeft w w' N O M S L n r.2
theorem BW.setB (h:BW w N O M S L n b)(hb:b.st.blk<b.fl.B)(hn:n<1000){ke va:ByteArray}(hke:ke.size<=1000000)(hva:va.size<=1000000){k v:Str}(ek:ke.data.toList=k)(ev:va.data.toList=v) :
  Calls Tryz.prog 43 #[fptr S,.string ke,.string va] w (MR w N O M S L (n+1) (setB b k v)):=by
 subst ek ev;exact h.set hb hn hke hva
theorem BW.delB (h:BW w N O M S L n b)(hb:b.st.blk<b.fl.B)(hn:n<1000){ke:ByteArray}(hke:ke.size<=1000000){k:Str}(ek:ke.data.toList=k) :
  Calls Tryz.prog 58 #[fptr S,.string ke] w (MR w N O M S L (n+1) (delB b k)):=by
 subst ek;exact h.del hb hn hke
end
end
section
attribute [local go_sem ↓] alloc34 load34 store34 build34 build34o
section
variable {w w':World}{N M S L n:Nat}{O:Nat->Prop}{b:BM}
theorem conv_rg {Y:World}{g c k:Nat}{l:Str}(h:Rg Y g 5 k (λi=>.int .u8 ((l.getD i 0).toNat:Int)))(hk:l.length=k):(convert 99 9 (.slice (some ⟨g,0,none⟩) k c)).run Tryz.prog Y=.ok (.string ⟨l.toArray⟩) Y:=by
 have:=run_convert_bytes_back (P:=Tryz.prog) Y 99 9 5 ⟨g,0,none⟩ c l Tryz.underlying99 Tryz.underlying5 Tryz.underlying9 (λj hj=>by
  rw[Addr.add_mid,Nat.zero_add,h.cell (by omega)]
  simp[hj])
 rw[hk] at this
 exact this
theorem own_bys {Y:World}{B g c k:Nat}{l:Str}(h:Y.ownsRow B 5 1 (.slice (some ⟨g,0,none⟩) k c) k (bys' l))(hk:l.length=k):Rg Y g 5 k (λi=>.int .u8 ((l.getD i 0).toNat:Int)):=by
 rcases h.2 with ⟨e,_⟩|⟨g',cap,cur,e,_,hh,h1,h2,h3,h4⟩
 ·cases e
 ·injection e with e1 _ _
  injection e1 with e1
  injection e1 with e1
  subst e1
  refine⟨cur,hh,λi hi=>?_⟩
  have q:=bys'_at l i (by omega)
  rw[<-h4,List.getElem?_take_of_lt (by omega),Array.getElem?_toList] at q
  exact q
theorem one_byte (W:World)(k:Nat)(hk:k<=255):(convert 99 9 (.slice (some ⟨W.heap.size,0,none⟩) 1 1)).run Tryz.prog (W.alloc (.cells #[.int .u8 (k:Int)] 5))=.ok (.string ⟨#[UInt8.ofNat k]⟩) (W.alloc (.cells #[.int .u8 (k:Int)] 5)):=
 conv_new W [UInt8.ofNat k] #[.int .u8 (k:Int)] 1 rfl (by simp[u8_of hk])
theorem bput_any (h:BW w N O M S L n b)(hb:b.st.blk<b.fl.B)(hn:n<1000)(id:Nat)(hid:id<=255){d:Str}(hd:d.length=32)(a:Bool)(att used:Nat)(ha:att<=255)(hu:used<=255) :
  Calls Tryz.prog 53 #[fptr M,entA id d a att,.int .i64 (used:Int)] w (MR w N O M S L (n+1) (setB b (nmE id) (entS d a att used))):=by
 have HW:=Hh h
 obtain⟨cs,hcs⟩:∃cs,cs=Ms.arr 35 (ecl id d a att):=⟨_,rfl⟩
 have he:entA id d a att=.agg cs:=by rw[hcs];rfl
 rw[he]
 have R0:Row (w.alloc (.cells cs 34)) w.heap.size 34 35 (ecl id d a att):=by rw[hcs];exact Row.ofList w _ _ _ 35 rfl
 have HB0:Hid (Below w.heap.size w (w.alloc (.cells cs 34))):=(Below.refl _ _).alloc (Nat.le_refl _) _
 have hE:w.heap.size<(w.alloc (.cells cs 34)).heap.size:=by simp
 obtain⟨i0,hi0,hz0,hz1,hz2⟩:=info_parts Tryz.infoU
 clear hcs he h
 go_enter Tryz.func53,Tryz.ntmps53
 have hown:Hid ((w.alloc (.cells cs 34)).ownsRow w.heap.size 5 1 (.slice none 0 0) 0 []):=⟨rfl,.inl ⟨rfl,rfl⟩⟩
 have hnews:Hid (∀j u,(bys' d)[j]? = some u->(w.alloc (.cells cs 34)).cell? ((⟨w.heap.size,1,none⟩:Addr).add j)=some u):=λj u hu=>by
  have hj:j<32:=by have:=(List.getElem?_eq_some_iff.1 hu).1;rw[bys'_len,hd] at this;exact this
  rw[bys'_at d j (by omega)] at hu
  rw[Addr.add_mid,R0.cell (i:=1+j) (by omega),ecl_mid _ _ _ _ _ hj]
  exact hu
 have HR0:=Hh R0
 clear R0
 go_wp2_with (at_builtin;refine wpList_append_lies _ rfl _ _ 99 rfl w.heap.size 5 i0 _ 1 1 Tryz.underlying99 hi0 hz0 hz1 hz2 (by kernel_rfl) (by omega) _ 0 [] rfl (by exact hown.out) ⟨w.heap.size,1,none⟩ 32 32 (bys' d) rfl (by rw[bys'_len,hd]) (by exact hnews.out) (bys'_one d) (by omega) (by decide) (by omega) (by simp) (w.heap.size+1) (by simp) ?_)
 intro g cap w2 hown2 hgrow hat hlt
 have HB2:Hid (Below w.heap.size w w2):=Below.grown HB0.out hgrow (by simp) (λk hk=>(by cases hk))
 have HR2:Hid (Row w2 w.heap.size 34 35 (ecl id d a att)):=HR0.out.ch (Ch.of_grown (C:=λ_=>False) hgrow (λk hk _=>(by cases hk))) (λh=>h)
 have HO2:=Hh hown2
 have c33:w2.cell? ⟨w.heap.size,33,none⟩=some (.bool a):=HR2.out.cell (i:=33) (by omega)
 have c34:w2.cell? ⟨w.heap.size,34,none⟩=some (.int .i64 (att:Int)):=HR2.out.cell (i:=34) (by omega)
 have hgE:g≠w.heap.size:=by
  rcases hat with e|e
  ·cases e
  ·omega
 have hgw:w.heap.size<=g:=by
  rcases hat with e|e
  ·cases e
  ·omega
 clear hown hnews hgrow hat HR0 HB0 hown2 hE
 obtain⟨ac,hac⟩:∃ac:UInt8,ac=(if a=true then 1 else 0):=⟨_,rfl⟩
 obtain⟨ai,hai⟩:∃ai:Int,ai=(ac.toNat:Int):=⟨_,rfl⟩
 have hai2:Hid ((if a=true then (1:Int) else 0)=ai):=by show _=_;rw[hai,hac];cases a<;>rfl
 have hl3:(bys' [ac,UInt8.ofNat att,UInt8.ofNat used])=[.int .u8 ai,.int .u8 (att:Int),.int .u8 (used:Int)]:=by simp[bys',hai,u8_of ha,u8_of hu]
 have HAC:=Hh hac
 have HL3:=Hh hl3
 clear hac hai hl3
 have hs2:=HB2.out.size
 have hown3:Hid ((w2.alloc (.cells #[.int .u8 ai,.int .u8 (att:Int),.int .u8 (used:Int)] 5)).ownsRow w.heap.size 5 1 (.slice (some ⟨g,0,none⟩) 32 cap) 32 (bys' d)):=ownN_ch HO2.out ((Ch.refl (λ_=>False) w2).alloc _) (λ_ _ h=>h)
 have hnews3:Hid (∀j u,(bys' [ac,UInt8.ofNat att,UInt8.ofNat used])[j]? = some u->(w2.alloc (.cells #[.int .u8 ai,.int .u8 (att:Int),.int .u8 (used:Int)] 5)).cell? ((⟨w2.heap.size,0,none⟩:Addr).add j)=some u):=World.news_of_block (heap_alloc_new w2 _) |> λh=>by rw[HL3.out];exact h
 have HR3:Hid (Row (w2.alloc (.cells #[.int .u8 ai,.int .u8 (att:Int),.int .u8 (used:Int)] 5)) w.heap.size 34 35 (ecl id d a att)):=HR2.out.alloc _
 have HB3:Hid (Below w.heap.size w (w2.alloc (.cells #[.int .u8 ai,.int .u8 (att:Int),.int .u8 (used:Int)] 5))):=HB2.out.alloc hs2 _
 go_upto_if 13 with fail
 go_cut [8] (λt wc=>t=.int .u8 ai/\wc=w2)
 case first=>
  have hI1:a=true->ai=1:=λhA=>by rw[<-hai2.out,if_pos hA]
  have hI0:a=false->ai=0:=λhA=>by rw[<-hai2.out,if_neg (by rw[hA];simp)]
  cases a
  ·have hI:=hI0 rfl
   clear hI1 hI0
   go_wp2_with fail
   go_meet
   exact⟨by rw[hI],rfl⟩
  ·have hI:=hI1 rfl
   clear hI1 hI0
   go_wp2_with fail
   go_meet
   exact⟨by rw[hI],rfl⟩
 case rest=>
  obtain⟨rfl,rfl⟩:=hcut
  go_wp2_with (at_builtin;refine wpList_append_lies _ rfl _ _ 99 rfl w.heap.size 5 i0 _ 1 1 Tryz.underlying99 hi0 hz0 hz1 hz2 (by kernel_rfl) (by omega) _ 32 (bys' d) rfl (by exact hown3.out) ⟨wc.heap.size,0,none⟩ 3 3 (bys' [ac,UInt8.ofNat att,UInt8.ofNat used]) rfl (by rw[bys'_len];rfl) (by exact hnews3.out) (bys'_one _) (by omega) (by decide) (by omega) (by simp;omega) (wc.heap.size+1) (by simp) ?_)
  intro g2 cap2 w4 hown4 hgrow4 hat4 hlt4
  have HB4:Hid (Below w.heap.size w w4):=Below.grown HB3.out hgrow4 (by simp;omega) (λk hk=>by
   have e:g=k:=by simpa[Value.ownBlock] using hk
   omega)
  have HR4:Hid (Row w4 w.heap.size 34 35 (ecl id d a att)):=HR3.out.ch (Ch.of_grown (C:=λk=>k=g) hgrow4 (λk hk _=>by
   have e:g=k:=by simpa[Value.ownBlock] using hk
   exact e.symm)) (λe=>hgE e.symm)
  have HBY:Hid (Rg w4 g2 5 35 (λi=>.int .u8 (((entS d a att used).getD i 0).toNat:Int))):=own_bys (l:=entS d a att used) (k:=35) (by
   have e:bys' (entS d a att used)=bys' d++bys' [ac,UInt8.ofNat att,UInt8.ofNat used]:=by unfold bys' entS;rw[HAC.out,List.map_append]
   rw[e];exact hown4) (entS_len hd a att used)
  have hg2w:w.heap.size<=g2:=by
   rcases hat4 with e|e
   ·have e:g=g2:=by simpa[Value.ownBlock] using e
    omega
   ·omega
  clear hown4 hgrow4 hat4 hown3 hnews3 HR3 HB3 HR2 HO2 c33 c34 HB2
  have HnO:Hid (∀k,w.heap.size<=k->¬O k):=λk hk ho=>by have:=(HW.out.oN k ho).2;omega
  have hE4:Below w.heap.size w w4:=HB4.out
  have HB5:Hid (Below w.heap.size w (w4.alloc (.cells #[.int .u8 (id:Int)] 5)).drew):=(hE4.alloc hE4.size _).drew
  have HW4:Hid (BW w4.drew N O M S L n b):=HW.out.below hE4.drew
  have HW5:Hid (BW (w4.alloc (.cells #[.int .u8 (id:Int)] 5)).drew N O M S L n b):=HW.out.below HB5.out
  clear hE4
  have HnE:Hid (¬O w.heap.size/\¬O g2):=⟨HnO.out _ (Nat.le_refl _),HnO.out _ hg2w⟩
  clear HnO HB4
  generalize hEE:w.heap.size=E at *
  have HEE:=Hh hEE
  clear hEE
  obtain⟨ve,hve⟩:∃ve:ByteArray,ve=⟨(entS d a att used).toArray⟩:=⟨_,rfl⟩
  have HVE:Hid (ve.data.toList=entS d a att used):=by show _=_;rw[hve]
  have HCV:Hid (∀Y,Rg Y g2 5 35 (λi=>.int .u8 (((entS d a att used).getD i 0).toNat:Int))->(convert 99 9 (.slice (some ⟨g2,0,none⟩) 35 cap2)).run Tryz.prog Y=.ok (.string ve) Y):=λ Y h=>by rw[hve];exact conv_rg h (entS_len hd a att used)
  have hvz:ve.size<=1000000:=by rw[bsz,HVE.out,entS_len hd];omega
  clear hve
  obtain⟨kb,hkb⟩:∃kb:ByteArray,kb=⟨#[UInt8.ofNat id]⟩:=⟨_,rfl⟩
  have hkz:kb.size=1:=by rw[hkb];rfl
  obtain⟨ky,hky⟩:∃ky:ByteArray,ky=(⟨#[69,110,116,114,121]⟩:ByteArray)++kb:=⟨_,rfl⟩
  have HKY:Hid (ky.data.toList=nmE id):=by show _=_;rw[hky,hkb];simp[nmE]
  have hkyz:ky.size<=1000000:=by rw[bsz,HKY.out,nmE_len];omega
  have q1:¬9223372036854775807<5+kb.size:=by omega
  have hwid:IntKind.u8.wrap (id:Int)=(id:Int):=by rw[IntKind.wrap_u8'];omega
  have S1:Hid (w4.drew.cell? ⟨M,0,none⟩=some (fptr S)/\Row w4.drew E 34 35 (ecl id d a att)/\Rg w4.drew g2 5 35 (λi=>.int .u8 (((entS d a att used).getD i 0).toNat:Int))):=⟨HW4.out.c0,HR4.out,HBY.out⟩
  go_wp2_with fail
  refine wp_region_pl (λ Y=>Y.cell? ⟨M,0,none⟩=some (fptr S)/\Row Y E 34 35 (ecl id d a att)/\Rg Y g2 5 35 (λi=>.int .u8 (((entS d a att used).getD i 0).toNat:Int)))
   ((0,0)::(1,0)::(2,0)::(3,0)::(4,0)::(5,0)::(6,0)::(10,0)::(11,0)::(7,1)::(8,1)::(9,1)::(12,1)::(13,0)::[]) (by kernel_rfl) (by kernel_rfl) ?_
  iterate 9 (apply wpP_go;rfl;rfl;exact S1.out;(focus (rintro Y ⟨c0,s1,s2⟩;have e0:Y.cell? ⟨E,0,none⟩=some (.int .i64 (id:Int)):=s1.cell (i:=0) (by omega);have cv:=HCV.out Y s2;go_simp;exact rfl));intro K hK;go_simp;refine hK _ ?_;clear hK K)
  have S2:Hid ((w4.alloc (.cells #[.int .u8 (id:Int)] 5)).drew.cell? ⟨M,0,none⟩=some (fptr S)/\Row (w4.alloc (.cells #[.int .u8 (id:Int)] 5)).drew E 34 35 (ecl id d a att)/\Rg (w4.alloc (.cells #[.int .u8 (id:Int)] 5)).drew g2 5 35 (λi=>.int .u8 (((entS d a att used).getD i 0).toNat:Int))):=
   ⟨HW5.out.c0,S1.out.2.1.alloc _,S1.out.2.2.ch ((Ch.refl (λ_=>False) w4.drew).alloc _) (λh=>h)⟩
  have hob:(convert 99 9 (.slice (some ⟨w4.heap.size,0,none⟩) 1 1)).run Tryz.prog (w4.alloc (.cells #[.int .u8 (id:Int)] 5)).drew=.ok (.string kb) (w4.alloc (.cells #[.int .u8 (id:Int)] 5)).drew:=by rw[hkb];exact one_byte w4.drew id hid
  have HST:=Hh (HW5.out.setB hb hn hkyz hvz HKY.out HVE.out)
  rw[hky] at HST
  clear hkb hky
  iterate 3 (apply wpP_one;rfl;intro K hK;go_simp;refine hK _ _ S2.out ?_;clear hK K)
  apply wpP_one
  rfl
  intro K hK
  go_simp
  refine HST.out.mono ?_
  rintro e w6 ⟨rfl,hl⟩
  have HL:=Hh hl
  have S3:Hid (w6.cell? ⟨M,0,none⟩=some (fptr S)/\Row w6 E 34 35 (ecl id d a att)/\Rg w6 g2 5 35 (λi=>.int .u8 (((entS d a att used).getD i 0).toNat:Int))):=by
   obtain⟨O',_,q2,q3⟩:=hl
   exact⟨q2.c0,S2.out.2.1.ch q3 HnE.out.1,S2.out.2.2.ch q3 HnE.out.2⟩
  refine hK _ _ S3.out ?_
  clear hK K hl hob
  iterate 1 (apply wpP_go;rfl;rfl;exact S3.out;(intro Y s0;go_simp;exact rfl);intro K hK;go_simp;refine hK _ ?_;clear hK K)
  refine wpP_done ?_
  clear S1 S2 S3 HST
  go_wp2_with fail
  go_ret
  exact⟨rfl,HL.out.after (HEE.out▸HB5.out)⟩
end
end
section
attribute [local go_sem ↓] alloc34 load34 store34 build34 build34o
structure En where
 i:Int
 d:Str
 a:Bool
 n:Nat
 u:Nat
def enV (e:En):Value:=entA e.i e.d e.a e.n
def entO (V:Vars)(i:Int):Option En:=(entV V i).map λv=>⟨i,v.take 32,decide ((v.getD 32 0).toNat=1),(v.getD 33 0).toNat,(v.getD 34 0).toNat⟩
def entT (V:Vars)(i:Int):Value:=match entO V i with
 | some e=>.tuple #[enV e,.int .i64 (e.u:Int),.int .i64 0]
 | none=>.tuple #[entA 0 [] false 0,.int .i64 0,.int .i64 6]
theorem res3 {fn:Func}{p u v:Tmp}{ty:TypeId}(h:fn.results=#[.cell p ty,.tmp u,.tmp v])(tmps:Array Value)(w:World)(g:Nat)(cs:Array Value)(x y:Value)
  (hp:tmps.getD p undef=.pointer (some ⟨g,0,none⟩)) (hx:tmps.getD u undef=x) (hy:tmps.getD v undef=y) (hl:(loadVar ty ⟨g,0,none⟩).run Tryz.prog w=.ok (.agg cs) w) :
  (results fn tmps).run Tryz.prog w=.ok (.tuple #[.agg cs,x,y]) w:=by
 have hp':tmps[p]?.getD undef=.pointer (some ⟨g,0,none⟩):=by simpa using hp
 have hx':tmps[u]?.getD undef=x:=by simpa using hx
 have hy':tmps[v]?.getD undef=y:=by simpa using hy
 simp[results,h,hp',hx',hy',asAddr,hl,Result.andThen]
theorem ecl_all (i:Int)(d:Str)(a:Bool)(n:Int):(Ms.arr 35 (ecl i d a n)).all (·.oneCell')=true:=Ms.all_one 35 _ (ecl_one i d a n)
theorem st34 {W:World}{g t:Nat}{f:Nat->Value}(h:Row W g t 35 f)(i:Int)(d:Str)(a:Bool)(n:Int):Ms.stN 35 W (.pointer (some ⟨g,0,none⟩)) (.agg (Ms.arr 35 (ecl i d a n)))=some (g,0,Ms.arr 35 (ecl i d a n)):=
 Ms.stN_of (Ms.arr_size _ _) h.there (ecl_all i d a n)
theorem ld34 {W:World}{g t:Nat}{f:Nat->Value}(h:Row W g t 35 f):Ms.ldN 35 W (.pointer (some ⟨g,0,none⟩))=some (Ms.arr 35 f):=
 Ms.ldN_of (λj u hu=>by
  have hj:j<35:=by have:=(List.getElem?_eq_some_iff.1 hu).1;simpa[Ms.arr] using this
  have:u=f j:=by simpa[Ms.arr,hj] using hu.symm
  rw[this,Nat.zero_add,h.cell hj]) (Ms.arr_size _ _)
theorem ret34 {W:World}{g:Nat}{f:Nat->Value}(h:Row W g 34 35 f):(loadVar 34 ⟨g,0,none⟩).run Tryz.prog W=.ok (.agg (Ms.arr 35 f)) W:=
 run_loadVar_row _ _ 34 34 _ (0,0) _ h.arr Tryz.underlying34 rfl (by kernel_rfl)
theorem ba_at (t:ByteArray)(i:Nat)(h:i<t.size):(t[i]'h).toNat=(t.data.toList.getD i 0).toNat:=by
 rw[List.getD_eq_getElem?_getD,List.getElem?_eq_getElem (by rw[Array.length_toList];exact h)];rfl
theorem copy32 {W:World}{g o c:Nat}{t:ByteArray}(h32:32<=t.size)(ht:W.there g o 32):(Builtin.copy_ #[99,9] 3 #[.slice (some ⟨g,o,none⟩) 32 c,.string t]).run Tryz.prog W=.ok (goInt 32) (W.setCells g o (bys' (t.data.toList.take 32))):=by
 have hz:∀w,(Go.sizeOf 5).run Tryz.prog w=.ok 1 w:=λ_=>by kernel_rfl
 have hmin:Nat.min t.size 32=32:=Nat.min_eq_right h32
 have hl:(bys' (t.data.toList.take 32)).length=32:=by rw[bys'_len,List.length_take,<-Ms.size_eq];omega
 have hst:=run_storeCells_cells (P:=Tryz.prog) g o (bys' (t.data.toList.take 32)) 0 W (by rw[hl];intro j hj;simpa using(ht j hj).1) (by rw[hl];intro j hj;simpa using(ht j hj).2) (bys'_one _)
 have hmp:List.take 32 (List.map (λb:UInt8=>Value.int IntKind.u8 (b.toNat:Int)) t.data.toList)=bys' (t.data.toList.take 32):=by unfold bys';rw[List.map_take]
 simp[Builtin.copy_,run_underlying Tryz.underlying99,Builtin.lenOf,Builtin.firstCells,hz,hmin]
 rw[hmp,hst]
 rfl
theorem ecl_copy {W:World}{g t:Nat}{i:Int}{a:Bool}{n:Int}{d:Str}(hd:d.length=32)(h:Row W g t 35 (ecl i [] a n)):Row (W.setCells g 1 (bys' d)) g t 35 (ecl i d a n):=by
 refine Row.congr (Ms.Row.setAll (bys' d) 1 W _ h (by rw[bys'_len];omega)) λj hj=>?_
 rw[bys'_len,hd]
 by_cases e:1<=j/\j<1+32
 ·rw[if_pos e,List.getD_eq_getElem?_getD,bys'_at d (j-1) (by omega)]
  have e2:ecl i d a n j=.int .u8 ((d.getD (j-1) 0).toNat:Int):=by unfold ecl;rw[if_neg (by omega),if_pos (by omega)]
  rw[e2];rfl
 ·rw[if_neg e]
  unfold ecl
  by_cases e0:j=0
  ·simp only[e0,if_true]
  ·have e1:¬j<33:=by omega
   simp only[e0,e1,if_false]
section
variable {w w':World}{N M S L n:Nat}{O:Nat->Prop}{b:BM}
theorem nE_row (w:World):Row (w.alloc (.cells (Ms.arr 35 (ecl 0 [] false 0)) 34)) w.heap.size 34 35 (ecl 0 [] false 0):=Row.ofList w _ _ _ 35 rfl
theorem bentry_bad (i:Int)(hid:isId i=false)(w:World):Calls Tryz.prog 19 #[fptr M,.int .i64 i] w λe w'=>e=.returned (.tuple #[entA 0 [] false 0,.int .i64 0,.int .i64 6])/\Below w.heap.size w w':=by
 have HI:=Hh (isid_any i (w.alloc (.cells (Ms.arr 35 (ecl 0 [] false 0)) 34)))
 rw[hid] at HI
 have HR:=Hh (nE_row w)
 have hst:=st34 HR.out 0 [] false 0
 have HR2:=Hh (Ms.Row.setWhole (u:=ecl 0 [] false 0) HR.out)
 clear hid
 go_enter Tryz.func19,Tryz.ntmps19
 go_wp2_with fail
 refine HI.out.mono ?_
 rintro e w' ⟨rfl,rfl⟩
 go_wp2_with fail
 exact bodyPost_ret (v:=.tuple #[entA 0 [] false 0,.int .i64 0,.int .i64 6]) (res3 rfl _ _ w.heap.size (Ms.arr 35 (ecl 0 [] false 0)) _ _ rfl rfl rfl (ret34 HR2.out)) rfl ⟨rfl,Ms.Below.setAll (Nat.le_refl _) _ _ _ ((Below.refl _ _).alloc (Nat.le_refl _) _)⟩
theorem entT_none {V:Vars}{i:Int}(h:entV V i=none):entT V i=.tuple #[entA 0 [] false 0,.int .i64 0,.int .i64 6]:=by unfold entT entO;rw[h];rfl
theorem entV_eq {V:Vars}{i:Int}(h:isId i=true):entV V i=(getV V (nmE i.toNat)).filter okE:=if_pos h
theorem bentry_id (h:BW w N O M S L n b)(k:Nat)(hk:k<16):Calls Tryz.prog 19 #[fptr M,.int .i64 (k:Int)] w λe w'=>e=.returned (entT b.st.V k)/\Below w.heap.size w w':=by
 have hid:isId (k:Int)=true:=isId_iff.2 ⟨by omega,by omega⟩
 have HI:=Hh (isid_any (k:Int) (w.alloc (.cells (Ms.arr 35 (ecl 0 [] false 0)) 34)))
 rw[hid] at HI
 have HEV:Hid (entV b.st.V (k:Int)=(getV b.st.V (nmE k)).filter okE):=entV_eq hid
 obtain⟨kb,hkb⟩:∃kb:ByteArray,kb=⟨#[UInt8.ofNat k]⟩:=⟨_,rfl⟩
 have hkz:kb.size=1:=by rw[hkb];rfl
 obtain⟨ky,hky⟩:∃ky:ByteArray,ky=(⟨#[69,110,116,114,121]⟩:ByteArray)++kb:=⟨_,rfl⟩
 have HKY:Hid (ky.data.toList=nmE k):=by show _=_;rw[hky,hkb];simp[nmE]
 have hkyz:ky.size<=1000000:=by rw[bsz,HKY.out,nmE_len];omega
 have q1:¬9223372036854775807<5+kb.size:=by omega
 have hwid:IntKind.u8.wrap (k:Int)=(k:Int):=by rw[IntKind.wrap_u8'];omega
 obtain⟨W0,hW0⟩:∃W0,W0=w.alloc (.cells (Ms.arr 35 (ecl 0 [] false 0)) 34):=⟨_,rfl⟩
 obtain⟨E,hE⟩:∃E,E=w.heap.size:=⟨_,rfl⟩
 have HE:=Hh hE
 rw[<-hW0] at HI
 have HR0:Hid (Row W0 E 34 35 (ecl 0 [] false 0)):=by rw[hW0,hE];exact nE_row w
 have HB0:Hid (Below E w W0):=by rw[hW0,hE];exact(Below.refl _ _).alloc (Nat.le_refl _) _
 have hs0:E<W0.heap.size:=HR0.out.lt
 have HB2:Hid (Below E w (W0.alloc (.cells #[.int .u8 (k:Int)] 5)).drew):=(HB0.out.alloc (by omega) _).drew
 have HW0:Hid (BW W0.drew N O M S L n b):=h.below ((hE▸HB0.out).drew)
 have HW2:Hid (BW (W0.alloc (.cells #[.int .u8 (k:Int)] 5)).drew N O M S L n b):=h.below (hE▸HB2.out)
 obtain⟨vb,hvb⟩:∃vb:ByteArray,str (getS b.st.V (nmE k)).1=.string vb:=⟨_,rfl⟩
 have HVB:Hid (vb.data.toList=(getS b.st.V (nmE k)).1):=by
  show _=_
  unfold str at hvb
  injection hvb with hvb
  rw[<-hvb]
 obtain⟨cd,hcd⟩:∃cd,(getS b.st.V (nmE k)).2=cd:=⟨_,rfl⟩
 have HCD:=Hh hcd
 have HG:Hid (Calls Tryz.prog 56 #[fptr S,.string ky] (W0.alloc (.cells #[.int .u8 (k:Int)] 5)).drew λe w'=>e=.returned (.tuple #[.string vb,.int .i64 cd])/\(W0.alloc (.cells #[.int .u8 (k:Int)] 5)).drew=w'):=by
  have:=HW2.out.get hkyz
  rw[HKY.out,hvb,hcd] at this
  exact this
 have hob:(convert 99 9 (.slice (some ⟨W0.heap.size,0,none⟩) 1 1)).run Tryz.prog (W0.alloc (.cells #[.int .u8 (k:Int)] 5)).drew=.ok (.string kb) (W0.alloc (.cells #[.int .u8 (k:Int)] 5)).drew:=by rw[hkb];exact one_byte W0.drew k (by omega)
 have S1:Hid (W0.drew.cell? ⟨M,0,none⟩=some (fptr S)/\Row W0.drew E 34 35 (ecl 0 [] false 0)):=⟨HW0.out.c0,HR0.out⟩
 have S2:Hid ((W0.alloc (.cells #[.int .u8 (k:Int)] 5)).drew.cell? ⟨M,0,none⟩=some (fptr S)/\Row (W0.alloc (.cells #[.int .u8 (k:Int)] 5)).drew E 34 35 (ecl 0 [] false 0)):=⟨HW2.out.c0,HR0.out.alloc _⟩
 clear h hid hvb hcd HW0 HB0 hkb hE
 rw[hky] at HG
 clear hky hkyz
 go_enter Tryz.func19,Tryz.ntmps19
 go_wp2_with fail
 rw[<-hW0]
 refine HI.out.mono ?_
 rintro e w' ⟨rfl,rfl⟩
 clear hW0 HI
 rw[<-HE.out]
 go_wp2_with fail
 refine wp_region_pl (λ Y=>Y.cell? ⟨M,0,none⟩=some (fptr S)/\Row Y E 34 35 (ecl 0 [] false 0))
  ((0,0)::(1,0)::(2,0)::(3,0)::(4,0)::(5,0)::(6,1)::(7,1)::(8,1)::(9,1)::(10,0)::(11,0)::(12,0)::(13,0)::(14,0)::[]) (by kernel_rfl) (by kernel_rfl) ?_
 iterate 6 (apply wpP_go;rfl;rfl;exact S1.out;(rintro Y ⟨c0,s1⟩;go_simp;exact rfl);intro K hK;go_simp;refine hK _ ?_;clear hK K)
 iterate 3 (apply wpP_one;rfl;intro K hK;go_simp;refine hK _ _ S2.out ?_;clear hK K)
 apply wpP_one
 rfl
 intro K hK
 go_simp
 refine HG.out.mono ?_
 rintro e w6 ⟨rfl,rfl⟩
 refine hK _ _ S2.out ?_
 clear hK K hob HG
 iterate 5 (apply wpP_go;rfl;rfl;exact S2.out;(intro Y s0;go_simp;exact rfl);intro K hK;go_simp;refine hK _ ?_;clear hK K)
 refine wpP_done ?_
 have HRW:=Hh S2.out.2
 have HBW:=HB2
 clear S1 S2 HR0 HW2 HB2 hs0
 generalize (W0.alloc (.cells #[.int .u8 (k:Int)] 5)).drew=W at *
 have hst:=st34 HRW.out 0 [] false 0
 have HRZ:=Hh (Ms.Row.setWhole (u:=ecl 0 [] false 0) HRW.out)
 have HBZ:Hid (Below w.heap.size w (W.setCells E 0 (Ms.arr 35 (ecl 0 [] false 0)).toList)):=by rw[<-HE.out];exact Ms.Below.setAll (Nat.le_refl _) _ _ _ HBW.out
 clear HKY
 rcases hg:getV b.st.V (nmE k) with _|v
 ·have e1:cd=6:=by rw[<-HCD.out];unfold getS;rw[hg]
  have HT:Hid (entT b.st.V (k:Int)=.tuple #[entA 0 [] false 0,.int .i64 0,.int .i64 6]):=entT_none (by rw[HEV.out,hg];rfl)
  subst e1
  clear hg HEV HCD HVB
  go_wp2_with fail
  exact bodyPost_ret (v:=.tuple #[entA 0 [] false 0,.int .i64 0,.int .i64 6]) (res3 rfl _ _ E (Ms.arr 35 (ecl 0 [] false 0)) _ _ rfl rfl rfl (ret34 HRZ.out)) rfl ⟨by rw[HT.out],HBZ.out⟩
 have e1:cd=0:=by rw[<-HCD.out];unfold getS;rw[hg]
 have e2:vb.data.toList=v:=by rw[HVB.out];unfold getS;rw[hg]
 subst e1
 have hvz:vb.size=v.length:=by rw[bsz,e2]
 by_cases h35:v.length=35
 ·have hz35:vb.size=35:=by omega
  have l32:32<vb.size:=by rw[hz35];omega
  have l33:33<vb.size:=by rw[hz35];omega
  have l34:34<vb.size:=by rw[hz35];omega
  obtain⟨x,hx⟩:∃x,(vb[32]'l32).toNat=x:=⟨_,rfl⟩
  have hx2:(v.getD 32 0).toNat=x:=by rw[<-hx,ba_at,e2]
  clear h35 hvz
  by_cases h1:x<=1
  ·obtain⟨y,hy⟩:∃y,(vb[33]'l33).toNat=y:=⟨_,rfl⟩
   have hy2:(v.getD 33 0).toNat=y:=by rw[<-hy,ba_at,e2]
   obtain⟨z,hz⟩:∃z,(vb[34]'l34).toNat=z:=⟨_,rfl⟩
   have hz2:(v.getD 34 0).toNat=z:=by rw[<-hz,ba_at,e2]
   have hyb:y<256:=by rw[<-hy];exact(vb[33]'l33).toNat_lt
   have hzb:z<256:=by rw[<-hz];exact(vb[34]'l34).toNat_lt
   have hlv:v.length=35:=by rw[<-e2,<-bsz];exact hz35
   have h32:(v.take 32).length=32:=by rw[List.length_take];omega
   have HT:Hid (entT b.st.V (k:Int)=.tuple #[entA k (v.take 32) (decide (x=1)) y,.int .i64 (z:Int),.int .i64 0]):=by
    have hok:okE v=true:=by unfold okE;rw[hx2,hlv];simp[h1]
    have e3:entV b.st.V (k:Int)=some v:=by rw[HEV.out,hg];simp[Option.filter,hok]
    show _=_
    unfold entT entO
    rw[e3]
    simp only[Option.map_some,hx2,hy2,hz2,enV]
   have hwy:IntKind.i64.wrap (y:Int)=(y:Int):=IntWalk.i64_in _ ⟨by omega,by omega⟩
   have hwz:IntKind.i64.wrap (z:Int)=(z:Int):=IntWalk.i64_in _ ⟨by omega,by omega⟩
   have hx1:¬((x:Nat):Int) > 1:=by omega
   have hx3:decide (((x:Nat):Int) > 1)=false:=by simp;omega
   have EV:=Hh e2
   have HV32:=Hh h32
   clear hg HEV HCD HVB hx2 e2 hy2 hz2 hlv h32
   go_wp2_with fail
   obtain⟨a,ha⟩:∃a,((x:Int)==1)=a:=⟨_,rfl⟩
   have hxa:decide (x=1)=a:=by
    rw[<-ha,Bool.eq_iff_iff]
    simp
    omega
   rw[hxa] at HT
   clear hxa
   refine wp_region_pl (λ_=>True) ((0,0)::(1,0)::(2,0)::(3,0)::(4,0)::(5,0)::(6,0)::(7,0)::(8,1)::(9,1)::[]) (by kernel_rfl) (by kernel_rfl) ?_
   iterate 8 (apply wpP_go;rfl;rfl;exact trivial;(intro Y _;go_simp;exact rfl);intro K hK;go_simp;refine hK _ ?_;clear hK K)
   have HRe:Hid (Row (W.alloc (.cells (Ms.arr 35 (ecl 0 [] false 0)) 34)).drew E 34 35 (ecl 0 [] false 0)):=HRW.out.alloc _
   have HRn:Hid (Row (W.alloc (.cells (Ms.arr 35 (ecl 0 [] false 0)) 34)).drew W.heap.size 34 35 (ecl 0 [] false 0)):=nE_row W
   have HB3:Hid (Below E w (W.alloc (.cells (Ms.arr 35 (ecl 0 [] false 0)) 34)).drew):=(HBW.out.alloc (by have:=HRW.out.lt;omega) _).drew
   have hne:E≠W.heap.size:=by have:=HRW.out.lt;omega
   obtain⟨E2,hE2⟩:∃E2,W.heap.size=E2:=⟨_,rfl⟩
   have hEl:E<=E2:=by have:=HRW.out.lt;omega
   rw[hE2] at HRn hne
   have hst2:=st34 HRn.out k [] a y
   iterate 2 (apply wpP_one;rfl;intro K hK;go_simp;refine hK _ _ trivial ?_;clear hK K)
   refine wpP_done ?_
   clear hst2 hE2
   generalize (W.alloc (.cells (Ms.arr 35 (ecl 0 [] false 0)) 34)).drew=W2 at *
   have HR3:Hid (Row (W2.setCells E2 0 (Ms.arr 35 (ecl k [] a y)).toList) E2 34 35 (ecl k [] a y)):=Ms.Row.setWhole HRn.out
   have HE3:Hid (Row (W2.setCells E2 0 (Ms.arr 35 (ecl k [] a y)).toList) E 34 35 (ecl 0 [] false 0)):=Ms.Row.farAll hne _ _ _ HRe.out
   have HB4:Hid (Below E w (W2.setCells E2 0 (Ms.arr 35 (ecl k [] a y)).toList)):=Ms.Below.setAll hEl _ _ _ HB3.out
   clear HRe HRn HB3 HRW HBW HRZ HBZ hst
   generalize W2.setCells E2 0 (Ms.arr 35 (ecl k [] a y)).toList=W3 at *
   have hcp:=copy32 (W:=W3) (g:=E2) (o:=1) (c:=32) (t:=vb) (by omega) (λj hj=>⟨by rw[HR3.out.cell (by omega)];rfl,HR3.out.frozen _⟩)
   have HR4:Hid (Row (W3.setCells E2 1 (bys' (vb.data.toList.take 32))) E2 34 35 (ecl k (v.take 32) a y)):=by rw[EV.out];exact ecl_copy HV32.out HR3.out
   have HE4:Hid (Row (W3.setCells E2 1 (bys' (vb.data.toList.take 32))) E 34 35 (ecl 0 [] false 0)):=Ms.Row.farAll hne _ _ _ HE3.out
   have HB5:Hid (Below E w (W3.setCells E2 1 (bys' (vb.data.toList.take 32)))):=Ms.Below.setAll hEl _ _ _ HB4.out
   go_wp2_with fail
   clear hcp HR3 HE3 HB4
   generalize W3.setCells E2 1 (bys' (vb.data.toList.take 32))=W4 at *
   have hst4:=st34 (W:=W4.drew) HE4.out k (v.take 32) a y
   have HRF:Hid (Row (W4.drew.setCells E 0 (Ms.arr 35 (ecl k (v.take 32) a y)).toList) E 34 35 (ecl k (v.take 32) a y)):=Ms.Row.setWhole (w:=W4.drew) HE4.out
   have HBF:Hid (Below w.heap.size w (W4.drew.setCells E 0 (Ms.arr 35 (ecl k (v.take 32) a y)).toList)):=by rw[<-HE.out];exact Ms.Below.setAll (Nat.le_refl _) _ _ _ HB5.out.drew
   have S5:Hid (Row W4.drew E2 34 35 (ecl k (v.take 32) a y)):=HR4.out
   have S6:Hid (Row (W4.drew.setCells E 0 (Ms.arr 35 (ecl k (v.take 32) a y)).toList) E2 34 35 (ecl k (v.take 32) a y)):=Ms.Row.farAll hne.symm _ _ W4.drew HR4.out
   refine wp_region_pl (λ Y=>Row Y E2 34 35 (ecl k (v.take 32) a y)) ((0,0)::(1,0)::(2,0)::(3,0)::(4,1)::(5,0)::(6,0)::[]) (by kernel_rfl) (by kernel_rfl) ?_
   iterate 4 (apply wpP_go;rfl;rfl;exact S5.out;(intro Y s0;have l0:=ld34 s0;go_simp;exact rfl);intro K hK;go_simp;refine hK _ ?_;clear hK K)
   iterate 1 (apply wpP_one;rfl;intro K hK;go_simp;refine hK _ _ S6.out ?_;clear hK K)
   iterate 2 (apply wpP_go;rfl;rfl;exact S6.out;(intro Y s0;go_simp;exact rfl);intro K hK;go_simp;refine hK _ ?_;clear hK K)
   refine wpP_done ?_
   clear hst4
   go_wp2_with fail
   exact bodyPost_ret (v:=.tuple #[entA k (v.take 32) a y,.int .i64 (z:Int),.int .i64 0]) (res3 rfl _ _ E (Ms.arr 35 (ecl k (v.take 32) a y)) _ _ rfl rfl rfl (ret34 HRF.out)) rfl ⟨by rw[HT.out],HBF.out⟩
  ·have hx1:¬((x:Nat):Int)<=1:=by omega
   have hx3:decide (((x:Nat):Int) > 1)=true:=by simp;omega
   have HT:Hid (entT b.st.V (k:Int)=.tuple #[entA 0 [] false 0,.int .i64 0,.int .i64 6]):=entT_none (by
    rw[HEV.out,hg]
    have:okE v=false:=by unfold okE;rw[hx2];simp[h1]
    simp[Option.filter,this])
   clear hg HEV HCD HVB hx2 e2
   go_wp2_with fail
   exact bodyPost_ret (v:=.tuple #[entA 0 [] false 0,.int .i64 0,.int .i64 6]) (res3 rfl _ _ E (Ms.arr 35 (ecl 0 [] false 0)) _ _ rfl rfl rfl (ret34 HRZ.out)) rfl ⟨by rw[HT.out],HBZ.out⟩
 ·have h35I:¬(vb.size:Int)=35:=by omega
  have h35N:((vb.size:Int)!=35)=true:=by rw[bne_iff_ne];exact h35I
  have HT:Hid (entT b.st.V (k:Int)=.tuple #[entA 0 [] false 0,.int .i64 0,.int .i64 6]):=entT_none (by
   rw[HEV.out,hg]
   have:okE v=false:=by unfold okE;simp[h35]
   simp[Option.filter,this])
  clear hg HEV HCD HVB e2 hvz
  go_wp2_with fail
  exact bodyPost_ret (v:=.tuple #[entA 0 [] false 0,.int .i64 0,.int .i64 6]) (res3 rfl _ _ E (Ms.arr 35 (ecl 0 [] false 0)) _ _ rfl rfl rfl (ret34 HRZ.out)) rfl ⟨by rw[HT.out],HBZ.out⟩
theorem bentry_any (h:BW w N O M S L n b)(i:Int):Calls Tryz.prog 19 #[fptr M,.int .i64 i] w λe w'=>e=.returned (entT b.st.V i)/\Below w.heap.size w w':=by
 cases hid:isId i
 ·rw[entT_none (by unfold entV;rw[hid];rfl)]
  exact bentry_bad i hid w
 ·have:=isId_iff.1 hid
  obtain⟨k,rfl⟩:∃k:Nat,i=(k:Int):=⟨i.toNat,by omega⟩
  exact bentry_id h k (by omega)
end
end
section
theorem okO_snoc (l:List Int)(x:Int):okO (l++[x])=(okO l&&(isId x&&!decide (x∈l))):=by
 rw[Bool.eq_iff_iff]
 simp only[okO,decide_eq_true_eq,Bool.and_eq_true,Bool.not_eq_true',decide_eq_false_iff_not,List.nodup_append,List.mem_append,List.mem_singleton]
 constructor
 ·rintro ⟨⟨h1,_,h2⟩,h3⟩
  exact⟨⟨h1,λy hy=>h3 y (.inl hy)⟩,h3 x (.inr rfl),λhx=>h2 x hx x rfl rfl⟩
 ·rintro ⟨⟨h1,h2⟩,h3,h4⟩
  refine⟨⟨h1,by simp,λa ha c hc e=>h4 (by rw[<-hc,<-e];exact ha)⟩,λy hy=>?_⟩
  rcases hy with hy|hy
  ·exact h2 y hy
  ·rw[hy];exact h3
theorem okO_take {l:List Int}(h:okO l=true)(i:Nat):okO (l.take i)=true:=
 decide_eq_true ⟨(okO_nodup h).sublist (List.take_sublist i l),λx hx=>okO_id h x (List.mem_of_mem_take hx)⟩
theorem okO_step {l:List Int}{i:Nat}(h:i<l.length):okO (l.take (i+1))=(okO (l.take i)&&(isId l[i]&&!decide (l[i]∈l.take i))):=by
 rw[List.take_succ_eq_append_getElem h,okO_snoc]
def seenV (l:List Int)(j:Nat):Value:=.bool (decide ((j:Int)∈l))
theorem seen_set {w:World}{B t:Nat}{l:List Int}{i k:Nat}(h:Row w B t 16 (seenV (l.take i)))(hi:i<l.length)(hk:k<16)(e:l[i]=(k:Int)):Row (w.setCell ⟨B,k,none⟩ (.bool true)) B t 16 (seenV (l.take (i+1))):=
 (h.set hk (.bool true)).congr λj hj=>by
  rw[List.take_succ_eq_append_getElem hi]
  unfold seenV
  by_cases ej:j=k
  ·subst ej;rw[upd_hit,e];simp
  ·rw[upd_miss _ _ ej,e]
   congr 1
   rw[decide_eq_decide]
   simp only[List.mem_append,List.mem_singleton]
   exact⟨.inl,λq=>q.resolve_right (by omega)⟩
theorem alloc16 (w:World):Row (w.alloc (.cells #[.bool false,.bool false,.bool false,.bool false,.bool false,.bool false,.bool false,.bool false,.bool false,.bool false,.bool false,.bool false,.bool false,.bool false,.bool false,.bool false] 186)) w.heap.size 186 16 (seenV []):=Row.ofList w _ _ _ 16 rfl
section
variable {w w':World}{N M S L n:Nat}{O:Nat->Prop}{b:BM}{v:Value}{l:List Int}
theorem RdI.cellAt (h:RdI w v l){i:Nat}(hi:i<l.length):∃g o c,v=.slice (some ⟨g,o,none⟩) l.length c/\l.length<=c/\c<=maxLen/\w.cell? ⟨g,o+i,none⟩=some (.int .i64 l[i]):=by
 obtain⟨a,c,rfl,h1,h2,h3,h4⟩:=h
 obtain⟨g,o,rfl,hx⟩:=h4 (by intro e;rw[e] at hi;cases hi)
 exact⟨g,o,c,rfl,h1,h2,hx i _ (List.getElem?_eq_getElem hi)⟩
theorem RdI.shape (h:RdI w v l):∃a c,v=.slice a l.length c/\l.length<=c/\c<=9223372036854775807:=by
 obtain⟨a,c,rfl,h1,h2,_⟩:=h
 exact⟨a,c,rfl,h1,by unfold maxLen at h2;omega⟩
def RdJ (w:World)(v:Value)(l:List Int):Prop:=∃a c,v=.slice a l.length c/\l.length<=c/\c<=maxLen/\(l≠[]->∃g o,a=some ⟨g,o,none⟩/\g<w.heap.size/\∀i x,l[i]? = some x->w.cell? ⟨g,o+i,none⟩=some (.int .i64 x))
theorem RdI.j (h:RdI w v l):RdJ w v l:=by
 obtain⟨a,c,rfl,h1,h2,h3,h4⟩:=h
 refine⟨a,c,rfl,h1,h2,λhne=>?_⟩
 obtain⟨g,o,rfl,hx⟩:=h4 hne
 exact⟨g,o,rfl,h3 g rfl,hx⟩
theorem RdJ.below {B:Nat}(h:RdJ w v l)(b:Below B w w')(hB:w.heap.size<=B):RdJ w' v l:=by
 obtain⟨a,c,rfl,h1,h2,h4⟩:=h
 refine⟨a,c,rfl,h1,h2,λhne=>?_⟩
 obtain⟨g,o,rfl,hg,hx⟩:=h4 hne
 exact⟨g,o,rfl,Nat.lt_of_lt_of_le hg b.size,λi x hi=>(b.cell (p:=⟨g,o+i,none⟩) (by show g<B;omega)).trans (hx i x hi)⟩
theorem RdJ.cellAt (h:RdJ w v l){i:Nat}(hi:i<l.length):∃g o c,v=.slice (some ⟨g,o,none⟩) l.length c/\l.length<=c/\c<=maxLen/\w.cell? ⟨g,o+i,none⟩=some (.int .i64 l[i]):=by
 obtain⟨a,c,rfl,h1,h2,h4⟩:=h
 obtain⟨g,o,rfl,_,hx⟩:=h4 (by intro e;rw[e] at hi;cases hi)
 exact⟨g,o,c,rfl,h1,h2,hx i _ (List.getElem?_eq_getElem hi)⟩
theorem RdJ.shape (h:RdJ w v l):∃a c,v=.slice a l.length c/\l.length<=c/\c<=9223372036854775807:=by
 obtain⟨a,c,rfl,h1,h2,_⟩:=h
 exact⟨a,c,rfl,h1,by unfold maxLen at h2;omega⟩
theorem valid_any (h:RdJ w v l):Calls Tryz.prog 55 #[v] w λe w'=>e=.returned (.bool (okO l))/\Below w.heap.size w w':=by
 obtain⟨a,c,rfl,h1,h2⟩:=h.shape
 have H:=Hh h
 have HR0:=Hh (alloc16 w)
 have HB0:Hid (Below w.heap.size w (w.alloc (.cells #[.bool false,.bool false,.bool false,.bool false,.bool false,.bool false,.bool false,.bool false,.bool false,.bool false,.bool false,.bool false,.bool false,.bool false,.bool false,.bool false] 186))):=(Below.refl _ _).alloc (Nat.le_refl _) _
 obtain⟨len,hlen⟩:∃len,l.length=len:=⟨_,rfl⟩
 have HL:=Hh hlen
 rw[hlen] at H h1 ⊢
 clear h hlen
 obtain⟨E,hE⟩:∃E,w.heap.size=E:=⟨_,rfl⟩
 have HE:=Hh hE
 go_enter Tryz.func55,Tryz.ntmps55
 go_wp2_with fail
 generalize w.alloc (.cells #[.bool false,.bool false,.bool false,.bool false,.bool false,.bool false,.bool false,.bool false,.bool false,.bool false,.bool false,.bool false,.bool false,.bool false,.bool false,.bool false] 186)=W0 at *
 rw[hE] at HR0
 clear hE
 go_loopw [8] (λz wr=>∃i:Nat,i<=len/\z=.int .i64 (i:Int)/\Hid (okO (l.take i)=true)/\Hid (Row wr E 186 16 (seenV (l.take i)))/\Hid (Below w.heap.size w wr)) (λz _=>len-(intOf z).toNat)
 case atStart=>exact⟨0,by omega,rfl,rfl,HR0,HB0⟩
 case round=>
  clear HR0 HB0
  obtain⟨i,hi,rfl,HO,HR,HB⟩:=hrel
  by_cases hlt:i<len
  ·have y0:(i:Int)<len:=by omega
   have hil:i<l.length:=by rw[HL.out];exact hlt
   have HB':=HB.out
   obtain⟨g,o,c',e,_,_,hc⟩:=(H.out.below HB' (Nat.le_refl _)).cellAt hil
   rw[HL.out] at e
   injection e with e1 _ e3
   subst e1 e3
   have HS:=Hh (okO_step hil)
   have HSN:=Hh (λk hk e=>seen_set (k:=k) HR.out hil hk e)
   generalize l[i]=x at *
   have HI:=Hh (isid_any x wr)
   by_cases hid:isId x=true
   ·obtain⟨k,rfl⟩:∃k:Nat,x=(k:Int):=⟨x.toNat,by have:=isId_iff.1 hid;omega⟩
    have hk:k<16:=by have:=isId_iff.1 hid;omega
    have hkI:(k:Int)<16:=by omega
    have ck:=HR.out.cell hk
    have fk:=HR.out.frozen k
    have HID:=Hh hid
    rw[hid] at HI
    unfold seenV at ck
    cases hm:decide ((k:Int)∈l.take i)
    ·rw[hm] at ck
     have HO2:Hid (okO (l.take (i+1))=true):=by show _=_;rw[HS.out,HO.out,HID.out,hm];rfl
     have HR2:=Hh (HSN.out k hk rfl)
     have HB2:Hid (Below w.heap.size w (wr.setCell ⟨E,k,none⟩ (.bool true))):=HB'.setCell (p:=⟨E,k,none⟩) (by rw[HE.out];exact Nat.le_refl _) _
     clear hm HS HSN HO HB' HB HR hid hil
     go_wp2_with fail
     refine HI.out.mono ?_
     rintro e w' ⟨rfl,rfl⟩
     go_wp2_with fail
     go_roundw
     case rel=>exact⟨i+1,by omega,by go_num,HO2,HR2,HB2⟩
     case measure=>simp[intOf];omega
    ·rw[hm] at ck
     have HF:Hid (okO l=false):=by
      show _=_
      cases hq:okO l
      ·rfl
      ·have:=okO_take hq (i+1)
       rw[HS.out,hm] at this
       simp at this
     clear hm HS HSN HO hid hil
     go_wp2_with fail
     refine HI.out.mono ?_
     rintro e w' ⟨rfl,rfl⟩
     go_wp2_with fail
     go_ret
     rw[HF.out]
     exact⟨rfl,HB'⟩
   ·have hidf:isId x=false:=by cases hq:isId x;rfl;exact absurd hq hid
    have HF:Hid (okO l=false):=by
     show _=_
     cases hq:okO l
     ·rfl
     ·have:=okO_take hq (i+1)
      rw[HS.out,hidf] at this
      simp at this
    rw[hidf] at HI
    clear hid hidf HS HSN HO hil
    go_wp2_with fail
    refine HI.out.mono ?_
    rintro e w' ⟨rfl,rfl⟩
    go_wp2_with fail
    go_ret
    rw[HF.out]
    exact⟨rfl,HB'⟩
  ·have y0:¬(i:Int)<len:=by omega
   have HT:Hid (okO l=true):=by
    have:=HO.out
    rw[List.take_of_length_le (by rw[HL.out];omega)] at this
    exact this
   go_wp2_with fail
   go_ret
   rw[HT.out]
   exact⟨rfl,HB.out⟩
end
end
section
def ordS (l:List Int):Str:=l.map λx=>UInt8.ofNat x.toNat
theorem ordS_len (l:List Int):(ordS l).length=l.length:=by simp[ordS]
theorem ordS_at {l:List Int}{i:Nat}(hi:i<l.length):(ordS l).getD i 0=UInt8.ofNat (l[i]).toNat:=by simp[ordS,hi]
theorem byI_ordS {l:List Int}(h:okO l=true):byI (ordS l)=l:=by
 unfold byI ordS
 rw[List.map_map]
 conv=>rhs;rw[<-List.map_id l]
 apply List.map_congr_left
 intro x hx
 have:=isId_iff.1 (okO_id h x hx)
 simp only[Function.comp,id]
 rw[u8_of (by omega)]
 omega
def ocell (l:List Int)(i j:Nat):Value:=if j<i then .int .u8 (((ordS l).getD j 0).toNat:Int) else .int .u8 0
def setOrderB (b:BM)(l:List Int):Int×BM:=if okO l=true then setB b nmO (ordS l) else (1,b)
theorem ocell_set {w:World}{B t n:Nat}{l:List Int}{i k:Nat}(h:Rg w B t n (ocell l i))(hi:i<n)(hil:i<l.length)(e:l[i]=(k:Int))(hk:k<16):Rg (w.setCell ⟨B,i,none⟩ (.int .u8 (k:Int))) B t n (ocell l (i+1)):=
 (h.set hi _).congr λj hj=>by
  unfold ocell
  by_cases ej:j=i
  ·subst ej
   rw[upd_hit,if_pos (by omega),ordS_at hil,e,u8_of (by omega)]
   rfl
  ·rw[upd_miss _ _ ej]
   by_cases h1:j<i
   ·rw[if_pos h1,if_pos (by omega)]
   ·rw[if_neg h1,if_neg (by omega)]
section
variable {w w':World}{N M S L n:Nat}{O:Nat->Prop}{b:BM}{v:Value}{l:List Int}
theorem mk_u8 (W:World)(k:Nat)(hk:k<=1000):(Instr.makeSlice 99 (.int .i64 (k:Int)) (.int .i64 (k:Int))).run Tryz.prog W=.ok (.slice (some ⟨W.heap.size,0,none⟩) k k) (W.alloc (.cells (madeCells (Value.int .u8 0).cells k) 5)):=by
 obtain⟨i0,hi0,hx0,hx1,hx2⟩:=info_parts Tryz.infoU
 have:=run_make (P:=Tryz.prog) W 99 5 i0 (.int .u8 0) Tryz.underlying99 hi0 hx0 .i64 .i64 (k:Int) (k:Int) (by omega) (by omega) (by rw[hx2];omega) (by omega)
 rw[hx1] at this
 simpa using this
theorem setOrder_any (h:BW w N O M S L n b)(hb:b.st.blk<b.fl.B)(hn:n<1000)(hv:RdJ w v l):Calls Tryz.prog 15 #[fptr M,v] w (MR w N O M S L (n+1) (setOrderB b l)):=by
 have HV:=Hh (valid_any hv)
 obtain⟨a,c,rfl,h1,h2⟩:=hv.shape
 have H:=Hh hv
 have HW:=Hh h
 clear h hv
 unfold setOrderB
 by_cases ho:okO l=true
 ·rw[if_pos ho]
  rw[ho] at HV
  obtain⟨len,hlen⟩:∃len,l.length=len:=⟨_,rfl⟩
  have HL:=Hh hlen
  have h16:len<=16:=by rw[<-hlen];exact okO_len ho
  have HID:Hid (∀x∈l,0<=x/\x<16):=λx hx=>isId_iff.1 (okO_id ho x hx)
  rw[hlen] at H HV h1 ⊢
  clear hlen ho
  go_enter Tryz.func15,Tryz.ntmps15
  go_wp2_with fail
  refine HV.out.mono ?_
  rintro e w1 ⟨rfl,b1⟩
  have HB1:=Hh b1
  have H1:=Hh (H.out.below b1 (Nat.le_refl _))
  have HW1:=Hh (HW.out.below b1)
  have hmk:=mk_u8 w1 len (by omega)
  have HR0:Hid (Rg (w1.alloc (.cells (madeCells (Value.int .u8 0).cells len) 5)) w1.heap.size 5 len (ocell l 0)):=(Rg.made w1 5 len (.int .u8 0) rfl).congr λj hj=>by
   unfold ocell;rw[if_neg (by omega)]
  have HB2:Hid (Below w1.heap.size w1 (w1.alloc (.cells (madeCells (Value.int .u8 0).cells len) 5))):=(Below.refl _ _).alloc (Nat.le_refl _) _
  obtain⟨W0,hW0⟩:∃W0,w1.alloc (.cells (madeCells (Value.int .u8 0).cells len) 5)=W0:=⟨_,rfl⟩
  obtain⟨B,hB⟩:∃B,w1.heap.size=B:=⟨_,rfl⟩
  have HBE:=Hh hB
  rw[hW0] at hmk HR0 HB2
  rw[hB] at hmk HR0
  clear b1 HV hB hW0
  go_wp2_with fail
  clear hmk
  go_loopw [16] (λz wr=>∃i:Nat,i<=len/\z=.int .i64 (i:Int)/\Hid (Rg wr B 5 len (ocell l i))/\Hid (Below w1.heap.size w1 wr)) (λz _=>len-(intOf z).toNat)
  case atStart=>exact⟨0,by omega,rfl,HR0,HB2⟩
  case round=>
   clear HR0 HB2
   obtain⟨i,hi,rfl,HR,HB⟩:=hrel
   by_cases hlt:i<len
   ·have y0:(i:Int)<len:=by omega
    have hil:i<l.length:=by rw[HL.out];exact hlt
    obtain⟨g,o,c',e,_,_,hc⟩:=(H1.out.below HB.out (Nat.le_refl _)).cellAt hil
    rw[HL.out] at e
    injection e with e1 _ e3
    subst e1 e3
    obtain⟨k,hk⟩:∃k:Nat,l[i]=(k:Int):=⟨(l[i]).toNat,by have:=HID.out l[i] (List.getElem_mem hil);omega⟩
    have hk16:k<16:=by have:=HID.out l[i] (List.getElem_mem hil);omega
    have hwk:IntKind.u8.wrap (k:Int)=(k:Int):=by rw[IntKind.wrap_u8'];omega
    have HR2:=Hh (ocell_set HR.out hlt hil hk hk16)
    have cb:=HR.out.cell hlt
    have fb:=HR.out.frozen i
    have HB2:Hid (Below w1.heap.size w1 (wr.setCell ⟨B,i,none⟩ (.int .u8 (k:Int)))):=HB.out.setCell (p:=⟨B,i,none⟩) (by rw[HBE.out];exact Nat.le_refl _) _
    rw[hk] at hc
    clear hk hil HB HR
    go_wp2_with fail
    go_roundw
    case rel=>exact⟨i+1,by omega,by go_num,HR2,HB2⟩
    case measure=>simp[intOf];omega
   ·have ei:i=len:=by omega
    have y0:¬(i:Int)<len:=by omega
    subst ei
    have HWr:=Hh (HW1.out.below HB.out)
    have HRr:Hid (Rg wr B 5 i (λj=>.int .u8 (((ordS l).getD j 0).toNat:Int))):=HR.out.congr λj hj=>by unfold ocell;rw[if_pos hj]
    have hlo:(ordS l).length=i:=by rw[ordS_len,HL.out]
    obtain⟨vb,hvb⟩:∃vb:ByteArray,vb=⟨(ordS l).toArray⟩:=⟨_,rfl⟩
    have HVB:Hid (vb.data.toList=ordS l):=by show _=_;rw[hvb]
    have hvz:vb.size<=1000000:=by rw[bsz,HVB.out,hlo];omega
    have HCV:Hid (∀Y,Rg Y B 5 i (λj=>.int .u8 (((ordS l).getD j 0).toNat:Int))->(convert 99 9 (.slice (some ⟨B,0,none⟩) i i)).run Tryz.prog Y=.ok (.string vb) Y):=λ Y h=>by rw[hvb];exact conv_rg h hlo
    have HST:=Hh (HWr.out.drew.setB hb hn (ke:=⟨#[79,114,100,101,114]⟩) (k:=nmO) (v:=ordS l) (by decide) hvz rfl HVB.out)
    have HnO:Hid (¬O B):=λho=>by have:=(HW1.out.oN B ho).2;have:=HBE.out;omega
    have S1:Hid (wr.drew.cell? ⟨M,0,none⟩=some (fptr S)/\Rg wr.drew B 5 i (λj=>.int .u8 (((ordS l).getD j 0).toNat:Int))):=⟨HWr.out.c0,HRr.out⟩
    have HBr:Hid (Below w.heap.size w wr.drew):=(HB1.out.trans (HB.out.mono HB1.out.size)).drew
    clear hvb hlo HR HRr HB HB1 H1 HW1 HWr
    go_wp2_with fail
    refine wp_region_pl (λ Y=>Y.cell? ⟨M,0,none⟩=some (fptr S)/\Rg Y B 5 i (λj=>.int .u8 (((ordS l).getD j 0).toNat:Int)))
     ((0,0)::(1,0)::(2,0)::(3,0)::(4,0)::(5,0)::(6,1)::(7,0)::[]) (by kernel_rfl) (by kernel_rfl) ?_
    iterate 6 (apply wpP_go;rfl;rfl;exact S1.out;(rintro Y ⟨c0,s2⟩;have cv:=HCV.out Y s2;go_simp;exact rfl);intro K hK;go_simp;refine hK _ ?_;clear hK K)
    apply wpP_one
    rfl
    intro K hK
    go_simp
    refine HST.out.mono ?_
    rintro e w6 ⟨rfl,hl⟩
    have HLf:=Hh hl
    have S3:Hid (w6.cell? ⟨M,0,none⟩=some (fptr S)/\Rg w6 B 5 i (λj=>.int .u8 (((ordS l).getD j 0).toNat:Int))):=by
     obtain⟨O',_,q2,q3⟩:=hl
     exact⟨q2.c0,S1.out.2.ch q3 HnO.out⟩
    refine hK _ _ S3.out ?_
    clear hK K hl
    iterate 1 (apply wpP_go;rfl;rfl;exact S3.out;(intro Y s0;go_simp;exact rfl);intro K hK;go_simp;refine hK _ ?_;clear hK K)
    refine wpP_done ?_
    clear S1 S3 HST
    go_wp2_with fail
    go_ret
    exact⟨rfl,HLf.out.after HBr.out⟩
 ·have hf:okO l=false:=by cases hq:okO l;rfl;exact absurd hq ho
  rw[if_neg ho]
  rw[hf] at HV
  clear ho hf
  go_enter Tryz.func15,Tryz.ntmps15
  go_wp2_with fail
  refine HV.out.mono ?_
  rintro e w1 ⟨rfl,b1⟩
  have HB1:=Hh b1
  have HW1:=Hh (HW.out.below b1)
  clear b1
  go_wp2_with fail
  go_ret
  exact⟨rfl,MLeft.same (HW1.out.mono (Nat.le_succ _)) (Ch.of_below HB1.out _)⟩
end
end
section
attribute [local go_sem ↓] alloc34 load34 store34 build34 build34o
def setEntryB (b:BM)(i:Int)(d:Str)(a:Bool)(k:Int):Int×BM:=if isId i=true/\1<=k/\k<=255 then setB b (nmE i.toNat) (entS d a k.toNat 0) else (1,b)
def setNextB (b:BM)(i:Int):Int×BM:=if isId i=true then setB b nmN [UInt8.ofNat i.toNat] else (1,b)
section
variable {w w':World}{N M S L n:Nat}{O:Nat->Prop}{b:BM}
theorem MR.no (h:BW w' N O M S L n b)(hb:Below w.heap.size w w'):MR w N O M S L (n+1) (1,b) (.returned (.int .i64 1)) w':=
 ⟨rfl,MLeft.same (h.mono (Nat.le_succ _)) (Ch.of_below hb _)⟩
theorem setEntry_any (h:BW w N O M S L n b)(hb:b.st.blk<b.fl.B)(hn:n<1000)(i:Int){d:Str}(hd:d.length=32)(a:Bool)(k:Int) :
  Calls Tryz.prog 13 #[fptr M,entA i d a k] w (MR w N O M S L (n+1) (setEntryB b i d a k)):=by
 obtain⟨cs,hcs⟩:∃cs,cs=Ms.arr 35 (ecl i d a k):=⟨_,rfl⟩
 have he:entA i d a k=.agg cs:=by rw[hcs];rfl
 have R0:Row (w.alloc (.cells cs 34)) w.heap.size 34 35 (ecl i d a k):=by rw[hcs];exact Row.ofList w _ _ _ 35 rfl
 have HB0:Hid (Below w.heap.size w (w.alloc (.cells cs 34))):=(Below.refl _ _).alloc (Nat.le_refl _) _
 have HW1:=Hh (h.below HB0.out)
 have c0:(w.alloc (.cells cs 34)).cell? ⟨w.heap.size,0,none⟩=some (.int .i64 i):=R0.cell (i:=0) (by omega)
 have c34:(w.alloc (.cells cs 34)).cell? ⟨w.heap.size,34,none⟩=some (.int .i64 k):=R0.cell (i:=34) (by omega)
 have hld:=ld34 R0
 rw[<-hcs] at hld
 have HI:=Hh (isid_any i (w.alloc (.cells cs 34)))
 have HP:Hid (isId i=true/\1<=k/\k<=255->Calls Tryz.prog 53 #[fptr M,.agg cs,.int .i64 0] (w.alloc (.cells cs 34)) (MR (w.alloc (.cells cs 34)) N O M S L (n+1) (setB b (nmE i.toNat) (entS d a k.toNat 0)))):=λ⟨h1,h2,h3⟩=>by
  have hi:=isId_iff.1 h1
  obtain⟨j,rfl⟩:∃j:Nat,i=(j:Int):=⟨i.toNat,by omega⟩
  obtain⟨m,rfl⟩:∃m:Nat,k=(m:Int):=⟨k.toNat,by omega⟩
  rw[<-he]
  exact bput_any HW1.out hb hn j (by omega) hd a m 0 (by omega) (by omega)
 rw[he]
 unfold setEntryB
 clear R0 hcs he h
 by_cases h1:isId i=true
 ·rw[h1] at HI
  by_cases h2:k<1
  ·rw[if_neg (by omega)]
   clear HP
   go_enter Tryz.func13,Tryz.ntmps13
   go_wp2_with fail
   refine HI.out.mono ?_
   rintro e w1 ⟨rfl,rfl⟩
   go_wp2_with fail
   go_ret
   exact MR.no HW1.out HB0.out
  ·by_cases h3:k > 255
   ·rw[if_neg (by omega)]
    clear HP
    go_enter Tryz.func13,Tryz.ntmps13
    go_wp2_with fail
    refine HI.out.mono ?_
    rintro e w1 ⟨rfl,rfl⟩
    go_wp2_with fail
    go_ret
    exact MR.no HW1.out HB0.out
   ·rw[if_pos ⟨h1,by omega,by omega⟩]
    have HPP:=Hh (HP.out ⟨h1,by omega,by omega⟩)
    clear HP
    go_enter Tryz.func13,Tryz.ntmps13
    go_wp2_with fail
    refine HI.out.mono ?_
    rintro e w1 ⟨rfl,rfl⟩
    go_wp2_with fail
    refine HPP.out.mono ?_
    rintro e w2 ⟨rfl,hl⟩
    have HLf:=Hh hl
    clear hl HPP
    go_wp2_with fail
    go_ret
    exact⟨rfl,HLf.out.after HB0.out⟩
 ·have hf:isId i=false:=by cases hq:isId i;rfl;exact absurd hq h1
  rw[if_neg (λq=>h1 q.1)]
  rw[hf] at HI
  clear HP
  go_enter Tryz.func13,Tryz.ntmps13
  go_wp2_with fail
  refine HI.out.mono ?_
  rintro e w1 ⟨rfl,rfl⟩
  go_wp2_with fail
  go_ret
  exact MR.no HW1.out HB0.out
theorem setNext_any (h:BW w N O M S L n b)(hb:b.st.blk<b.fl.B)(hn:n<1000)(i:Int) :
  Calls Tryz.prog 29 #[fptr M,.int .i64 i] w (MR w N O M S L (n+1) (setNextB b i)):=by
 have HI:=Hh (isid_any i w)
 have HW:=Hh h
 clear h
 unfold setNextB
 by_cases h1:isId i=true
 ·rw[if_pos h1]
  have hi:=isId_iff.1 h1
  rw[h1] at HI
  obtain⟨k,rfl⟩:∃k:Nat,i=(k:Int):=⟨i.toNat,by omega⟩
  have hk:k<16:=by omega
  clear h1 hi
  have hwid:IntKind.u8.wrap (k:Int)=(k:Int):=by rw[IntKind.wrap_u8'];omega
  obtain⟨kb,hkb⟩:∃kb:ByteArray,kb=⟨#[UInt8.ofNat k]⟩:=⟨_,rfl⟩
  have HKB:Hid (kb.data.toList=[UInt8.ofNat k]):=by show _=_;rw[hkb]
  have hkz:kb.size<=1000000:=by rw[bsz,HKB.out];simp
  have HB2:Hid (Below w.heap.size w (w.alloc (.cells #[.int .u8 (k:Int)] 5)).drew):=((Below.refl _ _).alloc (Nat.le_refl _) _).drew
  have HW2:=Hh (HW.out.below HB2.out)
  have HST:=Hh (HW2.out.setB hb hn (ke:=⟨#[78,101,120,116]⟩) (k:=nmN) (v:=[UInt8.ofNat k]) (by decide) hkz rfl HKB.out)
  have hob:(convert 99 9 (.slice (some ⟨w.heap.size,0,none⟩) 1 1)).run Tryz.prog (w.alloc (.cells #[.int .u8 (k:Int)] 5)).drew=.ok (.string kb) (w.alloc (.cells #[.int .u8 (k:Int)] 5)).drew:=by rw[hkb];exact one_byte w.drew k (by omega)
  have S1:Hid (w.drew.cell? ⟨M,0,none⟩=some (fptr S)):=HW.out.drew.c0
  have S2:Hid ((w.alloc (.cells #[.int .u8 (k:Int)] 5)).drew.cell? ⟨M,0,none⟩=some (fptr S)):=HW2.out.c0
  have hkt:[UInt8.ofNat (k:Int).toNat]=[UInt8.ofNat k]:=rfl
  rw[hkt]
  clear hkt
  clear hkb HW HW2 HKB
  go_enter Tryz.func29,Tryz.ntmps29
  go_wp2_with fail
  refine HI.out.mono ?_
  rintro e w1 ⟨rfl,rfl⟩
  clear HI
  go_wp2_with fail
  refine wp_region_pl (λ Y=>Y.cell? ⟨M,0,none⟩=some (fptr S))
   ((0,0)::(1,0)::(2,0)::(3,0)::(4,0)::(5,0)::(6,1)::(7,1)::(8,1)::(9,0)::[]) (by kernel_rfl) (by kernel_rfl) ?_
  iterate 6 (apply wpP_go;rfl;rfl;exact S1.out;(intro Y c0;go_simp;exact rfl);intro K hK;go_simp;refine hK _ ?_;clear hK K)
  iterate 2 (apply wpP_one;rfl;intro K hK;go_simp;refine hK _ _ S2.out ?_;clear hK K)
  apply wpP_one
  rfl
  intro K hK
  go_simp
  refine HST.out.mono ?_
  rintro e w6 ⟨rfl,hl⟩
  have HLf:=Hh hl
  have S3:Hid (w6.cell? ⟨M,0,none⟩=some (fptr S)):=by
   obtain⟨O',_,q2,q3⟩:=hl
   exact q2.c0
  refine hK _ _ S3.out ?_
  clear hK K hl hob
  iterate 1 (apply wpP_go;rfl;rfl;exact S3.out;(intro Y s0;go_simp;exact rfl);intro K hK;go_simp;refine hK _ ?_;clear hK K)
  refine wpP_done ?_
  clear S1 S2 S3 HST
  go_wp2_with fail
  go_ret
  exact⟨rfl,HLf.out.after HB2.out⟩
 ·have hf:isId i=false:=by cases hq:isId i;rfl;exact absurd hq h1
  rw[if_neg h1]
  rw[hf] at HI
  clear hf h1
  go_enter Tryz.func29,Tryz.ntmps29
  go_wp2_with fail
  refine HI.out.mono ?_
  rintro e w1 ⟨rfl,rfl⟩
  go_wp2_with fail
  go_ret
  exact MR.no HW.out (Below.refl _ _)
end
end
end Go.Proofs.YtdinbpdpalgohaaGreatDoor
