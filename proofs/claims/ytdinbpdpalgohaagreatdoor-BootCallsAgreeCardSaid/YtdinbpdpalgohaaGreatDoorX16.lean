/- Walks and laws: BQ BR BM BN BS BT. Conditions: those that each theorem names. -/
import Derived.Laws.StructEq
import Derived.Test.YtdinbpdpalgohaaGreatDoorX15
import Derived.Test.YtdinbpdpalgohaaGreatDoorSk
set_option maxHeartbeats 4000000
set_option maxRecDepth 100000
namespace Go.Proofs.YtdinbpdpalgohaaGreatDoor
open Go.RowKit
section
attribute [local go_sem ↓] alloc34 load34 store34 build34 build34o
attribute [local go_sem] Ms.set_new
def bootT:ByteArray:=⟨#[98,111,111,116]⟩
def tryB (b:BM)(l:List ByteArray):(Int×Int)×Int×BM:=match b.cand with
 | []=>((0,0),6,b)
 | x::r=>
  if exC b.st.V x.toNat l=0 then
   if (setB b (nmE x.toNat) (entS (exE b.st.V x).d (exE b.st.V x).a (exE b.st.V x).n ((exE b.st.V x).u+1))).1≠0 then ((0,0),setB b (nmE x.toNat) (entS (exE b.st.V x).d (exE b.st.V x).a (exE b.st.V x).n ((exE b.st.V x).u+1)))
   else ((x,0),0,{ (setB b (nmE x.toNat) (entS (exE b.st.V x).d (exE b.st.V x).a (exE b.st.V x).n ((exE b.st.V x).u+1))).2 with cand:=[],log:=b.log++[(x,0)],last:=x,es:=b.es++[⟨4,Ms.sumD (l.getD x.toNat ⟨#[]⟩).data.toList,bootT⟩] })
  else ((x,exC b.st.V x.toNat l),0,{ b with cand:=r,log:=b.log++[(x,exC b.st.V x.toNat l)] })
def TR (w:World)(N:Nat)(O:Nat->Prop)(M S L n:Nat)(r:(Int×Int)×Int×BM)(e:Ending)(w':World):Prop:=e=.returned (.tuple #[.agg #[.int .i64 r.1.1,.int .i64 r.1.2],.int .i64 r.2.1])/\MLeft w w' N O M S L n r.2.2
def stp (x c:Int)(j:Nat):Value:=if j=0 then .int .i64 x else .int .i64 c
theorem Row.two {w:World}{B t:Nat}{v:Nat->Value}(h:Row w B t 2 v):w.heap[B]? = some (.cells #[v 0,v 1] t (0,0)):=by
 have:=h.arr
 exact this
theorem ret40 {W:World}{g:Nat}{x c:Int}(h:Row W g 40 2 (stp x c)):(loadVar 40 ⟨g,0,none⟩).run Tryz.prog W=.ok (.agg #[.int .i64 x,.int .i64 c]) W:=
 run_loadVar_row _ _ 40 40 _ (0,0) _ h.two Tryz.underlying40 rfl (by kernel_rfl)
theorem exC_zero {V:Vars}{i:Nat}{l:List ByteArray}(h:exC V i l=0):∃e,entO V i=some e/\i<l.length/\(l.getD i ⟨#[]⟩).size≠0/\e.a=true/\sumS (l.getD i ⟨#[]⟩)=e.d/\e.d∉denV V/\e.u<e.n:=by
 unfold exC at h
 rcases hO:entO V (i:Int) with _|e
 ·rw[hO] at h;cases h
 ·rw[hO] at h
  simp only at h
  split at h
  ·cases h
  ·rename_i h1
   split at h
   ·cases h
   ·rename_i h2
    split at h
    ·cases h
    ·rename_i h3
     split at h
     ·cases h
     ·rename_i h4
      split at h
      ·cases h
      ·rename_i h5
       exact⟨e,rfl,by omega,λq=>h1 (.inr q),by simpa using h2,Classical.byContradiction h3,h4,by omega⟩
section
variable {w w':World}{N M S L n:Nat}{O:Nat->Prop}{b:BM}{v:Value}{l:List ByteArray}
theorem BW.pushLog {w2:World}{u vl:Value}{l':List (Int×Int)}(h:BW w N O M S L n b)(c3:w.cell? ⟨M,3,none⟩=some vl)(hg:w.grownBy w2 vl.ownBlock)(hu:w2.ownsRow N 40 2 u l'.length (stv l'))(ho:∀g,u.ownBlock=some g->vl.ownBlock=some g\/w.heap.size<=g) :
  BW (w2.setCell ⟨M,3,none⟩ u) N (λk=>O k\/u.ownBlock=some k) M S L n { b with log:=l' }:=by
 obtain⟨R,D,DS,X,m,y,ve,vc,vl',h⟩:=h
 have e3:=h.c3
 rw[c3] at e3
 injection e3 with e3
 subst e3
 have hMlt:=h.t.lt
 have hvM:=h.vlM
 have huM:∀g,u.ownBlock=some g->g≠M:=λg hk e=>by
  rcases ho g hk with q|q
  ·exact hvM g q e
  ·omega
 have cg:Ch (λk=>vl.ownBlock=some k) w w2:=Ch.of_grown hg (λk hk _=>hk)
 have c:Ch (λk=>k=M\/vl.ownBlock=some k) w (w2.setCell ⟨M,3,none⟩ u):=(cg.mono (λi hi _=>.inr hi)).setCell (p:=⟨M,3,none⟩) (λ_=>.inl rfl) u
 have nt:∀{k q},R k=q->q≠4->¬(k=M\/vl.ownBlock=some k):=λ {k q} e1 e2 e=>by
  rcases e with e|e
  ·rw[e,h.rM] at e1;omega
  ·rw[h.rl k e] at e1;omega
 have lt:∀k,R k≠0->k<w.heap.size:=λk e=>(h.oN k (h.hO k e)).2
 have kp:∀{k q},R k=q->q≠0->q≠4->(if u.ownBlock=some k then 4 else R k)=q:=λ {k q} e1 e2 e3=>by
  rw[if_neg (λe=>by
   rcases ho k e with q'|q'
   ·rw[h.rl k q'] at e1;omega
   ·have:=lt k (by omega);omega)]
  exact e1
 have h0:=h.h0
 have hs:0<w.heap.size:=Nat.lt_of_lt_of_le h.h0 h.hN
 have hM:=h.oN M (h.hO M (by rw[h.rM];omega))
 refine⟨λk=>if u.ownBlock=some k then 4 else R k,D,DS,X,m,y,ve,vc,u,?_⟩
 exact {
  f:=h.f.ch c (λk hk=>nt (h.rD k hk) (by omega))
  s:=h.s.ch c (λk hk=>nt (h.rS k hk) (by omega))
  g:=Row.ch h.g c (nt h.rL (by omega))
  e:=ownN_ch h.e c (λk hk=>nt (h.rE k hk) (by omega))
  t:=((h.t.ch cg (λq=>hvM M q rfl)).set (i:=3) (by omega) u).congr (mgv_3 _ _ _ _ _ _)
  c:=h.c.ch c (λk hk=>nt (h.rC k hk) (by omega))
  l:=ownN_ch hu ((Ch.refl (λk=>k=M) w2).setCell (p:=⟨M,3,none⟩) (λ_=>rfl) u) (λk hk q=>huM k hk q)
  rD:=λk hk=>kp (h.rD k hk) (by omega) (by omega)
  rS:=λk hk=>kp (h.rS k hk) (by omega) (by omega)
  rL:=kp h.rL (by omega) (by omega)
  rE:=λk hk=>kp (h.rE k hk) (by omega) (by omega)
  rM:=by
   show(if u.ownBlock=some M then 4 else R M)=4
   split
   ·rfl
   ·exact h.rM
  rl:=λk hk=>if_pos hk
  rC:=λk hk=>kp (h.rC k hk) (by omega) (by omega)
  hO:=λk hk=>by
   by_cases e:u.ownBlock=some k
   ·exact .inr e
   ·have hk:(if u.ownBlock=some k then 4 else R k)≠0:=hk
    rw[if_neg e] at hk
    exact .inl (h.hO k hk)
  oN:=λk hk=>by
   rcases hk with hk|hk
   ·exact⟨(h.oN k hk).1,Nat.lt_of_lt_of_le (h.oN k hk).2 c.size⟩
   ·obtain⟨q1,q2⟩:=ownN_rg hu hk
    exact⟨q2,Nat.lt_of_lt_of_le q1.lt (by simp[World.setCell])⟩
  rnd:=rnd_ch h.rnd c (λq=>by
   rcases q with q|q
   ·omega
   ·have:=(h.oN 0 (h.hO 0 (by rw[h.rl 0 q];omega))).1;omega) hs
  h0:=h0
  hN:=Nat.le_trans h.hN c.size }
theorem try_any (h:BW w N O M S L n b)(hb:b.st.blk<b.fl.B)(hn:n<1000)(hc:∀x∈b.cand,isId x=true)(hes:b.es.length<256)(hlg:b.log.length<=1000)(hv:RdT w v l)(hvO:∀g,v.ownBlock=some g->¬O g)(hs:∀x∈l,x.size<=1073741824) :
  Calls Tryz.prog 17 #[fptr M,v] w (TR w N O M S L (n+1) (tryB b l)):=by
 obtain⟨r,hr⟩:∃r,tryB b l=r:=⟨_,rfl⟩
 have HRE:=Hh hr
 rw[hr]
 clear hr
 unfold tryB at HRE
 have HB0:Hid (Below w.heap.size w (w.alloc (.cells #[.int .i64 0,.int .i64 0] 40))):=(Below.refl _ _).alloc (Nat.le_refl _) _
 have HR0:Hid (Row (w.alloc (.cells #[.int .i64 0,.int .i64 0] 40)) w.heap.size 40 2 (stp 0 0)):=Row.ofList w _ _ _ 2 rfl
 have HWW:=Hh h
 have HW0:=Hh (h.below HB0.out)
 obtain⟨vc,c2,hvc,hvcO⟩:=HW0.out.c2
 have HVC:=Hh hvc
 have HVCO:=Hh hvcO
 obtain⟨E,hE⟩:∃E,w.heap.size=E:=⟨_,rfl⟩
 have HE:=Hh hE
 have HnE:Hid (¬O E):=λq=>by have:=(h.oN E q).2;omega
 rw[hE] at HR0
 have hsz:E<(w.alloc (.cells #[.int .i64 0,.int .i64 0] 40)).heap.size:=HR0.out.lt
 clear h hvc hvcO hE
 rcases hcd:b.cand with _|⟨x,cr⟩
 ·rw[hcd] at HVC HRE
  have e0:r=((0,0),6,b):=HRE.out.symm
  subst e0
  obtain⟨a,c,rfl,h1,h2⟩:=HVC.out.shape
  clear hcd HRE
  go_enter Tryz.func17,Tryz.ntmps17
  go_wp2_with fail
  rw[HE.out]
  go_wp2_with fail
  exact bodyPost_ret (v:=.tuple #[.agg #[.int .i64 0,.int .i64 0],.int .i64 6]) (res2 rfl _ _ E #[.int .i64 0,.int .i64 0] _ rfl rfl (ret40 HR0.out)) rfl ⟨rfl,MLeft.same (HW0.out.mono (Nat.le_succ _)) (Ch.of_below HB0.out _)⟩
 ·rw[hcd] at HVC HRE
  obtain⟨g,o,c,rfl,h1,h2,hx,hgl,hrt⟩:=HVC.out.tail
  have HRT:=Hh hrt
  have hid:isId x=true:=hc x (by rw[hcd];exact List.mem_cons_self ..)
  have hii:=isId_iff.1 hid
  obtain⟨k,rfl⟩:∃k:Nat,x=(k:Int):=⟨x.toNat,by omega⟩
  have hk:k<16:=by omega
  have hkt:((k:Int)).toNat=k:=rfl
  have hex:=examine_any HW0.out k (hv.below HB0.out) hs
  simp only[hkt] at HRE
  have HZ:Hid (exC b.st.V k l=0->(exE b.st.V (k:Int)).i=k/\(exE b.st.V (k:Int)).d.length=32/\(exE b.st.V (k:Int)).n<=255/\(exE b.st.V (k:Int)).u<(exE b.st.V (k:Int)).n/\k<l.length):=λq=>by
   obtain⟨e,q1,q2,_,_,_,_,q3⟩:=exC_zero q
   have q4:=entO_some q1
   unfold exE
   rw[q1]
   exact⟨q4.1,q4.2.2.1,q4.2.2.2.1,q3,q2⟩
  obtain⟨ce,hce⟩:∃c,exC b.st.V k l=c:=⟨_,rfl⟩
  obtain⟨en,hen⟩:∃e,exE b.st.V (k:Int)=e:=⟨_,rfl⟩
  rw[hce,hen] at hex HRE HZ
  obtain⟨ei,ed,ea,en',eu,rfl⟩:∃a b c d e,en=⟨a,b,c,d,e⟩:=⟨en.i,en.d,en.a,en.n,en.u,rfl⟩
  have hev:enV ⟨ei,ed,ea,en',eu⟩=.agg (Ms.arr 35 (ecl ei ed ea en')):=rfl
  rw[hev] at hex
  have HEX:=Hh hex
  have hst9:=λ(W:World)=>st34 (nE_row W) ei ed ea en'
  have HVT:=Hh (hv.below HB0.out)
  obtain⟨va0,vc0,rfl,hva1,hva2⟩:=hv.shape
  have HS:=Hh hs
  have HVO:=Hh hvO
  simp only at HRE HZ
  clear hcd hce hen hex hev hid hii hkt hc hv hs hvO hrt
  go_enter Tryz.func17,Tryz.ntmps17
  go_wp2_with fail
  rw[HE.out]
  have hM0:M<(w.alloc (.cells #[.int .i64 0,.int .i64 0] 40)).heap.size:=HW0.out.M_lt
  generalize w.alloc (.cells #[.int .i64 0,.int .i64 0] 40)=W0 at *
  refine HEX.out.mono ?_
  rintro e w1 ⟨rfl,b1⟩
  have HB2:Hid (Below W0.heap.size W0 (w1.alloc (.cells (Ms.arr 35 (ecl ei ed ea en')) 34))):=b1.alloc b1.size _
  have HR9:Hid (Row (w1.alloc (.cells (Ms.arr 35 (ecl ei ed ea en')) 34)) w1.heap.size 34 35 (ecl ei ed ea en')):=Row.ofList w1 _ _ _ 35 rfl
  clear b1 HEX
  go_upto_if 34 with fail
  clear hst9
  generalize w1.heap.size=E9 at *
  generalize w1.alloc (.cells (Ms.arr 35 (ecl ei ed ea en')) 34)=W2 at *
  have HBw:Hid (Below w.heap.size w W2):=HB0.out.trans (HB2.out.mono HB0.out.size)
  have HW2:=Hh (HWW.out.below HBw.out)
  have HR2:=Hh (HR0.out.ch (Ch.of_below HB2.out (λ_=>False)) id)
  have HV2:=Hh (HVT.out.below HB2.out)
  have HRT2:=Hh (HRT.out.below HB2.out)
  have c22:W2.cell? ⟨M,2,none⟩=some (.slice (some ⟨g,o,none⟩) (cr.length+1) c):=(HB2.out.cell (p:=⟨M,2,none⟩) hM0).trans c2
  clear hM0 c2 HB2 HR0 HVT HRT HW0
  by_cases hc0:ce=0
  ·subst hc0
   obtain⟨hi1,hd32,hn255,hun,hkl⟩:=HZ.out rfl
   subst hi1
   obtain⟨er,f1,s1,hsp⟩:∃er f s,setB b (nmE k) (entS ed ea en' (eu+1))=(er,{ b with fl:=f,st:=s }):=⟨_,_,_,rfl⟩
   have hld:=ld34 HR9.out
   have hwu:IntKind.i64.wrap ((eu:Int)+1)=((eu+1:Nat):Int):=by rw[IntWalk.i64_in _ ⟨by omega,by omega⟩];rfl
   have HPT:=Hh (bput_any HW2.out hb hn k (by omega) hd32 ea en' (eu+1) hn255 (by omega))
   unfold entA at HPT
   rw[hsp] at HPT
   have HR5:Hid (r=if er≠0 then ((0,0),er,{ b with fl:=f1,st:=s1 }) else (((k:Int),0),0,{ b with fl:=f1,st:=s1,cand:=[],log:=b.log++[((k:Int),0)],last:=(k:Int),es:=b.es++[⟨4,Ms.sumD (l.getD k ⟨#[]⟩).data.toList,bootT⟩] })):=by
    show _=_
    rw[<-HRE.out,if_pos rfl,hsp]
   clear HRE HZ hsp hd32 hn255 HRT2 c22
   go_wp2_with fail
   refine HPT.out.mono ?_
   rintro e w3 ⟨rfl,hl⟩
   obtain⟨O1,q0,q2,q3⟩:=hl
   have HQ0:=Hh q0
   have HQ2:=Hh q2
   have HQ3:=Hh q3
   have hEW2:E<W2.heap.size:=HR2.out.lt
   have HR3:=Hh (HR2.out.ch q3 HnE.out)
   have HV3:=Hh (HV2.out.ch q3 HVO.out)
   have HnE1:Hid (¬O1 E):=λq=>(q0 E q).elim HnE.out (λq=>by omega)
   clear q0 q2 q3 HPT hld
   by_cases he0:er=0
   ·subst he0
    obtain⟨gi,oi,ci,e,_,_,hgi,hci⟩:=HV3.out.cellAt hkl
    injection e with e1 _ e3
    subst e1 e3
    have hgw:gi<W2.heap.size:=by obtain⟨_,_,e,_,_,h3,_⟩:=HV2.out;exact h3 gi rfl
    have HnG:Hid (¬O1 gi):=λq=>(HQ0.out gi q).elim (HVO.out gi rfl) (λq=>by omega)
    have hgd:l.getD k ⟨#[]⟩=l[k]:=by rw[List.getD_eq_getElem?_getD,List.getElem?_eq_getElem hkl];rfl
    have HSZ:=Hh (HS.out _ (List.getElem_mem hkl))
    have e0:=HR5.out
    rw[if_neg (by simp),hgd] at e0
    subst e0
    clear HR5 hgd
    generalize l[k]=img at *
    have HMS:Hid (Calls Tryz.prog 60 #[fptr L,.int .i64 4,.string ⟨#[98,111,111,116]⟩,.string img] w3.drew λe w'=>e=.returned (.int .i64 0)/\MLeft w3.drew w' N O1 M S L (n+1) { b with fl:=f1,st:=s1,es:=b.es++[⟨4,Ms.sumD img.data.toList,bootT⟩] }):=HQ2.out.drew.measure 4 bootT img (by omega) (by decide) hes HSZ.out
    have S1:Hid (w3.drew.cell? ⟨M,1,none⟩=some (fptr L)/\w3.drew.cell? ⟨gi,oi+k,none⟩=some (.string img)):=⟨HQ2.out.c1,hci⟩
    clear hci
    go_wp2_with fail
    refine wp_region_pl (λ Y=>Y.cell? ⟨M,1,none⟩=some (fptr L)/\Y.cell? ⟨gi,oi+k,none⟩=some (.string img)) ((0,0)::(1,0)::(2,0)::(3,0)::(4,0)::(5,0)::(6,0)::(7,0)::(8,1)::[]) (by kernel_rfl) (by kernel_rfl) ?_
    iterate 8 (apply wpP_go;rfl;rfl;exact S1.out;(rintro Y ⟨s0,s2⟩;go_simp;exact rfl);intro K hK;go_simp;refine hK _ ?_;clear hK K)
    apply wpP_one
    rfl
    intro K hK
    go_simp
    refine HMS.out.mono ?_
    rintro e w4 ⟨rfl,hl⟩
    obtain⟨O2,p0,p2,p3⟩:=hl
    have S3:Hid (w4.cell? ⟨M,1,none⟩=some (fptr L)/\w4.cell? ⟨gi,oi+k,none⟩=some (.string img)):=⟨p2.c1,(p3.cell ⟨gi,oi+k,none⟩ hgi HnG.out).trans S1.out.2⟩
    refine hK _ _ S3.out ?_
    clear hK K
    refine wpP_done ?_
    have f4:=p2.frz 4
    have c4:=p2.c4
    have hP1:=p2.setLast (k:Int)
    have f2:=hP1.frz 2
    obtain⟨vc2,c2,_⟩:=hP1.c2
    have HWt:=Hh (hP1.setCand (u:=.slice none 0 0) (l':=[]) (RdI.nil _) (λ_ _ _ h=>(by cases h)))
    have hOM:O M:=HWW.out.OM
    have HRt:Hid (Row ((w4.setCell ⟨M,4,none⟩ (.int .i64 (k:Int))).setCell ⟨M,2,none⟩ (.slice none 0 0)) E 40 2 (stp 0 0)):=(((show Row w3.drew _ _ _ _ from HR3.out).ch p3 HnE1.out).far (λq=>HnE.out (by rw[q];exact hOM)) _).far (λq=>HnE.out (by rw[q];exact hOM)) _
    have HCt:Hid (Ch O w ((w4.setCell ⟨M,4,none⟩ (.int .i64 (k:Int))).setCell ⟨M,2,none⟩ (.slice none 0 0))):=((((Ch.of_below HBw.out O).trans HQ3.out).drew.andThen p3 (λi hi hl=>(HQ0.out i hi).elim id (λq=>by have:=HBw.out.size;omega))).setCell (p:=⟨M,4,none⟩) (λ_=>hOM) _).setCell (p:=⟨M,2,none⟩) (λ_=>hOM) _
    have HOt:Hid (∀q,O2 q->O q\/w.heap.size<=q):=λq hq=>by
     rcases p0 q hq with h|h
     ·exact(HQ0.out q h).imp id (λq=>Nat.le_trans HBw.out.size q)
     ·right
      have h1:=HBw.out.size
      have h2:=HQ3.out.size
      have h:w3.heap.size<=q:=h
      omega
    have HnT:Hid (¬O2 E):=λq=>(p0 E q).elim HnE1.out (λq=>by
     have h2:=HQ3.out.size
     have q:w3.heap.size<=E:=q
     omega)
    clear S1 S3 HMS p0 p2 p3 hP1 HnG HQ0 HQ2 HQ3 HV3 HV2 HR3 HSZ
    go_upto_region 13 with fail
    clear f4 c4 f2 c2 HW2 HR2 HBw
    generalize (w4.setCell ⟨M,4,none⟩ (.int .i64 (k:Int))).setCell ⟨M,2,none⟩ (.slice none 0 0)=Wt at *
    have hEW:E<Wt.heap.size:=HRt.out.lt
    have HB11:Hid (Below Wt.heap.size Wt (Wt.alloc (.cells #[.int .i64 (k:Int),.int .i64 0] 40))):=(Below.refl _ _).alloc (Nat.le_refl _) _
    have HW11:=Hh (HWt.out.below HB11.out)
    have HR11:Hid (Row (Wt.alloc (.cells #[.int .i64 (k:Int),.int .i64 0] 40)) Wt.heap.size 40 2 (stp (k:Int) 0)):=Row.ofList Wt _ _ _ 2 rfl
    have HRE11:Hid (Row (Wt.alloc (.cells #[.int .i64 (k:Int),.int .i64 0] 40)) E 40 2 (stp 0 0)):=HRt.out.alloc _
    have HCt11:Hid (Ch O w (Wt.alloc (.cells #[.int .i64 (k:Int),.int .i64 0] 40))):=HCt.out.alloc _
    obtain⟨i0,hi0,hz0,hz1,hz2⟩:=info_parts Tryz.infoSt
    have HTO:Hid (¬O2 Wt.heap.size):=λq=>by have:=(HWt.out.oN _ q).2;omega
    have hET:E≠Wt.heap.size:=by omega
    have HTE:Hid (w.heap.size<=Wt.heap.size):=HCt.out.size
    clear HRt HWt HB11 HCt
    go_wp2_with fail
    generalize Wt.heap.size=T at *
    generalize (Wt.alloc (.cells #[.int .i64 (k:Int),.int .i64 0] 40))=W1 at *
    obtain⟨vl,c3,hvl,hvlO⟩:∃vl,W1.cell? ⟨M,3,none⟩=some vl/\W1.ownsRow N 40 2 vl b.log.length (stv b.log)/\∀k,vl.ownBlock=some k->O2 k/\k≠M:=HW11.out.c3
    obtain⟨va,vcap,rfl⟩:=Ms.own_len hvl
    obtain⟨ll,hll⟩:∃n,b.log.length=n:=⟨_,rfl⟩
    have HLL:=Hh hll
    have hll2:ll<=1000:=by rw[<-hll];exact hlg
    have HVL:=Hh hvl
    rw[hll] at c3 hvlO HVL
    have HVLO:=Hh hvlO
    have f3:=HW11.out.frz 3
    clear hvl hvlO hll
    have S1:Hid (W1.drew.cell? ⟨M,3,none⟩=some (.slice va ll vcap)/\W1.drew.cell? ⟨T,0,none⟩=some (.int .i64 (k:Int))/\W1.drew.cell? ⟨T,1,none⟩=some (.int .i64 0)):=⟨c3,HR11.out.cell (i:=0) (by omega),HR11.out.cell (i:=1) (by omega)⟩
    refine wp_region_pl (λ Y=>Y.cell? ⟨M,3,none⟩=some (.slice va ll vcap)/\Y.cell? ⟨T,0,none⟩=some (.int .i64 (k:Int))/\Y.cell? ⟨T,1,none⟩=some (.int .i64 0)) ((0,0)::(1,0)::(2,0)::(3,0)::(4,0)::(5,0)::(6,1)::(7,1)::(8,1)::(9,1)::(10,2)::[]) (by kernel_rfl) (by kernel_rfl) ?_
    iterate 6 (apply wpP_go;rfl;rfl;exact S1.out;(rintro Y ⟨s0,s1,s2⟩;go_simp;exact rfl);intro K hK;go_simp;refine hK _ ?_;clear hK K)
    have HNl:Hid (N<=w.heap.size):=HWW.out.N_le
    have HOO:Hid (∀k,O2 k->k<W1.heap.size):=λq hq=>(HW11.out.oN q hq).2
    have HMlt:Hid (M<W1.heap.size):=HW11.out.M_lt
    have HTlt:Hid (T<W1.heap.size):=HR11.out.lt
    have S2:Hid ((W1.alloc (.cells #[.int .i64 (k:Int),.int .i64 0] 40)).drew.cell? ⟨M,3,none⟩=some (.slice va ll vcap)/\(W1.alloc (.cells #[.int .i64 (k:Int),.int .i64 0] 40)).drew.cell? ⟨T,0,none⟩=some (.int .i64 (k:Int))/\(W1.alloc (.cells #[.int .i64 (k:Int),.int .i64 0] 40)).drew.cell? ⟨T,1,none⟩=some (.int .i64 0)):=by
     have q:Ch (λ_=>False) W1 (W1.alloc (.cells #[.int .i64 (k:Int),.int .i64 0] 40)).drew:=((Ch.refl _ _).alloc _).drew
     exact⟨(q.cell ⟨M,3,none⟩ HMlt.out id).trans S1.out.1,(q.cell ⟨T,0,none⟩ HTlt.out id).trans S1.out.2.1,(q.cell ⟨T,1,none⟩ HTlt.out id).trans S1.out.2.2⟩
    have HB12:Hid (Below W1.heap.size W1 (W1.alloc (.cells #[.int .i64 (k:Int),.int .i64 0] 40)).drew):=((Below.refl _ _).alloc (Nat.le_refl _) _).drew
    have HV12:Hid ((W1.alloc (.cells #[.int .i64 (k:Int),.int .i64 0] 40)).drew.ownsRow N 40 2 (.slice va ll vcap) ll (stv b.log)):=ownN_ch HVL.out ((Ch.refl (λ_=>False) W1).alloc _).drew (λ_ _ h=>h)
    have HN12:Hid (∀j u,([.int .i64 (k:Int),.int .i64 0]:List Value)[j]? = some u->(W1.alloc (.cells #[.int .i64 (k:Int),.int .i64 0] 40)).drew.cell? ((⟨W1.heap.size,0,none⟩:Addr).add j)=some u):=World.news_of_block (heap_alloc_new W1 _) |> λh=>h
    have HON:Hid (∀u∈([.int .i64 (k:Int),.int .i64 0]:List Value),u.oneCell'=true):=λu hu=>by
     rcases List.mem_cons.1 hu with rfl|hu
     ·rfl
     ·rw[List.mem_singleton.1 hu];rfl
    apply wpP_one
    rfl
    intro K hK
    go_simp
    refine hK _ _ S2.out ?_
    clear hK K
    apply wpP_one
    rfl
    intro K hK
    refine step_append_lies _ (by rfl) _ _ _ (by rfl) N 40 i0 _ 2 16 Tryz.underlying96 hi0 hz0 hz1 hz2 (by kernel_rfl) (by omega) (.slice va ll vcap) ll (stv b.log) (by rfl) HV12.out
     ⟨W1.heap.size,0,none⟩ 1 1 ([.int .i64 (k:Int),.int .i64 0]:List Value) (by rfl) (by rfl) HN12.out HON.out (by omega) (by simp only[maxLen];omega) (by omega) (by simp;have:=HNl.out;have:=HTE.out;have:=HTlt.out;omega) (W1.heap.size+1) (by simp) ?_
    intro g2 cap2 w5 hown5 hgrow5 hat5 hlt5
    have hc5:Ch (λq=>(Value.slice va ll vcap).ownBlock=some q) W1 w5:=(((Ch.refl (λq=>(Value.slice va ll vcap).ownBlock=some q) W1).alloc (.cells #[.int .i64 (k:Int),.int .i64 0] 40)).drew).trans (Ch.of_grown hgrow5 (λq hq _=>hq))
    have hvT:¬(Value.slice va ll vcap).ownBlock=some T:=λq=>HTO.out (HVLO.out T q).1
    have hvE:¬(Value.slice va ll vcap).ownBlock=some E:=λq=>HnT.out (HVLO.out E q).1
    have hvM:¬(Value.slice va ll vcap).ownBlock=some M:=λq=>(HVLO.out M q).2 rfl
    have S5:Hid (w5.cell? ⟨M,3,none⟩=some (.slice va ll vcap)/\w5.cell? ⟨T,0,none⟩=some (.int .i64 (k:Int))/\w5.cell? ⟨T,1,none⟩=some (.int .i64 0)):=
     ⟨(hc5.cell ⟨M,3,none⟩ HMlt.out hvM).trans S1.out.1,(hc5.cell ⟨T,0,none⟩ HTlt.out hvT).trans S1.out.2.1,(hc5.cell ⟨T,1,none⟩ HTlt.out hvT).trans S1.out.2.2⟩
    have f35:w5.frozen? ⟨M,3,none⟩=false:=(hc5.frozen ⟨M,3,none⟩ HMlt.out hvM).trans f3
    have HW12:=HW11.out.below HB12.out
    have HU:Hid (∀q,(Value.slice (some ⟨g2,0,none⟩) (ll+1) cap2).ownBlock=some q->O2 q\/W1.heap.size<=q):=λq hq=>by
     have e:g2=q:=by simpa[Value.ownBlock] using hq
     rw[<-e]
     rcases hat5 with h|h
     ·exact .inl (HVLO.out g2 h).1
     ·exact .inr (by omega)
    have HP:=Hh (HW12.pushLog (u:=.slice (some ⟨g2,0,none⟩) (ll+1) cap2) (l':=b.log++[((k:Int),0)]) S2.out.1 hgrow5 (by rw[stv_snoc,List.length_append,HLL.out];exact hown5) (λq hq=>by
     have e:g2=q:=by simpa[Value.ownBlock] using hq
     rw[<-e]
     rcases hat5 with h|h
     ·exact .inl h
     ·exact .inr (by rw[h];simp)))
    have HR6:Hid (Row (w5.setCell ⟨M,3,none⟩ (.slice (some ⟨g2,0,none⟩) (ll+1) cap2)) E 40 2 (stp 0 0)):=(HRE11.out.ch hc5 hvE).far (λq=>HnE.out (by rw[q];exact HWW.out.OM)) _
    have HT6:Hid (Row (w5.setCell ⟨M,3,none⟩ (.slice (some ⟨g2,0,none⟩) (ll+1) cap2)) T 40 2 (stp (k:Int) 0)):=(HR11.out.ch hc5 hvT).far (λq=>by
     have h1:=HTE.out
     have h2:=(HWW.out.oN M HWW.out.OM).2
     have h3:T=M:=q
     omega) _
    have HC6:Hid (Ch O w (w5.setCell ⟨M,3,none⟩ (.slice (some ⟨g2,0,none⟩) (ll+1) cap2))):=(HCt11.out.andThen hc5 (λi hi hl=>(HOt.out i (HVLO.out i hi).1).elim id (λq=>by omega))).setCell (p:=⟨M,3,none⟩) (λ_=>HWW.out.OM) _
    go_simp
    refine hK _ _ S5.out ?_
    clear hK K
    iterate 2 (apply wpP_one;rfl;intro K hK;go_simp;refine hK _ _ S5.out ?_;clear hK K)
    have c35:=S5.out.1
    apply wpP_two
    rfl
    intro K hK
    go_simp
    refine hK _ _ ?_
    clear hK K
    refine wpP_done ?_
    clear S1 S2 S5 f35 f3 c35 c3 HW12 HB12 HV12 HN12 HON hown5 hgrow5 hat5 hlt5 hc5 hvT hvE hvM HRE11 HR11 HCt11 HW11 HVL HVLO
    generalize w5.setCell ⟨M,3,none⟩ (.slice (some ⟨g2,0,none⟩) (ll+1) cap2)=W6 at *
    have t0:W6.cell? ⟨T,0,none⟩=some (.int .i64 (k:Int)):=HT6.out.cell (i:=0) (by omega)
    have t1:W6.cell? ⟨T,1,none⟩=some (.int .i64 0):=HT6.out.cell (i:=1) (by omega)
    have z0:W6.cell? ⟨E,0,none⟩=some (.int .i64 0):=HR6.out.cell (i:=0) (by omega)
    have z1:W6.cell? ⟨E,1,none⟩=some (.int .i64 0):=HR6.out.cell (i:=1) (by omega)
    have fz0:=HR6.out.frozen 0
    have fz1:=HR6.out.frozen 1
    have HRF:=Hh (((HR6.out.set (i:=0) (by omega) (.int .i64 (k:Int))).set (i:=1) (by omega) (.int .i64 0)).congr (v':=stp (k:Int) 0) (λj hj=>by
     rcases(by omega:j=0\/j=1) with e|e<;>subst e<;>rfl))
    have HCF:Hid (Ch O w ((W6.setCell ⟨E,0,none⟩ (.int .i64 (k:Int))).setCell ⟨E,1,none⟩ (.int .i64 0))):=(HC6.out.setCell (p:=⟨E,0,none⟩) (λq=>by have h1:E<w.heap.size:=q;have:=HE.out;omega) _).setCell (p:=⟨E,1,none⟩) (λq=>by have h1:E<w.heap.size:=q;have:=HE.out;omega) _
    have HPF:=Hh (HP.out.ch (((Ch.refl (λq=>q=E) W6).setCell (p:=⟨E,0,none⟩) (λ_=>rfl) (.int .i64 (k:Int))).setCell (p:=⟨E,1,none⟩) (λ_=>rfl) (.int .i64 0)) (λq hq=>by
     subst hq
     refine⟨λh=>?_,by have:=HWW.out.pos;have:=HE.out;omega⟩
     rcases h with h|h
     ·exact HnT.out h
     ·rcases HU.out _ h with h|h
      ·exact HnT.out h
      ·have:=HE.out;have:=HTE.out;have:=HTlt.out;omega))
    have HOF:Hid (∀q,(O2 q\/(Value.slice (some ⟨g2,0,none⟩) (ll+1) cap2).ownBlock=some q)->O q\/w.heap.size<=q):=λq hq=>by
     rcases hq with h|h
     ·exact HOt.out q h
     ·rcases HU.out q h with h|h
      ·exact HOt.out q h
      ·right
       have:=HTE.out;have:=HTlt.out;omega
    go_wp2_with fail
    exact bodyPost_ret (v:=.tuple #[.agg #[.int .i64 (k:Int),.int .i64 0],.int .i64 0]) (res2 rfl _ _ E #[.int .i64 (k:Int),.int .i64 0] _ rfl rfl (ret40 HRF.out)) rfl ⟨rfl,_,HOF.out,HPF.out,HCF.out⟩
   ·have heb:(er != 0)=true:=by rw[bne_iff_ne];exact he0
    have e0:=HR5.out
    rw[if_pos he0] at e0
    subst e0
    have z0:w3.cell? ⟨E,0,none⟩=some (.int .i64 0):=HR3.out.cell (i:=0) (by omega)
    have z1:w3.cell? ⟨E,1,none⟩=some (.int .i64 0):=HR3.out.cell (i:=1) (by omega)
    have fz0:=HR3.out.frozen 0
    have fz1:=HR3.out.frozen 1
    have HRF:=Hh (((HR3.out.set (i:=0) (by omega) (.int .i64 0)).set (i:=1) (by omega) (.int .i64 0)).congr (v':=stp 0 0) (λj hj=>by
     rcases(by omega:j=0\/j=1) with e|e<;>subst e<;>rfl))
    have HCF:Hid (Ch O w ((w3.setCell ⟨E,0,none⟩ (.int .i64 0)).setCell ⟨E,1,none⟩ (.int .i64 0))):=(((Ch.of_below HBw.out O).trans HQ3.out).setCell (p:=⟨E,0,none⟩) (λq=>by have h1:E<w.heap.size:=q;have:=HE.out;omega) _).setCell (p:=⟨E,1,none⟩) (λq=>by have h1:E<w.heap.size:=q;have:=HE.out;omega) _
    have HPF:=Hh (HQ2.out.ch (((Ch.refl (λq=>q=E) w3).setCell (p:=⟨E,0,none⟩) (λ_=>rfl) (.int .i64 0)).setCell (p:=⟨E,1,none⟩) (λ_=>rfl) (.int .i64 0)) (λq hq=>by
     subst hq
     exact⟨HnE1.out,by have:=HWW.out.pos;have:=HE.out;omega⟩))
    have HOF:Hid (∀q,O1 q->O q\/w.heap.size<=q):=λq hq=>(HQ0.out q hq).imp id (λq=>Nat.le_trans HBw.out.size q)
    clear HR5
    go_wp2_with fail
    exact bodyPost_ret (v:=.tuple #[.agg #[.int .i64 0,.int .i64 0],.int .i64 er]) (res2 rfl _ _ E #[.int .i64 0,.int .i64 0] _ rfl rfl (ret40 HRF.out)) rfl ⟨rfl,_,HOF.out,HPF.out,HCF.out⟩
  ·have hcb:(ce==0)=false:=by simpa using hc0
   have e0:r=(((k:Int),ce),0,{ b with cand:=cr,log:=b.log++[((k:Int),ce)] }):=by rw[<-HRE.out,if_neg hc0]
   subst e0
   have f2:=HW2.out.frz 2
   obtain⟨o2,d2,hA,hB,hR⟩:∃o2 d2,(c=1->o2=o/\d2=0)/\(c≠1->o2=o+1/\d2=c-1)/\RdI W2 (.slice (some ⟨g,o2,none⟩) cr.length d2) cr:=by
    by_cases h:c=1
    ·have hcr:cr=[]:=List.eq_nil_of_length_eq_zero (by omega)
     subst hcr
     refine⟨o,0,λ_=>⟨rfl,rfl⟩,λq=>absurd h q,_,_,rfl,Nat.le_refl _,by unfold maxLen;omega,λq hq=>?_,λq=>absurd rfl q⟩
     obtain⟨_,_,_,_,_,h3,_⟩:=HRT2.out
     exact h3 q hq
    ·exact⟨o+1,c-1,λq=>absurd q h,λ_=>⟨rfl,rfl⟩,HRT2.out⟩
   have hnt:=HW2.out.setCand (u:=.slice (some ⟨g,o2,none⟩) cr.length d2) hR (λvc hvc g' hg'=>by
    rw[c22] at hvc
    injection hvc with hvc
    rw[<-hvc]
    exact hg')
   have HWt:=Hh (hnt.mono (Nat.le_succ n))
   have HRt:Hid (Row (W2.setCell ⟨M,2,none⟩ (.slice (some ⟨g,o2,none⟩) cr.length d2)) E 40 2 (stp 0 0)):=HR2.out.far (by
    intro q
    exact HnE.out (by rw[q];exact HWW.out.OM)) _
   have HCt:Hid (Ch O w (W2.setCell ⟨M,2,none⟩ (.slice (some ⟨g,o2,none⟩) cr.length d2))):=(Ch.of_below HBw.out O).setCell (p:=⟨M,2,none⟩) (λ_=>HWW.out.OM) _
   have HOt:Hid (∀q,O q->O q\/w.heap.size<=q):=λq hq=>.inl hq
   have HnT:=HnE
   clear hnt HRE HZ HRT2 HV2 hR
   by_cases h:c=1
   focus
    obtain⟨rfl,rfl⟩:=hA h
    subst h
    have hcr:cr=[]:=List.eq_nil_of_length_eq_zero (by omega)
    subst hcr
    clear hA hB
    go_upto_region 13 with fail
    clear f2 c22 HW2 HR2 HBw
    generalize W2.setCell ⟨M,2,none⟩ (.slice (some ⟨g,o2,none⟩) 0 0)=Wt at *
   rotate_left
   focus
    obtain⟨rfl,rfl⟩:=hB h
    have h':¬c-1=0:=by omega
    clear hA hB
    go_upto_region 13 with fail
    clear f2 c22 HW2 HR2 HBw
    generalize W2.setCell ⟨M,2,none⟩ (.slice (some ⟨g,o+1,none⟩) cr.length (c-1))=Wt at *
   all_goals
    have hEW:E<Wt.heap.size:=HRt.out.lt
    have HB11:Hid (Below Wt.heap.size Wt (Wt.alloc (.cells #[.int .i64 (k:Int),.int .i64 ce] 40))):=(Below.refl _ _).alloc (Nat.le_refl _) _
    have HW11:=Hh (HWt.out.below HB11.out)
    have HR11:Hid (Row (Wt.alloc (.cells #[.int .i64 (k:Int),.int .i64 ce] 40)) Wt.heap.size 40 2 (stp (k:Int) ce)):=Row.ofList Wt _ _ _ 2 rfl
    have HRE11:Hid (Row (Wt.alloc (.cells #[.int .i64 (k:Int),.int .i64 ce] 40)) E 40 2 (stp 0 0)):=HRt.out.alloc _
    have HCt11:Hid (Ch O w (Wt.alloc (.cells #[.int .i64 (k:Int),.int .i64 ce] 40))):=HCt.out.alloc _
    obtain⟨i0,hi0,hz0,hz1,hz2⟩:=info_parts Tryz.infoSt
    have HTO:Hid (¬O Wt.heap.size):=λq=>by have:=(HWt.out.oN _ q).2;omega
    have hET:E≠Wt.heap.size:=by omega
    have HTE:Hid (w.heap.size<=Wt.heap.size):=HCt.out.size
    clear HRt HWt HB11 HCt
    go_wp2_with fail
    generalize Wt.heap.size=T at *
    generalize (Wt.alloc (.cells #[.int .i64 (k:Int),.int .i64 ce] 40))=W1 at *
    obtain⟨vl,c3,hvl,hvlO⟩:∃vl,W1.cell? ⟨M,3,none⟩=some vl/\W1.ownsRow N 40 2 vl b.log.length (stv b.log)/\∀k,vl.ownBlock=some k->O k/\k≠M:=HW11.out.c3
    obtain⟨va,vcap,rfl⟩:=Ms.own_len hvl
    obtain⟨ll,hll⟩:∃n,b.log.length=n:=⟨_,rfl⟩
    have HLL:=Hh hll
    have hll2:ll<=1000:=by rw[<-hll];exact hlg
    have HVL:=Hh hvl
    rw[hll] at c3 hvlO HVL
    have HVLO:=Hh hvlO
    have f3:=HW11.out.frz 3
    clear hvl hvlO hll
    have S1:Hid (W1.drew.cell? ⟨M,3,none⟩=some (.slice va ll vcap)/\W1.drew.cell? ⟨T,0,none⟩=some (.int .i64 (k:Int))/\W1.drew.cell? ⟨T,1,none⟩=some (.int .i64 ce)):=⟨c3,HR11.out.cell (i:=0) (by omega),HR11.out.cell (i:=1) (by omega)⟩
    refine wp_region_pl (λ Y=>Y.cell? ⟨M,3,none⟩=some (.slice va ll vcap)/\Y.cell? ⟨T,0,none⟩=some (.int .i64 (k:Int))/\Y.cell? ⟨T,1,none⟩=some (.int .i64 ce)) ((0,0)::(1,0)::(2,0)::(3,0)::(4,0)::(5,0)::(6,1)::(7,1)::(8,1)::(9,1)::(10,2)::[]) (by kernel_rfl) (by kernel_rfl) ?_
    iterate 6 (apply wpP_go;rfl;rfl;exact S1.out;(rintro Y ⟨s0,s1,s2⟩;go_simp;exact rfl);intro K hK;go_simp;refine hK _ ?_;clear hK K)
    have HNl:Hid (N<=w.heap.size):=HWW.out.N_le
    have HOO:Hid (∀k,O k->k<W1.heap.size):=λq hq=>(HW11.out.oN q hq).2
    have HMlt:Hid (M<W1.heap.size):=HW11.out.M_lt
    have HTlt:Hid (T<W1.heap.size):=HR11.out.lt
    have S2:Hid ((W1.alloc (.cells #[.int .i64 (k:Int),.int .i64 ce] 40)).drew.cell? ⟨M,3,none⟩=some (.slice va ll vcap)/\(W1.alloc (.cells #[.int .i64 (k:Int),.int .i64 ce] 40)).drew.cell? ⟨T,0,none⟩=some (.int .i64 (k:Int))/\(W1.alloc (.cells #[.int .i64 (k:Int),.int .i64 ce] 40)).drew.cell? ⟨T,1,none⟩=some (.int .i64 ce)):=by
     have q:Ch (λ_=>False) W1 (W1.alloc (.cells #[.int .i64 (k:Int),.int .i64 ce] 40)).drew:=((Ch.refl _ _).alloc _).drew
     exact⟨(q.cell ⟨M,3,none⟩ HMlt.out id).trans S1.out.1,(q.cell ⟨T,0,none⟩ HTlt.out id).trans S1.out.2.1,(q.cell ⟨T,1,none⟩ HTlt.out id).trans S1.out.2.2⟩
    have HB12:Hid (Below W1.heap.size W1 (W1.alloc (.cells #[.int .i64 (k:Int),.int .i64 ce] 40)).drew):=((Below.refl _ _).alloc (Nat.le_refl _) _).drew
    have HV12:Hid ((W1.alloc (.cells #[.int .i64 (k:Int),.int .i64 ce] 40)).drew.ownsRow N 40 2 (.slice va ll vcap) ll (stv b.log)):=ownN_ch HVL.out ((Ch.refl (λ_=>False) W1).alloc _).drew (λ_ _ h=>h)
    have HN12:Hid (∀j u,([.int .i64 (k:Int),.int .i64 ce]:List Value)[j]? = some u->(W1.alloc (.cells #[.int .i64 (k:Int),.int .i64 ce] 40)).drew.cell? ((⟨W1.heap.size,0,none⟩:Addr).add j)=some u):=World.news_of_block (heap_alloc_new W1 _) |> λh=>h
    have HON:Hid (∀u∈([.int .i64 (k:Int),.int .i64 ce]:List Value),u.oneCell'=true):=λu hu=>by
     rcases List.mem_cons.1 hu with rfl|hu
     ·rfl
     ·rw[List.mem_singleton.1 hu];rfl
    apply wpP_one
    rfl
    intro K hK
    go_simp
    refine hK _ _ S2.out ?_
    clear hK K
    apply wpP_one
    rfl
    intro K hK
    refine step_append_lies _ (by rfl) _ _ _ (by rfl) N 40 i0 _ 2 16 Tryz.underlying96 hi0 hz0 hz1 hz2 (by kernel_rfl) (by omega) (.slice va ll vcap) ll (stv b.log) (by rfl) HV12.out
     ⟨W1.heap.size,0,none⟩ 1 1 ([.int .i64 (k:Int),.int .i64 ce]:List Value) (by rfl) (by rfl) HN12.out HON.out (by omega) (by simp only[maxLen];omega) (by omega) (by simp;have:=HNl.out;have:=HTE.out;have:=HTlt.out;omega) (W1.heap.size+1) (by simp) ?_
    intro g2 cap2 w5 hown5 hgrow5 hat5 hlt5
    have hc5:Ch (λq=>(Value.slice va ll vcap).ownBlock=some q) W1 w5:=(((Ch.refl (λq=>(Value.slice va ll vcap).ownBlock=some q) W1).alloc (.cells #[.int .i64 (k:Int),.int .i64 ce] 40)).drew).trans (Ch.of_grown hgrow5 (λq hq _=>hq))
    have hvT:¬(Value.slice va ll vcap).ownBlock=some T:=λq=>HTO.out (HVLO.out T q).1
    have hvE:¬(Value.slice va ll vcap).ownBlock=some E:=λq=>HnT.out (HVLO.out E q).1
    have hvM:¬(Value.slice va ll vcap).ownBlock=some M:=λq=>(HVLO.out M q).2 rfl
    have S5:Hid (w5.cell? ⟨M,3,none⟩=some (.slice va ll vcap)/\w5.cell? ⟨T,0,none⟩=some (.int .i64 (k:Int))/\w5.cell? ⟨T,1,none⟩=some (.int .i64 ce)):=
     ⟨(hc5.cell ⟨M,3,none⟩ HMlt.out hvM).trans S1.out.1,(hc5.cell ⟨T,0,none⟩ HTlt.out hvT).trans S1.out.2.1,(hc5.cell ⟨T,1,none⟩ HTlt.out hvT).trans S1.out.2.2⟩
    have f35:w5.frozen? ⟨M,3,none⟩=false:=(hc5.frozen ⟨M,3,none⟩ HMlt.out hvM).trans f3
    have HW12:=HW11.out.below HB12.out
    have HU:Hid (∀q,(Value.slice (some ⟨g2,0,none⟩) (ll+1) cap2).ownBlock=some q->O q\/W1.heap.size<=q):=λq hq=>by
     have e:g2=q:=by simpa[Value.ownBlock] using hq
     rw[<-e]
     rcases hat5 with h|h
     ·exact .inl (HVLO.out g2 h).1
     ·exact .inr (by omega)
    have HP:=Hh (HW12.pushLog (u:=.slice (some ⟨g2,0,none⟩) (ll+1) cap2) (l':=b.log++[((k:Int),ce)]) S2.out.1 hgrow5 (by rw[stv_snoc,List.length_append,HLL.out];exact hown5) (λq hq=>by
     have e:g2=q:=by simpa[Value.ownBlock] using hq
     rw[<-e]
     rcases hat5 with h|h
     ·exact .inl h
     ·exact .inr (by rw[h];simp)))
    have HR6:Hid (Row (w5.setCell ⟨M,3,none⟩ (.slice (some ⟨g2,0,none⟩) (ll+1) cap2)) E 40 2 (stp 0 0)):=(HRE11.out.ch hc5 hvE).far (λq=>HnE.out (by rw[q];exact HWW.out.OM)) _
    have HT6:Hid (Row (w5.setCell ⟨M,3,none⟩ (.slice (some ⟨g2,0,none⟩) (ll+1) cap2)) T 40 2 (stp (k:Int) ce)):=(HR11.out.ch hc5 hvT).far (λq=>by
     have h1:=HTE.out
     have h2:=(HWW.out.oN M HWW.out.OM).2
     have h3:T=M:=q
     omega) _
    have HC6:Hid (Ch O w (w5.setCell ⟨M,3,none⟩ (.slice (some ⟨g2,0,none⟩) (ll+1) cap2))):=(HCt11.out.andThen hc5 (λi hi hl=>(HOt.out i (HVLO.out i hi).1).elim id (λq=>by omega))).setCell (p:=⟨M,3,none⟩) (λ_=>HWW.out.OM) _
    go_simp
    refine hK _ _ S5.out ?_
    clear hK K
    iterate 2 (apply wpP_one;rfl;intro K hK;go_simp;refine hK _ _ S5.out ?_;clear hK K)
    have c35:=S5.out.1
    apply wpP_two
    rfl
    intro K hK
    go_simp
    refine hK _ _ ?_
    clear hK K
    refine wpP_done ?_
    clear S1 S2 S5 f35 f3 c35 c3 HW12 HB12 HV12 HN12 HON hown5 hgrow5 hat5 hlt5 hc5 hvT hvE hvM HRE11 HR11 HCt11 HW11 HVL HVLO
    generalize w5.setCell ⟨M,3,none⟩ (.slice (some ⟨g2,0,none⟩) (ll+1) cap2)=W6 at *
    have t0:W6.cell? ⟨T,0,none⟩=some (.int .i64 (k:Int)):=HT6.out.cell (i:=0) (by omega)
    have t1:W6.cell? ⟨T,1,none⟩=some (.int .i64 ce):=HT6.out.cell (i:=1) (by omega)
    have z0:W6.cell? ⟨E,0,none⟩=some (.int .i64 0):=HR6.out.cell (i:=0) (by omega)
    have z1:W6.cell? ⟨E,1,none⟩=some (.int .i64 0):=HR6.out.cell (i:=1) (by omega)
    have fz0:=HR6.out.frozen 0
    have fz1:=HR6.out.frozen 1
    have HRF:=Hh (((HR6.out.set (i:=0) (by omega) (.int .i64 (k:Int))).set (i:=1) (by omega) (.int .i64 ce)).congr (v':=stp (k:Int) ce) (λj hj=>by
     rcases(by omega:j=0\/j=1) with e|e<;>subst e<;>rfl))
    have HCF:Hid (Ch O w ((W6.setCell ⟨E,0,none⟩ (.int .i64 (k:Int))).setCell ⟨E,1,none⟩ (.int .i64 ce))):=(HC6.out.setCell (p:=⟨E,0,none⟩) (λq=>by have h1:E<w.heap.size:=q;have:=HE.out;omega) _).setCell (p:=⟨E,1,none⟩) (λq=>by have h1:E<w.heap.size:=q;have:=HE.out;omega) _
    have HPF:=Hh (HP.out.ch (((Ch.refl (λq=>q=E) W6).setCell (p:=⟨E,0,none⟩) (λ_=>rfl) (.int .i64 (k:Int))).setCell (p:=⟨E,1,none⟩) (λ_=>rfl) (.int .i64 ce)) (λq hq=>by
     subst hq
     refine⟨λh=>?_,by have:=HWW.out.pos;have:=HE.out;omega⟩
     rcases h with h|h
     ·exact HnT.out h
     ·rcases HU.out _ h with h|h
      ·exact HnT.out h
      ·have:=HE.out;have:=HTE.out;have:=HTlt.out;omega))
    have HOF:Hid (∀q,(O q\/(Value.slice (some ⟨g2,0,none⟩) (ll+1) cap2).ownBlock=some q)->O q\/w.heap.size<=q):=λq hq=>by
     rcases hq with h|h
     ·exact HOt.out q h
     ·rcases HU.out q h with h|h
      ·exact HOt.out q h
      ·right
       have:=HTE.out;have:=HTlt.out;omega
    go_wp2_with fail
    exact bodyPost_ret (v:=.tuple #[.agg #[.int .i64 (k:Int),.int .i64 ce],.int .i64 0]) (res2 rfl _ _ E #[.int .i64 (k:Int),.int .i64 ce] _ rfl rfl (ret40 HRF.out)) rfl ⟨rfl,_,HOF.out,HPF.out,HCF.out⟩
end
end
section
attribute [local go_sem ↓] alloc34 load34 store34 build34 build34o
def bl4V (x y z u:Value):Option (Array Value):=match x,y,z,u with
 | .int .i64 i,.agg cs,.bool a,.int .i64 n=>if cs.size=32 then some (Value.int .i64 i::(cs.toList++[.bool a,.int .i64 n])).toArray else none
 | _,_,_,_=>none
theorem build34b (i n:Int)(a:Bool)(f:Nat->Value)(w:World):Sem.run Tryz.prog (Instr.build 34 #[(0,.int .i64 i),(1,.agg (Ms.arr 32 f)),(2,.bool a),(3,.int .i64 n)]) w=.ok (.agg (Value.int .i64 i::((Ms.arr 32 f).toList++[.bool a,.int .i64 n])).toArray) w:=by kernel_rfl
theorem build34d (ρ:Operand->Value)(d:Option Tmp)(x y z u:Operand)(ty:TypeId)(p:String)(af:Array Edge)(g:Option (Nat×Bool))(w:World) :
  Sem.run Tryz.prog (execOp ρ { dst:=d,op:=.build 34 #[(0,x),(1,y),(2,z),(3,u)],type:=ty,pos:=p,after:=af,guard:=g }) w =
   match bl4V (ρ x) (ρ y) (ρ z) (ρ u) with
   | some cs=>.ok (.value (.agg cs)) w
   | none=>Sem.run Tryz.prog (Instr.build 34 #[(0,ρ x),(1,ρ y),(2,ρ z),(3,ρ u)] >>= λv=>pure (Next.value v)) w:=by
 have e:execOp ρ { dst:=d,op:=.build 34 #[(0,x),(1,y),(2,z),(3,u)],type:=ty,pos:=p,after:=af,guard:=g }=Instr.build 34 #[(0,ρ x),(1,ρ y),(2,ρ z),(3,ρ u)] >>= λv=>pure (Next.value v):=by simp[execOp]
 rw[e]
 clear e
 generalize ρ x=X,ρ y=Y,ρ z=Z,ρ u=U
 unfold bl4V
 split
 ·next cs h=>
  split at h
  ·split at h
   ·next hs=>
    injection h with h
    subst h
    rw[Ms.arr_of hs,Sem.run_bind,build34b]
    rfl
   ·cases h
  ·cases h
 ·rfl
theorem ecl_list (i:Int)(d:Str)(a:Bool)(n:Int):(Value.int .i64 i::((Ms.arr 32 (Ms.b8 (dgF d))).toList++[.bool a,.int .i64 n])).toArray=Ms.arr 35 (ecl i d a n):=by
 unfold Ms.arr
 congr 1
theorem cs32 (f:Nat->Value):(Ms.arr 32 f).size=32:=Ms.arr_size _ _
theorem fieldsSt:(Tryz.prog.fieldsOf 40).toList.map (λf=>(f.type,f.offset))=[(3,0),(28,1)]:=by kernel_rfl
theorem namesSt : ((Tryz.prog.fieldsOf 40).toList.all fun f => f.name != "_") = true := by kernel_rfl
theorem underSt:Tryz.prog.underlying 40=some (.struct (Tryz.prog.fieldsOf 40)):=by kernel_rfl
theorem partSt (a b:Value)(w:World):Sem.run Tryz.prog (part 3 #[a,b] 0) w=.ok a w/\Sem.run Tryz.prog (part 28 #[a,b] 1) w=.ok b w:=by
 constructor<;>kernel_rfl
theorem equalSt (a b c d:Int)(w:World):Sem.run Tryz.prog (Op.equalIn 10000 40 (.agg #[.int .i64 a,.int .i64 b]) (.agg #[.int .i64 c,.int .i64 d])) w=.ok (a==c&&b==d) w:=by
 rw[run_equalIn_struct w 9999 40 _ _ underSt (by kernel_rfl)]
 have h9:∀x y:Int,Sem.run Tryz.prog (Op.equalIn 9999 3 (.int .i64 x) (.int .i64 y)) w=.ok (x==y) w:=λx y=>run_equalIn_int w 9998 3 .i64 .i64 x y Tryz.underlying3
 have h8:∀x y:Int,Sem.run Tryz.prog (Op.equalIn 9999 28 (.int .i64 x) (.int .i64 y)) w=.ok (x==y) w:=λx y=>run_equalIn_int w 9998 28 .i64 .i64 x y Tryz.underlying28
 have hf:=fieldsSt
 have hn:=namesSt
 obtain⟨p0,p1⟩:=partSt (.int .i64 a) (.int .i64 b) w
 obtain⟨r0,r1⟩:=partSt (.int .i64 c) (.int .i64 d) w
 generalize (Tryz.prog.fieldsOf 40).toList=fs at hf hn ⊢
 rcases fs with _|⟨f0,_|⟨f1,_|⟨f2,r⟩⟩⟩
 ·simp at hf
 ·simp at hf
 ·simp only[List.map_cons,List.map_nil,List.cons.injEq,Prod.mk.injEq,and_true] at hf
  simp only[List.all_cons,List.all_nil,Bool.and_true,Bool.and_eq_true,bne_iff_ne,ne_eq] at hn
  obtain⟨⟨t0,o0⟩,t1,o1⟩:=hf
  obtain⟨n0,n1⟩:=hn
  cases e1:(a==c)<;>cases e2:(b==d)<;>simp[Op.eqFields,n0,n1,t0,t1,o0,o1,p0,p1,r0,r1,h9,h8,e1,e2]
 ·simp at hf
theorem neSt (a b c d:Int)(w:World):(binOp .neq 40 (.agg #[.int .i64 a,.int .i64 b]) (.agg #[.int .i64 c,.int .i64 d])).run Tryz.prog w=.ok (.bool (!(a==c&&b==d))) w:=by
 rw[run_neq_struct,equalSt];rfl
theorem eqSt (a b c d:Int)(w:World):(binOp .eql 40 (.agg #[.int .i64 a,.int .i64 b]) (.agg #[.int .i64 c,.int .i64 d])).run Tryz.prog w=.ok (.bool (a==c&&b==d)) w:=by
 rw[run_eql_struct,equalSt];rfl
theorem res4 {fn:Func}{t u v x:Tmp}(h:fn.results=#[.tmp t,.tmp u,.tmp v,.tmp x])(tmps:Array Value)(P:Program)(w:World) :
  (results fn tmps).run P w=.ok (.tuple #[tmps.getD t undef,tmps.getD u undef,tmps.getD v undef,tmps.getD x undef]) w:=by
 simp[results,h]
theorem board_any (E:Nat)(hE:E<=1000)(w:World)(hr:Ms.Rnd w)(h0:0<w.heap.size):Calls Tryz.prog 12 #[.int .i64 (E:Int)] w λe w'=>∃X L M S O fl,e=.returned (.tuple #[fptr X,fptr L,fptr M,.bool true])/\BW w' w.heap.size O M S L 32 ⟨fl,st0,[],[],-1,[]⟩/\Cal E 0 fl st0/\Below w.heap.size w w':=by
 obtain⟨f1,q1,q2⟩:=cal_new (B:=3) (P:=24) (m:=E) (by omega) (by omega) (by omega)
 have HQ1:=Hh q1
 have HQ2:=Hh q2
 have HR:=Hh hr
 clear q1 q2 hr
 have HNW:Hid (Calls Tryz.prog 33 #[.agg #[.int .i64 3,.int .i64 24,.int .i64 (E:Int)]] w λe w'=>∃X y,e=.returned (.tuple #[fptr X,.int .i64 0])/\FW w' (λk=>w.heap.size<=k/\k<w'.heap.size) X y (newF 3 24 E)/\Below w.heap.size w w'):=new_any w 3 24 E ⟨by omega,by omega⟩ ⟨by omega,by omega⟩ (by omega)
 go_enter Tryz.func12,Tryz.ntmps12
 go_wp2_with fail
 refine HNW.out.mono ?_
 rintro e w1 ⟨X,y,rfl,hf,b1⟩
 have HB1:=Hh b1
 have HFM:Hid (Calls Tryz.prog 35 #[fptr X] w1 λe w'=>e=.returned (.int .i64 0)/\FW w' (λk=>w.heap.size<=k/\k<w1.heap.size) X y f1/\Ch (λk=>w.heap.size<=k/\k<w1.heap.size) w1 w'):=by
  have:=format_any hf
  rw[HQ1.out] at this
  exact this
 clear hf b1 HNW
 go_wp2_with fail
 refine HFM.out.mono ?_
 rintro e w2 ⟨rfl,hf,c2⟩
 have HOP:=Hh (open_any hf)
 have HF2:=Hh hf
 have hs12:w1.heap.size<=w2.heap.size:=c2.size
 have hs01:w.heap.size<=w1.heap.size:=HB1.out.size
 have HB2:Hid (Below w.heap.size w w2):=HB1.out.trans (c2.below HB1.out.size (λi hi=>hi.1))
 clear hf c2 HFM HB1
 go_wp2_with fail
 refine HOP.out.mono ?_
 rintro e w3 ⟨b3,⟨c,h1,_⟩|⟨st',S,m,DS,h1,rfl,h3,h4,_⟩⟩
 ·exfalso
  rw[HQ2.out.inv.opens] at h1
  cases h1
 rw[HQ2.out.inv.opens] at h1
 injection h1 with _ h1
 injection h1 with h1
 subst h1
 have HF3:=Hh (HF2.out.below b3)
 have HS3:=Hh h4
 have HD3:=Hh h3
 have HB3:Hid (Below w.heap.size w w3):=HB2.out.trans (b3.mono HB2.out.size)
 have hs23:w2.heap.size<=w3.heap.size:=b3.size
 have HMN:=Hh (Ms.new_any w3)
 clear b3 h3 h4 HOP HF2 HB2
 go_wp2_with fail
 refine HMN.out.mono ?_
 rintro e w4 ⟨rfl,hlg,b4⟩
 have HB4:Hid (Below w.heap.size w w4):=HB3.out.trans (b4.mono HB3.out.size)
 have hs34:w3.heap.size<w4.heap.size:=Row.lt hlg
 have hws:w.heap.size<=w3.heap.size:=HB3.out.size
 have HBN:=Hh (bnew_any (N:=w.heap.size) (HF3.out.below b4) (HS3.out.below b4) hlg (rnd_ch HR.out (Ch.of_below HB4.out (λ_=>False)) id (by omega)) (by omega)
  (λk hk q=>by have:=HD3.out k q;omega) ⟨λq=>by omega,λq=>by have:=HS3.out.fin _ q;omega⟩ (λk hk=>hk.1) (λk hk=>by have:=HD3.out k hk;have:=HB3.out.size;have:=HF3.out;omega) (by omega) (by omega))
 clear hlg b4 HMN HB3 HF3
 go_wp2_with fail
 refine HBN.out.mono ?_
 rintro e w5 ⟨rfl,hbw,b5⟩
 have HW5:=Hh hbw
 have HB5:Hid (Below w.heap.size w w5):=HB4.out.trans (b5.mono HB4.out.size)
 clear hbw b5 HBN HB4
 go_wp2_with fail
 exact bodyPost_ret (res4 rfl _ _ _) rfl ⟨X,w3.heap.size,w4.heap.size,S,_,f1,rfl,HW5.out,HQ2.out,HB5.out⟩
end
section
def beginB (b:BM):Int×BM:=match getV b.st.V nmN with
 | some _=>if (delB b nmN).1≠0 then delB b nmN else (0,{ (delB b nmN).2 with cand:=cndV b.st.V,log:=[],last:=-1 })
 | none=>(0,{ b with cand:=cndV b.st.V,log:=[],last:=-1 })
def ints (l:List Int):List Value:=l.map λx=>.int .i64 x
theorem ints_len (l:List Int):(ints l).length=l.length:=by simp[ints]
theorem ints_one (l:List Int):∀u∈ints l,u.oneCell'=true:=λu hu=>by obtain⟨x,_,rfl⟩:=List.mem_map.1 hu;rfl
theorem ints_snoc (l:List Int)(x:Int):ints (l++[x])=ints l++[.int .i64 x]:=by simp[ints]
def OwI (w:World)(B:Nat)(v:Value)(l:List Int):Prop:=w.ownsRow B 3 1 v l.length (ints l)
theorem OwI.rd {w:World}{B:Nat}{v:Value}{l:List Int}(h:OwI w B v l):RdI w v l:=by
 obtain⟨_,h1⟩:=h
 rcases h1 with ⟨rfl,e⟩|⟨g,cap,cur,rfl,_,hh,h5,h6,_,h7⟩
 ·have e:l=[]:=List.eq_nil_of_length_eq_zero e
  subst e
  exact RdI.nil w
 ·refine⟨_,_,rfl,h5,h6,λk hk=>?_,λ_=>⟨g,0,rfl,λi x hx=>?_⟩⟩
  ·have e:g=k:=by simpa[Value.ownBlock] using hk
   rw[<-e];exact heap_lt hh
  ·have hi:=(List.getElem?_eq_some_iff.1 hx).1
   have q:(ints l)[i]? = some (.int .i64 x):=by unfold ints;rw[List.getElem?_map,hx];rfl
   rw[<-h7,List.getElem?_take_of_lt (by omega),Array.getElem?_toList] at q
   rw[Nat.zero_add,cell_of_row w g _ cur _ (0,0) hh]
   exact q
theorem OwI.ch {w w':World}{B:Nat}{v:Value}{l:List Int}{C:Nat->Prop}(h:OwI w B v l)(c:Ch C w w')(hC:∀g,v.ownBlock=some g->¬C g):OwI w' B v l:=ownN_ch h c hC
theorem OwI.below {w w':World}{B:Nat}{v:Value}{l:List Int}(h:OwI w B v l)(c:Below w.heap.size w w'):OwI w' B v l:=h.ch (Ch.of_below c (λ_=>False)) (λ_ _ h=>h)
theorem containsI_any {w:World}{v:Value}{l:List Int}(h:RdI w v l)(x:Int):Calls Tryz.prog 57 #[v,.int .i64 x] w λe w'=>e=.returned (.bool (decide (x∈l)))/\w'=w:=by
 obtain⟨a,c,rfl,h1,h2,h3,h4⟩:=h
 by_cases hl:l=[]
 ·subst hl
  have:=Tryz.slices_Contains_int_empty a c x w
  simpa using this
 ·obtain⟨g,o,rfl,hx⟩:=h4 hl
  have:=Tryz.slices_Contains_int g o l.length c l x w (Nat.le_refl _) (by unfold maxLen at h2;omega) (λj hj=>by rw[hx j l[j] (List.getElem?_eq_getElem hj),List.getD_eq_getElem?_getD,List.getElem?_eq_getElem hj];rfl)
  rw[List.take_length] at this
  refine this.mono ?_
  rintro e w' ⟨he,hw⟩
  refine⟨?_,hw⟩
  rw[he]
  congr 2
  rw[Bool.eq_iff_iff];simp
def cdI (nx ord:List Int)(i:Nat):List Int:=nx++(ord.take i).filter (λx=>!nx.contains x)
theorem cdI_step {nx ord:List Int}(hn:ord.Nodup){i:Nat}(hi:i<ord.length) :
  (ord[i]∈cdI nx ord i->cdI nx ord (i+1)=cdI nx ord i)/\(ord[i]∉cdI nx ord i->cdI nx ord (i+1)=cdI nx ord i++[ord[i]]):=by
 have hni:ord[i]∉ord.take i:=by
  have h1:(ord.take (i+1)).Nodup:=hn.sublist (List.take_sublist _ _)
  rw[List.take_succ_eq_append_getElem hi,List.nodup_append] at h1
  intro hm
  exact h1.2.2 _ hm _ (List.mem_singleton.2 rfl) rfl
 unfold cdI
 rw[List.take_succ_eq_append_getElem hi,List.filter_append]
 constructor
 ·intro hm
  have hx:ord[i]∈nx:=by
   rcases List.mem_append.1 hm with h|h
   ·exact h
   ·exact absurd (List.mem_filter.1 h).1 hni
  rw[show [ord[i]].filter (λx=>!nx.contains x)=[] by simp[hx],List.append_nil]
 ·intro hm
  have hx:ord[i]∉nx:=λh=>hm (List.mem_append.2 (.inl h))
  rw[show [ord[i]].filter (λx=>!nx.contains x)=[ord[i]] by simp[hx],List.append_assoc]
theorem cdI_len (nx ord:List Int)(i:Nat):(cdI nx ord i).length<=nx.length+ord.length:=by
 unfold cdI
 rw[List.length_append]
 have:=List.length_filter_le (λx=>!nx.contains x) (ord.take i)
 have:=List.length_take_le i ord
 have:(ord.take i).length<=ord.length:=by rw[List.length_take];omega
 omega
section
variable {w w':World}{N M S L n:Nat}{O:Nat->Prop}{b:BM}
theorem BW.begun (h:BW w N O M S L n b){u:Value}{l':List Int}(hu:RdI w u l')(ho:∀g,u.ownBlock=some g->¬O g/\N<=g) :
  ∃O',(∀k,O' k->O k\/u.ownBlock=some k)/\BW (((w.setCell ⟨M,2,none⟩ u).setCell ⟨M,3,none⟩ (.slice none 0 0)).setCell ⟨M,4,none⟩ (.int .i64 (-1))) N O' M S L n { b with cand:=l',log:=[],last:=-1 }:=by
 have h1:=h.takeCand hu ho
 have h2:=h1.takeLog (u:=.slice none 0 0) (l':=[]) ⟨rfl,.inl ⟨rfl,rfl⟩⟩ (λ_ h=>(by cases h))
 exact⟨_,λk hk=>hk.elim id (λh=>(by cases h)),h2.setLast (-1)⟩
end
end
section
theorem cnd_cdI (V:Vars):cndV V=cdI (nxtV V) (ordV V) (ordV V).length:=by
 unfold cndV cdI
 rw[List.take_length]
section
variable {w w':World}{N M S L n:Nat}{O:Nat->Prop}{b:BM}
theorem beginB_none (h:getV b.st.V nmN=none):beginB b=(0,{ b with cand:=cndV b.st.V,log:=[],last:=-1 }):=by unfold beginB;rw[h]
theorem beginB_bad {v:Str}(h:getV b.st.V nmN=some v)(h0:(delB b nmN).1≠0):beginB b=delB b nmN:=by unfold beginB;rw[h];exact if_pos h0
theorem beginB_ok {v:Str}(h:getV b.st.V nmN=some v)(h0:(delB b nmN).1=0):beginB b=(0,{ (delB b nmN).2 with cand:=cndV b.st.V,log:=[],last:=-1 }):=by unfold beginB;rw[h];exact if_neg (λk=>k h0)
theorem begin_any (h:BW w N O M S L n b)(hb:b.st.blk<b.fl.B)(hn:n<1000):Calls Tryz.prog 16 #[fptr M] w (MR w N O M S L (n+1) (beginB b)):=by
 have c0:=h.c0
 have HG0:=h.get (k:=⟨#[78,101,120,116]⟩) (by decide)
 rw[show(⟨#[78,101,120,116]⟩:ByteArray).data.toList=nmN from rfl] at HG0
 have HWW:=Hh h
 obtain⟨i0,hi0,hz0,hz1,hz2⟩:=info_parts Tryz.infoInt
 rcases hg:getV b.st.V nmN with _|v
 ·have HG:Hid (Calls Tryz.prog 56 #[fptr S,.string ⟨#[78,101,120,116]⟩] w λe w'=>e=.returned (.tuple #[.string ⟨#[]⟩,.int .i64 6])/\w=w'):=by
   unfold getS at HG0
   rw[hg] at HG0
   exact HG0
  obtain⟨r,hr⟩:∃r,beginB b=r:=⟨_,rfl⟩
  have HRE:=Hh hr
  have HGV:=Hh hg
  rw[hr]
  have hnx:nxtV b.st.V=[]:=by unfold nxtV;rw[hg]
  have HC:Hid (OwI w w.heap.size (.slice none 0 0) (nxtV b.st.V)):=by rw[hnx];exact⟨rfl,.inl ⟨rfl,rfl⟩⟩
  have HB1:Hid (Below w.heap.size w w):=Below.refl _ _
  have HNL:Hid ((nxtV b.st.V).length<=1):=nxtV_len _
  clear HG0 hg h hr
  go_enter Tryz.func16,Tryz.ntmps16
  go_upto_if 31 with (refine HG.out.mono ?_;rintro e w' ⟨rfl,rfl⟩)
  clear HG
  go_cut [3] (λx wc=>Hid (OwI wc w.heap.size x (nxtV b.st.V))/\Hid (Below w.heap.size w wc))
  case first=>
   clear c0
   go_wp2_with fail
   go_meet
   exact⟨HC,HB1⟩
  case rest=>
   clear HC HB1 hnx
   obtain⟨HC,HB1⟩:=hcut
   obtain⟨nx,hnx⟩:∃nx,nxtV b.st.V=nx:=⟨_,rfl⟩
   rw[hnx] at HC HNL
   obtain⟨xa,xc,rfl⟩:=Ms.own_len HC.out
   have HOD:=Hh (order_any (HWW.out.below HB1.out))
   have HON:Hid ((ordV b.st.V).Nodup/\(ordV b.st.V).length<=16):=⟨okO_nodup (ordV_ok _),okO_len (ordV_ok _)⟩
   have HCD:Hid (cndV b.st.V=cdI nx (ordV b.st.V) (ordV b.st.V).length):=by show _=_;rw[cnd_cdI,hnx]
   generalize ordV b.st.V=ord at *
   have HNX:=Hh hnx
   clear hnx
   go_wp2_with fail
   refine HOD.out.mono ?_
   rintro e w2 ⟨vo,rfl,hro,hgo,b2⟩
   obtain⟨oa,oc,rfl,hoc,hocm⟩:=hro.shape
   obtain⟨m,hm⟩:∃m,ord.length=m:=⟨_,rfl⟩
   have HM:=Hh hm
   rw[hm] at hro hgo hoc ⊢
   have HRO:=Hh hro
   have HC2:Hid (OwI w2 w.heap.size (.slice xa nx.length xc) (cdI nx ord 0)):=by
    show OwI _ _ _ _
    unfold cdI
    rw[List.take_zero,List.filter_nil,List.append_nil]
    exact HC.out.below b2
   have HD2:Hid (∀k,(Value.slice xa nx.length xc).ownBlock=some k->(Value.slice oa m oc).ownBlock≠some k):=λk hk q=>by
    have h1:=(HC.out.lt k hk).2
    have h2:=hgo k q
    omega
   have HB2:Hid (Below w.heap.size w w2):=HB1.out.trans (b2.mono HB1.out.size)
   clear HOD hro hgo b2 hm HC HB1
   go_wp2_with fail
   go_loopw [3,41] (λx z wr=>∃i:Nat,i<=m/\z=.int .i64 (i:Int)/\Hid (OwI wr w.heap.size x (cdI nx ord i))/\Hid (RdI wr (.slice oa m oc) ord)/\Hid (∀k,x.ownBlock=some k->(Value.slice oa m oc).ownBlock≠some k)/\Hid (Below w.heap.size w wr)) (λ_ z _=>m-(intOf z).toNat)
   case atStart=>exact⟨0,by omega,rfl,HC2,HRO,HD2,HB2⟩
   case round=>
    clear HC2 HRO HD2 HB2
    obtain⟨i,hi,rfl,HC,HRO,HDJ,HB⟩:=hrel
    obtain⟨xa,xc,rfl⟩:=Ms.own_len HC.out
    by_cases hlt:i<m
    ·have y0:(i:Int)<m:=by omega
     have hil:i<ord.length:=by rw[HM.out];exact hlt
     obtain⟨g,o,c',e,_,_,hc⟩:=HRO.out.cellAt hil
     rw[HM.out] at e
     injection e with e1 _ e3
     subst e1 e3
     have HST:=Hh (cdI_step (nx:=nx) HON.out.1 hil)
     have hcl:=cdI_len nx ord i
     have hcl2:(cdI nx ord i).length<=17:=by have:=HON.out.2;have:=HNL.out;omega
     have HCT:=Hh (containsI_any HC.out.rd ord[i])
     generalize ord[i]=xi at *
     generalize cdI nx ord i=cd at *
     obtain⟨ln,hln⟩:∃ln,cd.length=ln:=⟨_,rfl⟩
     have HLN:=Hh hln
     rw[hln] at HC HCT HDJ hcl2 ⊢
     clear hln hcl hil
     go_wp2_with fail
     refine HCT.out.mono ?_
     rintro e w' ⟨rfl,rfl⟩
     clear HCT
     by_cases hmem:xi∈cd
     ·have hd:decide (xi∈cd)=true:=decide_eq_true hmem
      rw[hd]
      have HC3:Hid (OwI w' w.heap.size (.slice xa ln xc) (cdI nx ord (i+1))):=by rw[HST.out.1 hmem];exact HC
      clear hmem hd HC HST
      go_wp2_with fail
      go_roundw
      case rel=>exact⟨i+1,by omega,by go_num,HC3,HRO,HDJ,HB⟩
      case measure=>simp[intOf];omega
     ·have hd:decide (xi∈cd)=false:=decide_eq_false hmem
      rw[hd]
      have HCE:Hid (cdI nx ord (i+1)=cd++[xi]):=HST.out.2 hmem
      have HC1:Hid ((w'.alloc (.cells #[.int .i64 xi] 3)).ownsRow w.heap.size 3 1 (.slice xa ln xc) ln (ints cd)):=by
       have h9:=HC.out
       unfold OwI at h9
       rw[HLN.out] at h9
       exact ownN_ch h9 ((Ch.refl (λ_=>False) w').alloc _) (λ_ _ h=>h)
      have HN1:Hid (∀j u,(ints [xi])[j]? = some u->(w'.alloc (.cells #[.int .i64 xi] 3)).cell? ((⟨w'.heap.size,0,none⟩:Addr).add j)=some u):=World.news_of_block (heap_alloc_new w' _) |> λh=>h
      have HB3:Hid (Below w.heap.size w (w'.alloc (.cells #[.int .i64 xi] 3))):=HB.out.alloc HB.out.size _
      have HRO3:Hid (RdI (w'.alloc (.cells #[.int .i64 xi] 3)) (.slice (some ⟨g,o,none⟩) m oc) ord):=HRO.out.ch ((Ch.refl (λ_=>False) w').alloc _) (λ_ _ h=>h)
      have hsw:w.heap.size<=w'.heap.size:=HB.out.size
      have hgl:g<w'.heap.size:=by obtain⟨_,_,e,_,_,h3,_⟩:=HRO.out;exact h3 g rfl
      have HLC:Hid ((ints cd).length=ln):=by rw[ints_len];exact HLN.out
      clear hmem hd HC HST HB HRO
      go_wp2_with (at_builtin;refine wpList_append_lies _ rfl _ _ 36 rfl w.heap.size 3 i0 _ 1 8 Tryz.underlying36 hi0 hz0 hz1 hz2 (by kernel_rfl) (by omega) _ ln (ints cd) rfl (by exact HC1.out) ⟨w'.heap.size,0,none⟩ 1 1 (ints [xi]) rfl rfl (by exact HN1.out) (ints_one _) (by omega) (by simp only[maxLen];omega) (by omega) (by simp;omega) (w'.heap.size+1) (by simp) ?_)
      intro g2 cap2 w5 hown5 hgrow5 hat5 hlt5
      have HB5:Hid (Below w.heap.size w w5):=Below.grown HB3.out hgrow5 (by simp;omega) (λk hk=>(HC1.out.lt k hk).1)
      have HRO5:Hid (RdI w5 (.slice (some ⟨g,o,none⟩) m oc) ord):=HRO3.out.ch (Ch.of_grown (C:=λk=>k≠g) hgrow5 (λk hk _ q=>HDJ.out k hk (by rw[q];rfl))) (λk hk q=>by
       have e:g=k:=by simpa[Value.ownBlock] using hk
       exact q e.symm)
      have HDJ5:Hid (∀k,(Value.slice (some ⟨g2,0,none⟩) (ln+1) cap2).ownBlock=some k->(Value.slice (some ⟨g,o,none⟩) m oc).ownBlock≠some k):=λk hk q=>by
       have e:g2=k:=by simpa[Value.ownBlock] using hk
       have e2:g=k:=by simpa[Value.ownBlock] using q
       rcases hat5 with h|h
       ·exact HDJ.out g2 h (by rw[e,<-e2];rfl)
       ·omega
      have HC5:Hid (OwI w5 w.heap.size (.slice (some ⟨g2,0,none⟩) (ln+1) cap2) (cdI nx ord (i+1))):=by
       rw[HCE.out]
       show World.ownsRow _ _ _ _ _ _ _
       rw[ints_snoc,List.length_append,HLN.out]
       exact hown5
      clear hown5 hgrow5 hat5 hlt5 HC1 HN1 HB3 HRO3 HDJ HCE
      go_wp2_with fail
      go_roundw
      case rel=>exact⟨i+1,by omega,by go_num,HC5,HRO5,HDJ5,HB5⟩
      case measure=>simp[intOf];omega
    ·have ei:i=m:=by omega
     have y0:¬(i:Int)<m:=by omega
     subst ei
     have HWr:=Hh (HWW.out.below HB.out)
     rw[HM.out] at HCD
     generalize cdI nx ord i=cd at *
     have hcw:∀k,(Value.slice xa cd.length xc).ownBlock=some k->w.heap.size<=k:=λk hk=>(HC.out.lt k hk).1
     have HCW:=Hh hcw
     have hrd:=Hh HC.out.rd
     have hOW:∀k,O k->N<=k/\k<w.heap.size:=HWW.out.oN
     have HOW:=Hh hOW
     have hNW:N<=w.heap.size:=HWW.out.N_le
     generalize cd.length=ln at *
     clear hcw hOW HC HRO HDJ
     have e0:r=(0,{ b with cand:=cd,log:=[],last:=-1 }):=by rw[<-HRE.out,beginB_none HGV.out,HCD.out]
     subst e0
     have hu:RdI wr (.slice xa ln xc) cd:=hrd.out
     have ho:∀g,(Value.slice xa ln xc).ownBlock=some g->¬O g/\N<=g:=λg hk=>⟨λq=>by have:=(HOW.out g q).2;have:=HCW.out g hk;omega,by have:=HCW.out g hk;omega⟩
     have q2:=HWr.out.mono (Nat.le_succ n)
     have f2:=q2.frz 2
     obtain⟨vc,c2,_⟩:=q2.c2
     have hA:=q2.takeCand hu ho
     have f3:=hA.frz 3
     obtain⟨vl,c3,_⟩:=hA.c3
     have hB:=hA.takeLog (u:=.slice none 0 0) (l':=[]) ⟨rfl,.inl ⟨rfl,rfl⟩⟩ (λ_ h=>(by cases h))
     have f4:=hB.frz 4
     have c4:=hB.c4
     have c2':=c2
     obtain⟨O2,r1,r2⟩:=q2.begun hu ho
     have HF:Hid (MLeft w (((wr.setCell ⟨M,2,none⟩ (.slice xa ln xc)).setCell ⟨M,3,none⟩ (.slice none 0 0)).setCell ⟨M,4,none⟩ (.int .i64 (-1))) N O M S L (n+1) { b with cand:=cd,log:=[],last:=-1 }):=
      ⟨O2,λk hk=>(r1 k hk).imp id (HCW.out k),r2,(((Ch.of_below HB.out O).setCell (p:=⟨M,2,none⟩) (λ_=>HWW.out.OM) _).setCell (p:=⟨M,3,none⟩) (λ_=>HWW.out.OM) _).setCell (p:=⟨M,4,none⟩) (λ_=>HWW.out.OM) _⟩
     clear hA hB r1 r2 hu ho q2 HOW HCW hrd HB HWr HRE HGV HCD
     go_wp2_with fail
     go_ret
     exact⟨rfl,HF.out⟩
 ·obtain⟨vb,hvb⟩:∃vb:ByteArray,str v=.string vb:=⟨_,rfl⟩
  have HVB:Hid (vb.data.toList=v):=by
   show _=_
   unfold str at hvb
   injection hvb with hvb
   rw[<-hvb]
  have HG:Hid (Calls Tryz.prog 56 #[fptr S,.string ⟨#[78,101,120,116]⟩] w λe w'=>e=.returned (.tuple #[.string vb,.int .i64 0])/\w=w'):=by
   unfold getS at HG0
   rw[hg] at HG0
   rw[<-hvb]
   exact HG0
  have HGV:=Hh hg
  obtain⟨r,hr⟩:∃r,beginB b=r:=⟨_,rfl⟩
  have HRE:=Hh hr
  rw[hr]
  have hvz:vb.size=v.length:=by rw[bsz,HVB.out]
  have HNL:Hid ((nxtV b.st.V).length<=1):=nxtV_len _
  have HC0:Hid (nxtV b.st.V=[]->OwI w w.heap.size (.slice none 0 0) (nxtV b.st.V)):=λe=>by rw[e];exact⟨rfl,.inl ⟨rfl,rfl⟩⟩
  have HB1:Hid (Below w.heap.size w w):=Below.refl _ _
  clear HG0 h hr hvb
  by_cases h1:v.length=1
  focus
   obtain⟨x,hx⟩:∃x,v=[x]:=List.length_eq_one_iff.1 h1
   have hz1':vb.size=1:=by rw[hvz,h1]
   have l0:0<vb.size:=by rw[hz1'];omega
   obtain⟨y,hy⟩:∃y,(vb[0]'l0).toNat=y:=⟨_,rfl⟩
   have hy2:x.toNat=y:=by rw[<-hy,ba_at,HVB.out,hx];rfl
   have hyb:y<256:=by rw[<-hy];exact(vb[0]'l0).toNat_lt
   have hwy:IntKind.i64.wrap (y:Int)=(y:Int):=IntWalk.i64_in _ ⟨by omega,by omega⟩
   have HI:=Hh (isid_any (y:Int) w)
   have HNV:Hid (nxtV b.st.V=if isId (y:Int)=true then [(y:Int)] else []):=by
    show _=_
    unfold nxtV
    rw[hg,hx]
    simp only[hy2]
   cases hid:isId (y:Int)
   focus
    rw[hid] at HI
    have HC:Hid (OwI w w.heap.size (.slice none 0 0) (nxtV b.st.V)):=HC0.out (by rw[HNV.out,hid];rfl)
    clear HC0 HNV hg hid hy2 hx h1 hvz HVB
    go_enter Tryz.func16,Tryz.ntmps16
    go_upto_if 31 with (first|(refine HG.out.mono ?_;rintro e w' ⟨rfl,rfl⟩)|(refine HI.out.mono ?_;rintro e w' ⟨rfl,rfl⟩))
    clear HG HI
    go_cut [3] (λx wc=>Hid (OwI wc w.heap.size x (nxtV b.st.V))/\Hid (Below w.heap.size w wc))
    case first=>
     clear c0
     go_wp2_with fail
     go_meet
     exact⟨HC,HB1⟩
    case' rest=>
     clear HC HB1 hy hz1' l0
     obtain⟨HC,HB1⟩:=hcut
   rotate_left
   focus
    rw[hid] at HI
    have hNV:nxtV b.st.V=[(y:Int)]:=by rw[HNV.out,hid];rfl
    have HOA:Hid ((w.alloc (.cells #[.int .i64 (y:Int)] 3)).ownsRow w.heap.size 3 1 (.slice none 0 0) 0 (ints [])):=⟨rfl,.inl ⟨rfl,rfl⟩⟩
    have HN1:Hid (∀j u,(ints [(y:Int)])[j]? = some u->(w.alloc (.cells #[.int .i64 (y:Int)] 3)).cell? ((⟨w.heap.size,0,none⟩:Addr).add j)=some u):=World.news_of_block (heap_alloc_new w _) |> λh=>h
    have HB0:Hid (Below w.heap.size w (w.alloc (.cells #[.int .i64 (y:Int)] 3))):=HB1.out.alloc (Nat.le_refl _) _
    clear HC0 HNV hg hid hy2 hx h1 hvz HVB
    go_enter Tryz.func16,Tryz.ntmps16
    go_upto_if 31 with (first|(refine HG.out.mono ?_;rintro e w' ⟨rfl,rfl⟩)|(refine HI.out.mono ?_;rintro e w' ⟨rfl,rfl⟩))
    clear HG HI
    go_cut [3] (λx wc=>Hid (OwI wc w.heap.size x (nxtV b.st.V))/\Hid (Below w.heap.size w wc))
    case first=>
     clear c0
     go_wp2_with (at_builtin;refine wpList_append_lies _ rfl _ _ 36 rfl w.heap.size 3 i0 _ 1 8 Tryz.underlying36 hi0 hz0 hz1 hz2 (by kernel_rfl) (by omega) _ 0 (ints []) rfl (by exact HOA.out) ⟨w.heap.size,0,none⟩ 1 1 (ints [(y:Int)]) rfl rfl (by exact HN1.out) (ints_one _) (by omega) (by simp only[maxLen];omega) (by omega) (by simp) (w.heap.size+1) (by simp) ?_)
     intro g2 cap2 w5 hown5 hgrow5 hat5 hlt5
     have HB5:Hid (Below w.heap.size w w5):=Below.grown HB0.out hgrow5 (by simp) (λk hk=>(by cases hk))
     have HC5:Hid (OwI w5 w.heap.size (.slice (some ⟨g2,0,none⟩) 1 cap2) (nxtV b.st.V)):=by rw[hNV];exact hown5
     clear hown5 hgrow5 hat5 hlt5
     go_wp2_with fail
     go_meet
     exact⟨HC5,HB5⟩
    case' rest=>
     clear HOA HN1 HB0 HB1 hNV hy hz1' l0
     obtain⟨HC,HB1⟩:=hcut
  rotate_left 2
  focus
   have h1I:¬((vb.size:Int)=1):=by omega
   have h1b:((vb.size:Int)==1)=false:=by simpa using h1I
   have HC:Hid (OwI w w.heap.size (.slice none 0 0) (nxtV b.st.V)):=HC0.out (by
    unfold nxtV
    rw[hg]
    split
    ·rename_i q;injection q with q;rw[q] at h1;simp at h1
    ·rfl)
   clear HC0 hg h1 hvz HVB
   go_enter Tryz.func16,Tryz.ntmps16
   go_upto_if 31 with (refine HG.out.mono ?_;rintro e w' ⟨rfl,rfl⟩)
   clear HG
   go_cut [3] (λx wc=>Hid (OwI wc w.heap.size x (nxtV b.st.V))/\Hid (Below w.heap.size w wc))
   case first=>
    clear c0
    go_wp2_with fail
    go_meet
    exact⟨HC,HB1⟩
   case' rest=>
    clear HC HB1 h1I h1b
    obtain⟨HC,HB1⟩:=hcut
  all_goals
   obtain⟨nx,hnx⟩:∃nx,nxtV b.st.V=nx:=⟨_,rfl⟩
   rw[hnx] at HC HNL
   obtain⟨xa,xc,rfl⟩:=Ms.own_len HC.out
   have HOD:=Hh (order_any (HWW.out.below HB1.out))
   have HON:Hid ((ordV b.st.V).Nodup/\(ordV b.st.V).length<=16):=⟨okO_nodup (ordV_ok _),okO_len (ordV_ok _)⟩
   have HCD:Hid (cndV b.st.V=cdI nx (ordV b.st.V) (ordV b.st.V).length):=by show _=_;rw[cnd_cdI,hnx]
   generalize ordV b.st.V=ord at *
   have HNX:=Hh hnx
   clear hnx
   go_wp2_with fail
   refine HOD.out.mono ?_
   rintro e w2 ⟨vo,rfl,hro,hgo,b2⟩
   obtain⟨oa,oc,rfl,hoc,hocm⟩:=hro.shape
   obtain⟨m,hm⟩:∃m,ord.length=m:=⟨_,rfl⟩
   have HM:=Hh hm
   rw[hm] at hro hgo hoc ⊢
   have HRO:=Hh hro
   have HC2:Hid (OwI w2 w.heap.size (.slice xa nx.length xc) (cdI nx ord 0)):=by
    show OwI _ _ _ _
    unfold cdI
    rw[List.take_zero,List.filter_nil,List.append_nil]
    exact HC.out.below b2
   have HD2:Hid (∀k,(Value.slice xa nx.length xc).ownBlock=some k->(Value.slice oa m oc).ownBlock≠some k):=λk hk q=>by
    have h1:=(HC.out.lt k hk).2
    have h2:=hgo k q
    omega
   have HB2:Hid (Below w.heap.size w w2):=HB1.out.trans (b2.mono HB1.out.size)
   clear HOD hro hgo b2 hm HC HB1
   go_wp2_with fail
   go_loopw [3,41] (λx z wr=>∃i:Nat,i<=m/\z=.int .i64 (i:Int)/\Hid (OwI wr w.heap.size x (cdI nx ord i))/\Hid (RdI wr (.slice oa m oc) ord)/\Hid (∀k,x.ownBlock=some k->(Value.slice oa m oc).ownBlock≠some k)/\Hid (Below w.heap.size w wr)) (λ_ z _=>m-(intOf z).toNat)
   case atStart=>exact⟨0,by omega,rfl,HC2,HRO,HD2,HB2⟩
   case round=>
    clear HC2 HRO HD2 HB2
    obtain⟨i,hi,rfl,HC,HRO,HDJ,HB⟩:=hrel
    obtain⟨xa,xc,rfl⟩:=Ms.own_len HC.out
    by_cases hlt:i<m
    ·have y0:(i:Int)<m:=by omega
     have hil:i<ord.length:=by rw[HM.out];exact hlt
     obtain⟨g,o,c',e,_,_,hc⟩:=HRO.out.cellAt hil
     rw[HM.out] at e
     injection e with e1 _ e3
     subst e1 e3
     have HST:=Hh (cdI_step (nx:=nx) HON.out.1 hil)
     have hcl:=cdI_len nx ord i
     have hcl2:(cdI nx ord i).length<=17:=by have:=HON.out.2;have:=HNL.out;omega
     have HCT:=Hh (containsI_any HC.out.rd ord[i])
     generalize ord[i]=xi at *
     generalize cdI nx ord i=cd at *
     obtain⟨ln,hln⟩:∃ln,cd.length=ln:=⟨_,rfl⟩
     have HLN:=Hh hln
     rw[hln] at HC HCT HDJ hcl2 ⊢
     clear hln hcl hil
     go_wp2_with fail
     refine HCT.out.mono ?_
     rintro e w' ⟨rfl,rfl⟩
     clear HCT
     by_cases hmem:xi∈cd
     ·have hd:decide (xi∈cd)=true:=decide_eq_true hmem
      rw[hd]
      have HC3:Hid (OwI w' w.heap.size (.slice xa ln xc) (cdI nx ord (i+1))):=by rw[HST.out.1 hmem];exact HC
      clear hmem hd HC HST
      go_wp2_with fail
      go_roundw
      case rel=>exact⟨i+1,by omega,by go_num,HC3,HRO,HDJ,HB⟩
      case measure=>simp[intOf];omega
     ·have hd:decide (xi∈cd)=false:=decide_eq_false hmem
      rw[hd]
      have HCE:Hid (cdI nx ord (i+1)=cd++[xi]):=HST.out.2 hmem
      have HC1:Hid ((w'.alloc (.cells #[.int .i64 xi] 3)).ownsRow w.heap.size 3 1 (.slice xa ln xc) ln (ints cd)):=by
       have h9:=HC.out
       unfold OwI at h9
       rw[HLN.out] at h9
       exact ownN_ch h9 ((Ch.refl (λ_=>False) w').alloc _) (λ_ _ h=>h)
      have HN1:Hid (∀j u,(ints [xi])[j]? = some u->(w'.alloc (.cells #[.int .i64 xi] 3)).cell? ((⟨w'.heap.size,0,none⟩:Addr).add j)=some u):=World.news_of_block (heap_alloc_new w' _) |> λh=>h
      have HB3:Hid (Below w.heap.size w (w'.alloc (.cells #[.int .i64 xi] 3))):=HB.out.alloc HB.out.size _
      have HRO3:Hid (RdI (w'.alloc (.cells #[.int .i64 xi] 3)) (.slice (some ⟨g,o,none⟩) m oc) ord):=HRO.out.ch ((Ch.refl (λ_=>False) w').alloc _) (λ_ _ h=>h)
      have hsw:w.heap.size<=w'.heap.size:=HB.out.size
      have hgl:g<w'.heap.size:=by obtain⟨_,_,e,_,_,h3,_⟩:=HRO.out;exact h3 g rfl
      have HLC:Hid ((ints cd).length=ln):=by rw[ints_len];exact HLN.out
      clear hmem hd HC HST HB HRO
      go_wp2_with (at_builtin;refine wpList_append_lies _ rfl _ _ 36 rfl w.heap.size 3 i0 _ 1 8 Tryz.underlying36 hi0 hz0 hz1 hz2 (by kernel_rfl) (by omega) _ ln (ints cd) rfl (by exact HC1.out) ⟨w'.heap.size,0,none⟩ 1 1 (ints [xi]) rfl rfl (by exact HN1.out) (ints_one _) (by omega) (by simp only[maxLen];omega) (by omega) (by simp;omega) (w'.heap.size+1) (by simp) ?_)
      intro g2 cap2 w5 hown5 hgrow5 hat5 hlt5
      have HB5:Hid (Below w.heap.size w w5):=Below.grown HB3.out hgrow5 (by simp;omega) (λk hk=>(HC1.out.lt k hk).1)
      have HRO5:Hid (RdI w5 (.slice (some ⟨g,o,none⟩) m oc) ord):=HRO3.out.ch (Ch.of_grown (C:=λk=>k≠g) hgrow5 (λk hk _ q=>HDJ.out k hk (by rw[q];rfl))) (λk hk q=>by
       have e:g=k:=by simpa[Value.ownBlock] using hk
       exact q e.symm)
      have HDJ5:Hid (∀k,(Value.slice (some ⟨g2,0,none⟩) (ln+1) cap2).ownBlock=some k->(Value.slice (some ⟨g,o,none⟩) m oc).ownBlock≠some k):=λk hk q=>by
       have e:g2=k:=by simpa[Value.ownBlock] using hk
       have e2:g=k:=by simpa[Value.ownBlock] using q
       rcases hat5 with h|h
       ·exact HDJ.out g2 h (by rw[e,<-e2];rfl)
       ·omega
      have HC5:Hid (OwI w5 w.heap.size (.slice (some ⟨g2,0,none⟩) (ln+1) cap2) (cdI nx ord (i+1))):=by
       rw[HCE.out]
       show World.ownsRow _ _ _ _ _ _ _
       rw[ints_snoc,List.length_append,HLN.out]
       exact hown5
      clear hown5 hgrow5 hat5 hlt5 HC1 HN1 HB3 HRO3 HDJ HCE
      go_wp2_with fail
      go_roundw
      case rel=>exact⟨i+1,by omega,by go_num,HC5,HRO5,HDJ5,HB5⟩
      case measure=>simp[intOf];omega
    ·have ei:i=m:=by omega
     have y0:¬(i:Int)<m:=by omega
     subst ei
     have HWr:=Hh (HWW.out.below HB.out)
     rw[HM.out] at HCD
     generalize cdI nx ord i=cd at *
     have hcw:∀k,(Value.slice xa cd.length xc).ownBlock=some k->w.heap.size<=k:=λk hk=>(HC.out.lt k hk).1
     have HCW:=Hh hcw
     have hrd:=Hh HC.out.rd
     have hOW:∀k,O k->N<=k/\k<w.heap.size:=HWW.out.oN
     have HOW:=Hh hOW
     have hNW:N<=w.heap.size:=HWW.out.N_le
     generalize cd.length=ln at *
     clear hcw hOW HC HRO HDJ
     have HDL:=Hh (HWr.out.delB hb hn (ke:=⟨#[78,101,120,116]⟩) (k:=nmN) (by decide) rfl)
     have c0:=HWr.out.c0
     obtain⟨de,hde⟩:∃e,(delB b nmN).1=e:=⟨_,rfl⟩
     obtain⟨bd,hbd⟩:∃e,(delB b nmN).2=e:=⟨_,rfl⟩
     have hdp:delB b nmN=(de,bd):=by rw[<-hde,<-hbd]
     rw[hdp] at HDL
     go_wp2_with fail
     refine HDL.out.mono ?_
     rintro e w5 ⟨rfl,hl⟩
     have HLf:=Hh hl
     clear hl HDL c0
     by_cases h0:de=0
     ·have e0:r=(0,{ bd with cand:=cd,log:=[],last:=-1 }):=by
       rw[<-HRE.out,beginB_ok HGV.out (by rw[hde];exact h0),hbd,HCD.out]
      subst e0 h0
      obtain⟨O',q0,q2,q3⟩:=HLf.out
      have hu:RdI w5 (.slice xa ln xc) cd:=hrd.out.ch q3 (λg hk q=>by have:=(HOW.out g q).2;have:=HCW.out g hk;omega)
      have ho:∀g,(Value.slice xa ln xc).ownBlock=some g->¬O' g/\N<=g:=λg hk=>⟨λq=>by
       have h1:=HCW.out g hk
       rcases q0 g q with q|q
       ·have:=(HOW.out g q).2;omega
       ·have:=hrd.out
        obtain⟨_,_,_,_,_,h3,_⟩:=this
        have:=h3 g hk
        omega,by have:=HCW.out g hk;omega⟩
      have f2:=q2.frz 2
      obtain⟨vc,c2,_⟩:=q2.c2
      have hA:=q2.takeCand hu ho
      have f3:=hA.frz 3
      obtain⟨vl,c3,_⟩:=hA.c3
      have hB:=hA.takeLog (u:=.slice none 0 0) (l':=[]) ⟨rfl,.inl ⟨rfl,rfl⟩⟩ (λ_ h=>(by cases h))
      have f4:=hB.frz 4
      have c4:=hB.c4
      have c2':=c2
      obtain⟨O2,r1,r2⟩:=q2.begun hu ho
      have HF:Hid (MLeft w (((w5.setCell ⟨M,2,none⟩ (.slice xa ln xc)).setCell ⟨M,3,none⟩ (.slice none 0 0)).setCell ⟨M,4,none⟩ (.int .i64 (-1))) N O M S L (n+1) { bd with cand:=cd,log:=[],last:=-1 }):=
       ⟨O2,λk hk=>(r1 k hk).elim (λh=>(q0 k h).imp id (λq=>Nat.le_trans HB.out.size q)) (λh=>.inr (HCW.out k h)),r2,((((Ch.of_below HB.out O).trans q3).setCell (p:=⟨M,2,none⟩) (λ_=>HWW.out.OM) _).setCell (p:=⟨M,3,none⟩) (λ_=>HWW.out.OM) _).setCell (p:=⟨M,4,none⟩) (λ_=>HWW.out.OM) _⟩
      clear hA hB r1 r2 hu ho q2 q0 q3 HOW HCW hrd HB HWr HLf HRE HCD HGV hde hbd hdp
      go_wp2_with fail
      go_ret
      exact⟨rfl,HF.out⟩
     ·have e0:r=(de,bd):=by rw[<-HRE.out,beginB_bad HGV.out (by rw[hde];exact h0),hdp]
      subst e0
      have h0b:(de != 0)=true:=by rw[bne_iff_ne];exact h0
      have HF:Hid (MLeft w w5 N O M S L (n+1) bd):=HLf.out.after HB.out
      clear HLf HRE HCD HGV hde hbd hdp HOW HCW hrd HB HWr
      go_wp2_with fail
      go_ret
      exact⟨rfl,HF.out⟩
end
end
section
theorem ne_EO (i:Nat):nmO≠nmE i:=λh=>by have:=congrArg List.length h;simp[nmE,nmO] at this
theorem ne_EN (i:Nat):nmN≠nmE i:=λh=>by have:=congrArg List.length h;simp[nmE,nmN] at this
theorem ne_ED (i:Nat):nmD≠nmE i:=λh=>by simp[nmE,nmD] at h
theorem ne_OD:nmO≠nmD:=by decide
theorem ne_ON:nmO≠nmN:=by decide
theorem get_set_ne {V:Vars}{a b v:Str}(h:a≠b):getV (setV V b v) a=getV V a:=by rw[getV_set,if_neg h]
theorem get_del_ne {V:Vars}{a b:Str}(h:a≠b):getV (delV V b) a=getV V a:=by rw[getV_del,if_neg h]
theorem ordV_congr {V V':Vars}(h:getV V' nmO=getV V nmO):ordV V'=ordV V:=by unfold ordV;rw[h]
theorem entV_congr {V V':Vars}{i:Int}(h:getV V' (nmE i.toNat)=getV V (nmE i.toNat)):entV V' i=entV V i:=by unfold entV;rw[h]
theorem entO_congr {V V':Vars}{i:Int}(h:getV V' (nmE i.toNat)=getV V (nmE i.toNat)):entO V' i=entO V i:=by unfold entO;rw[entV_congr h]
theorem entO_put {V:Vars}{j:Nat}(hj:j<16){d:Str}(hd:d.length=32)(a:Bool){n u:Nat}(hn:n<=255)(hu:u<=255):entO (setV V (nmE j) (entS d a n u)) (j:Int)=some ⟨j,d,a,n,u⟩:=by
 have hid:isId (j:Int)=true:=isId_iff.2 ⟨by omega,by omega⟩
 unfold entO
 rw[entV_eq hid,show((j:Int)).toNat=j from rfl,getV_set,if_pos rfl]
 simp only[Option.filter,okE_entS hd,if_true,Option.map_some,entS_take hd,entS_32 hd,entS_33 hd,entS_34 hd,u8_of hn,u8_of hu]
 cases a<;>rfl
theorem entO_other {V:Vars}{i j:Nat}(hi:i<256)(hj:j<256)(h:i≠j)(v:Str):entO (setV V (nmE j) v) (i:Int)=entO V (i:Int):=
 entO_congr (get_set_ne (λe=>h (nmE_inj hi hj e)))
theorem ordV_put {V:Vars}{l:List Int}(h:okO l=true):ordV (setV V nmO (ordS l))=l:=by
 unfold ordV
 rw[getV_set,if_pos rfl]
 show(if _ then _ else _)=_
 rw[byI_ordS h,if_pos h]
def Kp (b b':BM):Prop:=b'.cand=b.cand/\b'.log=b.log/\b'.last=b.last/\b'.es=b.es
theorem setB_kp (b:BM)(n v:Str):Kp b (setB b n v).2:=⟨rfl,rfl,rfl,rfl⟩
theorem delB_kp (b:BM)(n:Str):Kp b (delB b n).2:=⟨rfl,rfl,rfl,rfl⟩
section
variable {m k:Nat}{b:BM}
theorem setB_ok (h:Cal m k b.fl b.st)(hk:k<m){n v:Str}(ho:okVar (n,v)):∃b',setB b n v=(0,b')/\Cal m (k+1) b'.fl b'.st/\b'.st.V=setV b.st.V n v/\Kp b b':=by
 obtain⟨g,s,e,h1,h2⟩:=h.set hk ho
 exact⟨(setB b n v).2,by unfold setB;rw[e],by unfold setB;rw[e];exact h1,by unfold setB;rw[e];exact h2,setB_kp _ _ _⟩
theorem delB_ok (h:Cal m k b.fl b.st)(hk:k<m){v:Str}(hg:getV b.st.V nmN=some v):∃b',delB b nmN=(0,b')/\Cal m (k+1) b'.fl b'.st/\b'.st.V=delV b.st.V nmN/\Kp b b':=by
 obtain⟨g,s,e,h1,h2⟩:=h.del hk (n:=nmN) (by decide) hg
 exact⟨(delB b nmN).2,by unfold delB;rw[e],by unfold delB;rw[e];exact h1,by unfold delB;rw[e];exact h2,delB_kp _ _⟩
theorem okVar_E {j:Nat}(hj:j<16){d:Str}(hd:d.length=32)(a:Bool)(n u:Nat):okVar (nmE j,entS d a n u):=.inl ⟨j,hj,rfl,entS_len hd a n u⟩
theorem okVar_O {l:List Int}(h:okO l=true):okVar (nmO,ordS l):=.inr (.inl ⟨rfl,by show(ordS l).length<=16;rw[ordS_len];exact okO_len h⟩)
theorem setEntryB_ok (h:Cal m k b.fl b.st)(hk:k<m){j:Nat}(hj:j<16){d:Str}(hd:d.length=32)(a:Bool){n:Nat}(h1:1<=n)(h2:n<=255) :
  ∃b',setEntryB b (j:Int) d a (n:Int)=(0,b')/\Cal m (k+1) b'.fl b'.st/\b'.st.V=setV b.st.V (nmE j) (entS d a n 0)/\Kp b b':=by
 unfold setEntryB
 rw[if_pos ⟨isId_iff.2 ⟨by omega,by omega⟩,by omega,by omega⟩]
 exact setB_ok h hk (okVar_E hj hd a n 0)
theorem setOrderB_ok (h:Cal m k b.fl b.st)(hk:k<m){l:List Int}(ho:okO l=true):∃b',setOrderB b l=(0,b')/\Cal m (k+1) b'.fl b'.st/\b'.st.V=setV b.st.V nmO (ordS l)/\Kp b b':=by
 unfold setOrderB
 rw[if_pos ho]
 exact setB_ok h hk (okVar_O ho)
theorem beginB_cal (h:Cal m k b.fl b.st)(hk:k<m):∃b',beginB b=(0,b')/\Cal m (k+1) b'.fl b'.st/\b'.st.V=(if getV b.st.V nmN=none then b.st.V else delV b.st.V nmN)/\b'.cand=cndV b.st.V/\b'.log=[]/\b'.last=-1/\b'.es=b.es:=by
 rcases hg:getV b.st.V nmN with _|v
 ·rw[beginB_none hg]
  exact⟨_,rfl,h.mono (Nat.le_succ _),by rw[if_pos rfl],rfl,rfl,rfl,rfl⟩
 ·obtain⟨b',e,h1,h2,h3⟩:=delB_ok h hk hg
  rw[beginB_ok hg (by rw[e]),e]
  exact⟨_,rfl,h1,by rw[if_neg (by simp)];exact h2,rfl,rfl,rfl,h3.2.2.2⟩
theorem tryB_none {l:List ByteArray}(hc:b.cand=[]):tryB b l=((0,0),6,b):=by unfold tryB;rw[hc]
theorem tryB_skip {l:List ByteArray}{x c:Int}{r:List Int}(hc:b.cand=x::r)(h:exC b.st.V x.toNat l=c)(h0:c≠0):tryB b l=((x,c),0,{ b with cand:=r,log:=b.log++[(x,c)] }):=by
 unfold tryB
 rw[hc]
 simp only[h]
 rw[if_neg h0]
theorem tryB_start {l:List ByteArray}(h:Cal m k b.fl b.st)(hk:k<m){x:Nat}{r:List Int}(hx:x<16)(hc:b.cand=(x:Int)::r){e:En}(hO:entO b.st.V (x:Int)=some e)(h0:exC b.st.V x l=0) :
  ∃b',tryB b l=(((x:Int),0),0,b')/\Cal m (k+1) b'.fl b'.st/\b'.st.V=setV b.st.V (nmE x) (entS e.d e.a e.n (e.u+1))/\b'.cand=[]/\b'.log=b.log++[((x:Int),0)]/\b'.last=x/\b'.es=b.es++[⟨4,Ms.sumD (l.getD x ⟨#[]⟩).data.toList,bootT⟩]:=by
 have hE:exE b.st.V (x:Int)=e:=by unfold exE;rw[hO];rfl
 obtain⟨b',e1,e2,e3,e4⟩:=setB_ok h hk (okVar_E hx (entO_some hO).2.2.1 e.a e.n (e.u+1))
 refine⟨{ b' with cand:=[],log:=b.log++[((x:Int),0)],last:=x,es:=b.es++[⟨4,Ms.sumD (l.getD x ⟨#[]⟩).data.toList,bootT⟩] },?_,e2,e3,rfl,rfl,rfl,rfl⟩
 unfold tryB
 rw[hc]
 simp only[show((x:Int)).toNat=x from rfl,h0,hE,e1,if_true,ne_eq,not_true,if_false]
theorem entO_congrN {V V':Vars}{i:Nat}(h:getV V' (nmE i)=getV V (nmE i)):entO V' (i:Int)=entO V (i:Int):=entO_congr h
theorem exC_some {V:Vars}{i:Nat}{l:List ByteArray}{e:En}(h:entO V (i:Int)=some e):exC V i l=if l.length<=i\/(l.getD i ⟨#[]⟩).size=0 then 6 else if e.a=false then 9 else if sumS (l.getD i ⟨#[]⟩)≠e.d then 21 else if e.d∈denV V then 13 else if e.n<=e.u then 14 else 0:=by
 unfold exC;rw[h]
end
end
section
def BF (w:World)(N:Nat)(F:Nat->Prop)(M S L n:Nat)(b:BM):Prop:=∃O,BW w N O M S L n b/\∀k,F k->¬O k/\k<w.heap.size
section
variable {w w':World}{N M S L n:Nat}{F:Nat->Prop}{b b':BM}
theorem BF.of (O:Nat->Prop)(h:BW w N O M S L n b):BF w N (λ_=>False) M S L n b:=⟨O,h,λ_ h=>h.elim⟩
theorem BF.below (h:BF w N F M S L n b)(c:Below w.heap.size w w'):BF w' N F M S L n b:=by
 obtain⟨O,h1,h2⟩:=h
 exact⟨O,h1.below c,λk hk=>⟨(h2 k hk).1,Nat.lt_of_lt_of_le (h2 k hk).2 c.size⟩⟩
theorem BF.add (h:BF w N F M S L n b)(c:Below w.heap.size w w'){E:Nat}(h1:w.heap.size<=E)(h2:E<w'.heap.size):BF w' N (λk=>F k\/k=E) M S L n b:=by
 obtain⟨O,q1,q2⟩:=h
 refine⟨O,q1.below c,λk hk=>?_⟩
 rcases hk with hk|rfl
 ·exact⟨(q2 k hk).1,Nat.lt_of_lt_of_le (q2 k hk).2 c.size⟩
 ·exact⟨λhO=>by have:=(q1.oN k hO).2;omega,h2⟩
theorem BF.less {F':Nat->Prop}(h:BF w N F M S L n b)(hF:∀k,F' k->F k):BF w N F' M S L n b:=by
 obtain⟨O,q1,q2⟩:=h
 exact⟨O,q1,λk hk=>q2 k (hF k hk)⟩
theorem BF.lt (h:BF w N F M S L n b):∀k,F k->k<w.heap.size:=by obtain⟨O,q1,q2⟩:=h;exact λk hk=>(q2 k hk).2
theorem BF.rnd (h:BF w N F M S L n b):Ms.Rnd w:=by obtain⟨O,q1,q2⟩:=h;exact q1.rnd
theorem BF.pos (h:BF w N F M S L n b):0<w.heap.size:=by obtain⟨O,q1,q2⟩:=h;exact q1.pos
theorem BF.N_le (h:BF w N F M S L n b):N<=w.heap.size:=by obtain⟨O,q1,q2⟩:=h;exact q1.N_le
structure BL (w w':World)(N:Nat)(F:Nat->Prop)(M S L n:Nat)(b:BM):Prop where
 bf:BF w' N F M S L n b
 ch:Ch (λk=>¬F k) w w'
 bel:Below N w w'
theorem MLeft.bl {O:Nat->Prop}{n':Nat}(h:MLeft w w' N O M S L n b')(h1:BW w N O M S L n' b)(h2:∀k,F k->¬O k/\k<w.heap.size):BL w w' N F M S L n b':=by
 have hb:=h1.below_of (by obtain⟨_,_,_,c⟩:=h;exact c)
 obtain⟨O',q1,q2,q3⟩:=h
 exact⟨⟨O',q2,λk hk=>⟨λhO=>(q1 k hO).elim (h2 k hk).1 (λq=>by have:=(h2 k hk).2;omega),Nat.lt_of_lt_of_le (h2 k hk).2 q3.size⟩⟩,q3.mono (λi hi _ hF=>(h2 i hF).1 hi),hb⟩
def LR (w:World)(N:Nat)(F:Nat->Prop)(M S L n:Nat)(r:Int×BM)(e:Ending)(w':World):Prop:=e=.returned (.int .i64 r.1)/\BL w w' N F M S L n r.2
theorem BF.lift (h:BF w N F M S L n b){f:FuncId}{args:Array Value}{n':Nat}{r:Int×BM}(c:∀O,BW w N O M S L n b->Calls Tryz.prog f args w (MR w N O M S L n' r)):Calls Tryz.prog f args w (LR w N F M S L n' r):=by
 obtain⟨O,q1,q2⟩:=h
 exact(c O q1).mono λe w' h=>⟨h.1,h.2.bl q1 q2⟩
theorem BF.setEntry (h:BF w N F M S L n b)(hb:b.st.blk<b.fl.B)(hn:n<1000)(i:Int){d:Str}(hd:d.length=32)(a:Bool)(k:Int) :
  Calls Tryz.prog 13 #[fptr M,.agg (Ms.arr 35 (ecl i d a k))] w (LR w N F M S L (n+1) (setEntryB b i d a k)):=h.lift λ_ q=>setEntry_any q hb hn i hd a k
theorem BF.setOrder (h:BF w N F M S L n b)(hb:b.st.blk<b.fl.B)(hn:n<1000){v:Value}{l:List Int}(hv:RdJ w v l) :
  Calls Tryz.prog 15 #[fptr M,v] w (LR w N F M S L (n+1) (setOrderB b l)):=h.lift λ_ q=>setOrder_any q hb hn hv
theorem BF.setNext (h:BF w N F M S L n b)(hb:b.st.blk<b.fl.B)(hn:n<1000)(i:Int) :
  Calls Tryz.prog 29 #[fptr M,.int .i64 i] w (LR w N F M S L (n+1) (setNextB b i)):=h.lift λ_ q=>setNext_any q hb hn i
theorem BF.deny (h:BF w N F M S L n b)(hb:b.st.blk<b.fl.B)(hn:n<1000){d:Str}(hd:d.length=32) :
  Calls Tryz.prog 21 #[fptr M,.agg (Ms.arr 32 (Ms.b8 (dgF d)))] w (LR w N F M S L (n+1) (denyB b d)):=h.lift λ_ q=>deny_any q hb hn hd
theorem BF.begin (h:BF w N F M S L n b)(hb:b.st.blk<b.fl.B)(hn:n<1000) :
  Calls Tryz.prog 16 #[fptr M] w (LR w N F M S L (n+1) (beginB b)):=h.lift λ_ q=>begin_any q hb hn
theorem BF.succ (h:BF w N F M S L n b)(hb:b.st.blk<b.fl.B)(hn:n<1000) :
  Calls Tryz.prog 18 #[fptr M] w (LR w N F M S L (n+1) (succB b)):=h.lift λ_ q=>succeeded_any q hb hn
theorem BF.put (h:BF w N F M S L n b)(hb:b.st.blk<b.fl.B)(hn:n<1000){ke va:ByteArray}(hke:ke.size<=1000000)(hva:va.size<=1000000){k v:Str}(ek:ke.data.toList=k)(ev:va.data.toList=v) :
  Calls Tryz.prog 43 #[fptr S,.string ke,.string va] w (LR w N F M S L (n+1) (setB b k v)):=h.lift λ_ q=>q.setB hb hn hke hva ek ev
def LT (w:World)(N:Nat)(F:Nat->Prop)(M S L n:Nat)(r:(Int×Int)×Int×BM)(e:Ending)(w':World):Prop:=e=.returned (.tuple #[.agg #[.int .i64 r.1.1,.int .i64 r.1.2],.int .i64 r.2.1])/\BL w w' N F M S L n r.2.2
theorem BF.try (h:BF w N F M S L n b)(hb:b.st.blk<b.fl.B)(hn:n<1000)(hc:∀x∈b.cand,isId x=true)(hes:b.es.length<256)(hlg:b.log.length<=1000){v:Value}{l:List ByteArray}(hv:RdT w v l)(hvF:∀g,v.ownBlock=some g->F g)(hs:∀x∈l,x.size<=1073741824) :
  Calls Tryz.prog 17 #[fptr M,v] w (LT w N F M S L (n+1) (tryB b l)):=by
 obtain⟨O,q1,q2⟩:=h
 exact(try_any q1 hb hn hc hes hlg hv (λg hg=>(q2 g (hvF g hg)).1) hs).mono λe w' h=>⟨h.1,h.2.bl q1 q2⟩
theorem BF.entry (h:BF w N F M S L n b)(i:Int):Calls Tryz.prog 19 #[fptr M,.int .i64 i] w λe w'=>e=.returned (entT b.st.V i)/\Below w.heap.size w w':=by
 obtain⟨O,q1,q2⟩:=h;exact bentry_any q1 i
theorem BF.order (h:BF w N F M S L n b):Calls Tryz.prog 27 #[fptr M] w (NewI w (ordV b.st.V)):=by
 obtain⟨O,q1,q2⟩:=h;exact order_any q1
theorem BF.denied (h:BF w N F M S L n b):Calls Tryz.prog 23 #[fptr M] w (NewD w (denV b.st.V)):=by
 obtain⟨O,q1,q2⟩:=h;exact denied_any q1
theorem BF.log (h:BF w N F M S L n b)(hl:b.log.length<=1000):Calls Tryz.prog 47 #[fptr M] w (NewS w b.log):=by
 obtain⟨O,q1,q2⟩:=h;exact blog_any q1 hl
theorem BF.events (h:BF w N F M S L n b)(hl:b.es.length<=1000):Calls Tryz.prog 28 #[fptr L] w (Ms.NewE w b.es):=by
 obtain⟨O,q1,q2⟩:=h;exact Ms.events_any N L b.es w q1.log hl
end
theorem rdT_new (w:World)(cs:Array Value)(l:List ByteArray)(h:cs.toList=l.map Value.string)(hl:l.length<=1000):RdT (w.alloc (.cells cs 9)) (.slice (some ⟨w.heap.size,0,none⟩) l.length l.length) l:=by
 refine⟨_,_,rfl,Nat.le_refl _,by unfold maxLen;omega,λg hg=>?_,λ_=>⟨w.heap.size,0,rfl,λi x hx=>?_⟩⟩
 ·have e:w.heap.size=g:=by simpa[Value.ownBlock] using hg
  rw[<-e];simp
 ·rw[Nat.zero_add,cell_of_row (w.alloc (.cells cs 9)) w.heap.size i cs _ (0,0) (heap_alloc_new w _),<-Array.getElem?_toList,h,List.getElem?_map,hx]
  rfl
theorem rdI_new (w:World)(cs:Array Value)(l:List Int)(h:cs.toList=ints l)(hl:l.length<=1000):RdI (w.alloc (.cells cs 3)) (.slice (some ⟨w.heap.size,0,none⟩) l.length l.length) l:=by
 refine⟨_,_,rfl,Nat.le_refl _,by unfold maxLen;omega,λg hg=>?_,λ_=>⟨w.heap.size,0,rfl,λi x hx=>?_⟩⟩
 ·have e:w.heap.size=g:=by simpa[Value.ownBlock] using hg
  rw[<-e];simp
 ·rw[Nat.zero_add,cell_of_row (w.alloc (.cells cs 3)) w.heap.size i cs _ (0,0) (heap_alloc_new w _),<-Array.getElem?_toList,h]
  unfold ints
  rw[List.getElem?_map,hx]
  rfl
end
end Go.Proofs.YtdinbpdpalgohaaGreatDoor
