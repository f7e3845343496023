/- Walks and laws: S T U V W RP. Conditions: those that each theorem names. -/
import Derived.Test.YtdinbpdpalgohaaGreatDoorX3
set_option maxHeartbeats 2000000
set_option maxRecDepth 100000
namespace Go.Proofs.YtdinbpdpalgohaaGreatDoor
open Go.RowKit
section
def recs (V:Vars):List Str:=V.map λp=>recd 1 p.1 p.2
def sumP:List Str->Nat
 | []=>0
 | r::l=>pgs r.length+sumP l
theorem sumP_append (a b:List Str):sumP (a++b)=sumP a+sumP b:=by
 induction a with
 | nil=>simp[sumP]
 | cons r l ih=>simp only[List.cons_append,sumP,ih];omega
theorem sumP_take {l:List Str}{i:Nat}(h:i<l.length):sumP (l.take (i+1))=sumP (l.take i)+pgs (l[i]).length:=by
 rw[List.take_succ_eq_append_getElem h,sumP_append];simp[sumP]
theorem sumP_le (l:List Str)(i:Nat):sumP (l.take i)<=sumP l:=by
 have h:=sumP_append (l.take i) (l.drop i)
 rw[List.take_append_drop] at h
 omega
theorem bsz (s:ByteArray):s.size=s.data.toList.length:=rfl
theorem recd_len (k:Nat)(n v:Str):(recd k n v).length=5+n.length+v.length:=by
 simp[recd];omega
def wrAll:FL->Nat->Nat->List Str->Int×FL×Nat
 | fl,_,p,[]=>(0,fl,p)
 | fl,b,p,r::l=>if (wrL fl b p (pagesR r)).1=0 then wrAll (wrL fl b p (pagesR r)).2 b (p+pgs r.length) l else ((wrL fl b p (pagesR r)).1,(wrL fl b p (pagesR r)).2,p)
def prepF (fl:FL)(t:Nat×Bool×Bool):Int×FL:=if t.2.1=true then (0,fl) else eraseF fl t.1
def cmpF (fl:FL)(st:ST)(V:Vars):Int×FL×ST:=
 if fl.P<1+sumP (recs V) then (8,fl,st) else
 if (tgtF fl st.blk).2.2=false then (8,fl,st) else
 if (prepF fl (tgtF fl st.blk)).1≠0 then ((prepF fl (tgtF fl st.blk)).1,(prepF fl (tgtF fl st.blk)).2,st) else
 if (wrAll (prepF fl (tgtF fl st.blk)).2 (tgtF fl st.blk).1 1 (recs V)).1≠0 then ((wrAll (prepF fl (tgtF fl st.blk)).2 (tgtF fl st.blk).1 1 (recs V)).1,(wrAll (prepF fl (tgtF fl st.blk)).2 (tgtF fl st.blk).1 1 (recs V)).2.1,st) else
 if (wrL (wrAll (prepF fl (tgtF fl st.blk)).2 (tgtF fl st.blk).1 1 (recs V)).2.1 (tgtF fl st.blk).1 0 (pagesR (hdr ((st.gen+1)%18446744073709551616)))).1≠0 then
  ((wrL (wrAll (prepF fl (tgtF fl st.blk)).2 (tgtF fl st.blk).1 1 (recs V)).2.1 (tgtF fl st.blk).1 0 (pagesR (hdr ((st.gen+1)%18446744073709551616)))).1,(wrL (wrAll (prepF fl (tgtF fl st.blk)).2 (tgtF fl st.blk).1 1 (recs V)).2.1 (tgtF fl st.blk).1 0 (pagesR (hdr ((st.gen+1)%18446744073709551616)))).2,st)
 else (0,(wrL (wrAll (prepF fl (tgtF fl st.blk)).2 (tgtF fl st.blk).1 1 (recs V)).2.1 (tgtF fl st.blk).1 0 (pagesR (hdr ((st.gen+1)%18446744073709551616)))).2,
  ⟨V,(tgtF fl st.blk).1,(st.gen+1)%18446744073709551616,(wrAll (prepF fl (tgtF fl st.blk)).2 (tgtF fl st.blk).1 1 (recs V)).2.2,false⟩)
theorem wrL_same:∀(cs:List Str) (fl:FL) (b p:Nat),(wrL fl b p cs).2.B=fl.B/\(wrL fl b p cs).2.P=fl.P
 | [],_,_,_=>⟨rfl,rfl⟩
 | c::r,fl,b,p=>by
  have h:=progF_same fl b p c
  unfold wrL
  split
  ·have:=wrL_same r (progF fl b p c).2 b (p+1)
   exact⟨this.1.trans h.1,this.2.trans h.2⟩
  ·exact h
theorem eraseF_same (fl:FL)(b:Nat):(eraseF fl b).2.B=fl.B/\(eraseF fl b).2.P=fl.P:=by
 have h:=intF_same (fl.erd b (fl.er b+1))
 unfold eraseF
 split
 ·exact⟨rfl,rfl⟩
 ·split
  ·exact⟨rfl,rfl⟩
  ·split
   ·exact⟨h.1,h.2.1⟩
   ·exact⟨h.1,h.2.1⟩
section
variable {fl:FL}{st:ST}{V:Vars}{p t:Nat}{bl:Bool}{f1 f2 f3:FL}{e:Int}{p':Nat}
theorem cmp1 (hp:1+sumP (recs V)=p)(h:fl.P<p):cmpF fl st V=(8,fl,st):=by
 unfold cmpF;rw[if_pos (by omega)]
theorem cmp2 (hp:1+sumP (recs V)=p)(h:¬fl.P<p)(ht:tgtF fl st.blk=(t,bl,false)):cmpF fl st V=(8,fl,st):=by
 unfold cmpF;rw[if_neg (by omega),ht,if_pos rfl]
theorem cmp3 (hp:1+sumP (recs V)=p)(h:¬fl.P<p)(ht:tgtF fl st.blk=(t,bl,true))(h1:prepF fl (t,bl,true)=(e,f1))(he:e≠0):cmpF fl st V=(e,f1,st):=by
 unfold cmpF;rw[if_neg (by omega),ht,if_neg (by simp),h1,if_pos he]
theorem cmp4 (hp:1+sumP (recs V)=p)(h:¬fl.P<p)(ht:tgtF fl st.blk=(t,bl,true))(h1:prepF fl (t,bl,true)=(0,f1))(h2:wrAll f1 t 1 (recs V)=(e,f2,p'))(he:e≠0):cmpF fl st V=(e,f2,st):=by
 unfold cmpF;rw[if_neg (by omega),ht,if_neg (by simp),h1,if_neg (by simp),h2,if_pos he]
theorem cmp5 (hp:1+sumP (recs V)=p)(h:¬fl.P<p)(ht:tgtF fl st.blk=(t,bl,true))(h1:prepF fl (t,bl,true)=(0,f1))(h2:wrAll f1 t 1 (recs V)=(0,f2,p'))
  (h3:wrL f2 t 0 (pagesR (hdr ((st.gen+1)%18446744073709551616)))=(e,f3)) (he:e≠0):cmpF fl st V=(e,f3,st):=by
 unfold cmpF;rw[if_neg (by omega),ht,if_neg (by simp),h1,if_neg (by simp),h2,if_neg (by simp),h3,if_pos he]
theorem cmp6 (hp:1+sumP (recs V)=p)(h:¬fl.P<p)(ht:tgtF fl st.blk=(t,bl,true))(h1:prepF fl (t,bl,true)=(0,f1))(h2:wrAll f1 t 1 (recs V)=(0,f2,p'))
  (h3:wrL f2 t 0 (pagesR (hdr ((st.gen+1)%18446744073709551616)))=(0,f3)):cmpF fl st V=(0,f3,⟨V,t,(st.gen+1)%18446744073709551616,p',false⟩):=by
 unfold cmpF;rw[if_neg (by omega),ht,if_neg (by simp),h1,if_neg (by simp),h2,if_neg (by simp),h3,if_neg (by simp)]
end
def mapOf (e:Int)(m' m:Nat):Nat:=if e=0 then m' else m
theorem SW.more {w:World}{D:Nat->Prop}{S X m n m' n':Nat}{st:ST}(h:SW w D S X m n st)(hm':m'<w.heap.size):SW w (λk=>D k\/k=m') S X m (max n n') st:=
 { h with map:=h.map.mono (Nat.le_max_left _ _),dS:=.inl h.dS,dm:=.inl h.dm,fin:=λk hk=>by rcases hk with hk|rfl;exact h.fin k hk;exact hm' }
theorem cmp_end {w w':World}{D DS:Nat->Prop}{S X m n m' n':Nat}{st:ST}{y:FLay}{fl f:FL}{V:Vars}{e:Int}(he:e≠0)(hc:cmpF fl st V=(e,f,st))(hf:FW w' D X y f)(c:Ch D w w')(hs:SW w DS S X m n st)(hm:SM w m' n' V)(hdis:∀k,D k->¬DS k) :
  Ending.returned (.int .i64 e)=.returned (.int .i64 (cmpF fl st V).1)/\FW w' D X y (cmpF fl st V).2.1/\Ch (λk=>D k\/DS k) w w' /\
   SW w' (λk=>DS k\/k=m') S X (mapOf (cmpF fl st V).1 m' m) (max n n') (cmpF fl st V).2.2:=by
 rw[hc]
 refine⟨rfl,hf,c.mono λi h _=>.inl h,?_⟩
 unfold mapOf
 rw[if_neg he]
 exact(hs.ch c λk h1 h2=>hdis k h2 h1).more (Nat.lt_of_lt_of_le hm.lt c.size)
section
variable {w:World}{D DS:Nat->Prop}{S X m n m' n':Nat}{st:ST}{y:FLay}{fl:FL}{V:Vars}
theorem compact_any (hs:SW w DS S X m n st)(h:FW w D X y fl)(ho:fl.off=false)(hdis:∀k,D k->¬DS k)(hm:SM w m' n' V)(hn':n'<=1000)(hV:Srt V)(hv:∀p∈V,p.1.length<=24/\p.2.length<=128)(hmD:¬D m')(hmS:¬DS m') :
  Calls Tryz.prog 148 #[fptr S,.map (some m')] w λe w'=>e=.returned (.int .i64 (cmpF fl st V).1)/\FW w' D X y (cmpF fl st V).2.1/\Ch (λk=>D k\/DS k) w w' /\
   SW w' (λk=>DS k\/k=m') S X (mapOf (cmpF fl st V).1 m' m) (max n n') (cmpF fl st V).2.2:=by
 obtain⟨i0,hi0,hx0,hx1,hx2⟩:=info_parts Tryz.infoS
 have HKY:=Hh (keys_any m' w)
 have HSO:=Hh (sorted_any hm hV hn')
 have H:=Hh h
 have HS:=Hh hs
 have HM:=Hh hm
 have HVV:=Hh hv
 have hP:=h.hP
 have hB:=h.hB
 have hVl:V.length<=1000:=by have:=hm.len hV;omega
 obtain⟨L,hL⟩:∃L,V.length=L:=⟨_,rfl⟩
 rw[hL] at HSO hVl
 have HLL:=Hh hL
 clear h hs hm hv hL
 go_enter Tryz.func148,Tryz.ntmps148
 go_wp2_with fail
 refine HKY.out.mono ?_
 rintro e w1 ⟨rfl,rfl⟩
 go_wp2_with fail
 refine HSO.out.mono ?_
 rintro e w2 ⟨a,cap,rfl,ha0,ha1,b2⟩
 have HA0:=Hh ha0
 have HA1:=Hh ha1
 have hmk:(Instr.makeSlice 37 (.int .i64 (L:Int)) (.int .i64 (L:Int))).run Tryz.prog w2=.ok (.slice (some ⟨w2.heap.size,0,none⟩) L L) (w2.alloc (.cells (madeCells (Value.string ⟨#[]⟩).cells L) 9)):=by
  have:=run_make (P:=Tryz.prog) w2 37 9 i0 (.string ⟨#[]⟩) Tryz.underlying37 hi0 hx0 .i64 .i64 (L:Int) (L:Int) (by omega) (by omega) (by rw[hx2];omega) (by omega)
  rw[hx1] at this
  simpa using this
 have R3:=Rg.made w2 9 L (.string ⟨#[]⟩) rfl
 have B3:Below w2.heap.size w2 (w2.alloc (.cells (madeCells (Value.string ⟨#[]⟩).cells L) 9)):=(Below.refl _ _).alloc (Nat.le_refl _) _
 obtain⟨w3,hw3⟩:∃w3,w2.alloc (.cells (madeCells (Value.string ⟨#[]⟩).cells L) 9)=w3:=⟨_,rfl⟩
 obtain⟨q,hq⟩:∃q,w2.heap.size=q:=⟨_,rfl⟩
 rw[hw3] at hmk R3 B3
 rw[hq] at hmk R3
 have hqw:w.heap.size<=q:=by rw[<-hq];exact b2.size
 have HR:Hid (Rg w3 q 9 L (λj=>if j<0 then str ((recs V).getD j []) else str [])):=R3.congr λj _=>by rw[if_neg (by omega)]
 have HB:Hid (Below w.heap.size w w3):=b2.trans (B3.mono b2.size)
 have HA3:Hid (V≠[]->∃g,a=some ⟨g,0,none⟩/\PS w3 g 0 cap (V.map (·.1))/\g≠q):=λhne=>by
  obtain⟨g,e,hg,hps⟩:=ha1 hne
  exact⟨g,e,hps.below B3,by have:=hps.1;omega⟩
 clear ha0 ha1 b2 R3 B3 HKY HSO HA1 HA0 hw3 hq
 go_wp2_with fail
 have HC0:Hid (1+sumP ((recs V).take 0)=1):=by show _=_;simp[sumP]
 have HSW:Hid (SW w DS S X m n st):=HS
 go_loopw [7,27] (λx7 z wr=>∃(i p:Nat),i<=L/\x7=.int .i64 (p:Int)/\z=.int .i64 (i:Int)/\Hid (1+sumP ((recs V).take i)=p/\p<=1+5*i)/\Hid (Rg wr q 9 L (λj=>if j<i then str ((recs V).getD j []) else str []))/\Hid (Below w.heap.size w wr)/\Hid (V≠[]->∃g,a=some ⟨g,0,none⟩/\PS wr g 0 cap (V.map (·.1))/\g≠q)) (λ_ z _=>L-(intOf z).toNat)
 case atStart=>exact⟨0,1,by omega,rfl,rfl,⟨HC0,by omega⟩,HR,HB,HA3⟩
 case round=>
  clear HC0 HR HB HA3
  obtain⟨i,p,hi,rfl,rfl,HP,HR,HB,HA3⟩:=hrel
  by_cases hlt:i<L
  ·have y0:(i:Int)<L:=by omega
   have hiV:i<V.length:=by rw[HLL.out];exact hlt
   have hne:V≠[]:=by intro e;rw[e] at hiV;cases hiV
   obtain⟨g,rfl,hps,hgq⟩:=HA3.out hne
   have hc:=hps.2.2.2 i (by rw[List.length_map];exact hiV)
   have hgd:(V.map (·.1)).getD i []=(V[i]).1:=by rw[List.getD_eq_getElem?_getD,List.getElem?_map,List.getElem?_eq_getElem hiV];rfl
   rw[Nat.zero_add,hgd] at hc
   obtain⟨ke,hke⟩:∃s:ByteArray,s=⟨(V[i]).1.toArray⟩:=⟨_,rfl⟩
   obtain⟨ve,hve⟩:∃s:ByteArray,s=⟨(V[i]).2.toArray⟩:=⟨_,rfl⟩
   have hkl:ke.data.toList=(V[i]).1:=by rw[hke]
   have hvl:ve.data.toList=(V[i]).2:=by rw[hve]
   have hlen:=HVV.out V[i] (List.getElem_mem hiV)
   have hks:ke.size=(V[i]).1.length:=by rw[hke];show(V[i].1.toArray).size=_;simp
   have hvs:ve.size=(V[i]).2.length:=by rw[hve];show(V[i].2.toArray).size=_;simp
   rw[show str (V[i]).1=.string ke by rw[hke]] at hc
   have hlk:=(HM.out.ch (Ch.of_below HB.out (λ_=>False)) id).look1 (s:=ke) (by rw[hks];unfold maxLen;omega)
   rw[hkl,getV_mem hV (List.getElem_mem hiV)] at hlk
   rw[show str ((some (V[i]).2).getD [])=.string ve by rw[hve];rfl] at hlk
   have HEN:=Hh (encode_any 1 ke ve wr (by omega) (by omega) (by omega))
   obtain⟨re,hre⟩:∃s:ByteArray,s=⟨(recd 1 (V[i]).1 (V[i]).2).toArray⟩:=⟨_,rfl⟩
   rw[hkl,hvl,<-hre] at HEN
   have hrl:re.data.toList=recd 1 (V[i]).1 (V[i]).2:=by rw[hre]
   have hrs:re.size=(recd 1 (V[i]).1 (V[i]).2).length:=by rw[hre];show((recd 1 V[i].1 V[i].2).toArray).size=_;simp
   have hrsz:re.size<=157:=by rw[hrs,recd_len];omega
   have hil:i<(recs V).length:=by unfold recs;rw[List.length_map];exact hiV
   have hrg:(recs V)[i]=recd 1 (V[i]).1 (V[i]).2:=by simp[recs]
   have HG:Hid ((recs V).getD i []=re.data.toList/\sumP ((recs V).take (i+1))=sumP ((recs V).take i)+pgs re.size):=⟨by rw[hrl,<-hrg,List.getD_eq_getElem?_getD,List.getElem?_eq_getElem hil];rfl,by rw[sumP_take hil,hrg,hrs]⟩
   have HPS:=Hh hps
   have HGQ:=Hh hgq
   clear hps hkl hvl hre hrl hrs hil hrg hke hve hgd hne hlen hks hvs
   go_wp2_with fail
   refine HEN.out.mono ?_
   rintro e w4 ⟨rfl,b4⟩
   have hb4:=HB.out.size
   have r4:=HR.out.ch (Ch.of_below b4 (λ_=>False)) id
   have f4:=r4.frozen i
   have z4:=r4.cell hlt
   rw[if_neg (Nat.lt_irrefl i)] at z4
   have r5:=r4.set hlt (.string re)
   have c5:Ch (λx=>x=q) wr (w4.setCell ⟨q,i,none⟩ (.string re)):=(Ch.of_below b4 (λx=>x=q)).setCell (p:=⟨q,i,none⟩) (λ_=>rfl) _
   have z5:(w4.setCell ⟨q,i,none⟩ (.string re)).cell? ⟨q,i,none⟩=some (.string re):=by rw[r5.cell hlt];simp[upd]
   have b5:Below w.heap.size w (w4.setCell ⟨q,i,none⟩ (.string re)):=((HB.out.trans (b4.mono hb4))).setCell hqw _
   have HR5:Hid (Rg (w4.setCell ⟨q,i,none⟩ (.string re)) q 9 L (λj=>if j<i+1 then str ((recs V).getD j []) else str [])):=r5.congr λj hj=>by
    unfold upd
    dsimp only
    rcases(by omega:j<i\/j=i\/i<j) with h1|h1|h1
    ·rw[if_neg (by omega),if_pos h1,if_pos (by omega)]
    ·rw[if_pos h1,if_pos (by omega),h1,HG.out.1]
    ·rw[if_neg (by omega),if_neg (by omega),if_neg (by omega)]
   have HB5:=Hh b5
   have HA5:Hid (V≠[]->∃g',(some ⟨g,0,none⟩:Option Addr)=some ⟨g',0,none⟩/\PS (w4.setCell ⟨q,i,none⟩ (.string re)) g' 0 cap (V.map (·.1))/\g'≠q):=λ_=>⟨g,rfl,HPS.out.ch c5 HGQ.out,HGQ.out⟩
   obtain⟨HP1,HP2⟩:=HP.out
   have hpgl:pgs re.size<=5:=by unfold pgs;omega
   have HPO:=Hh (pagesOf_any re.size (w4.setCell ⟨q,i,none⟩ (.string re)) (by omega))
   obtain⟨np,hnp⟩:∃np,pgs re.size=np:=⟨_,rfl⟩
   rw[hnp] at HPO hpgl
   have HP5:Hid (1+sumP ((recs V).take (i+1))=p+np/\p+np<=1+5*(i+1)):=⟨by rw[HG.out.2,hnp];omega,by omega⟩
   clear r4 r5 c5 b5 HR HB HA3 HPS HP hnp HG HP1
   go_wp2_with fail
   refine HPO.out.mono ?_
   rintro e w6 ⟨rfl,rfl⟩
   clear z4 z5 f4
   generalize w4.setCell ⟨q,i,none⟩ (.string re)=w6 at *
   go_wp2_with fail
   go_roundw
   case rel=>exact⟨i+1,p+np,by omega,by go_num,by go_num,HP5,HR5,HB5,HA5⟩
   case measure=>simp[intOf];omega
  ·have:i=L:=by omega
   subst this
   clear hmk
   obtain⟨hp1,hp2⟩:=HP.out
   have hrl:(recs V).length=i:=by have:=HLL.out;unfold recs;rw[List.length_map];exact this
   rw[List.take_of_length_le (by omega)] at hp1
   have HRL:=Hh hrl
   have HSUM:=Hh hp1
   have HRQ:Hid (Rg wr q 9 i (λj=>str ((recs V).getD j []))):=HR.out.congr λj hj=>by rw[if_pos hj]
   have HBW:Hid (Ch D w wr):=Ch.of_below HB.out D
   have S1:=Hh (HS.out.below HB.out)
   have F1:=Hh (H.out.below HB.out)
   have c0:=S1.out.c0
   have HSH:=Hh (shape_any F1.out)
   clear HP HR hp1 hp2 hrl HA3 HB
   by_cases hfl:fl.P<p
   ·have hflI:(fl.P:Int)<p:=by omega
    have HE:=Hh (cmp1 (st:=st) HSUM.out hfl)
    go_wp2_with fail
    refine HSH.out.mono ?_
    rintro e w2 ⟨rfl,b2⟩
    have hfp:=field_P (.int .i64 fl.B) (.int .i64 fl.P) (.int .i64 fl.E) w2
    go_wp2_with fail
    go_ret
    exact cmp_end (by omega) HE.out (F1.out.below b2) (HBW.out.trans (Ch.of_below b2 D)) HS.out HM.out hdis
   ·have hflI:¬(fl.P:Int)<p:=by omega
    go_wp2_with fail
    refine HSH.out.mono ?_
    rintro e w2 ⟨rfl,b2⟩
    have hfp:=field_P (.int .i64 fl.B) (.int .i64 fl.P) (.int .i64 fl.E) w2
    have HT:=Hh (target_any (S1.out.below b2) (F1.out.below b2) ho)
    have F2:=Hh (F1.out.below b2)
    have S2:=Hh (S1.out.below b2)
    have C2:Hid (Ch D w w2):=HBW.out.trans (Ch.of_below b2 D)
    have R2:Hid (Rg w2 q 9 i (λj=>str ((recs V).getD j []))):=HRQ.out.ch (Ch.of_below b2 (λ_=>False)) id
    obtain⟨t,bl,fd,htg⟩:∃t bl fd,tgtF fl st.blk=(t,bl,fd):=⟨_,_,_,rfl⟩
    rw[htg] at HT
    have HTG:=Hh htg
    have htB:t<fl.B:=by
     have:=tgtK_lt fl st.blk fl.B
     rw[show tgtK fl st.blk fl.B=(t,bl,fd) from htg] at this
     simp only at this
     omega
    clear F1 S1 HBW HRQ b2 htg HSH
    go_wp2_with fail
    refine HT.out.mono ?_
    rintro e w3 ⟨rfl,b3⟩
    have F3:=Hh (F2.out.below b3)
    have S3:=Hh (S2.out.below b3)
    have C3:Hid (Ch D w w3):=C2.out.trans (Ch.of_below b3 D)
    have R3:Hid (Rg w3 q 9 i (λj=>str ((recs V).getD j []))):=R2.out.ch (Ch.of_below b3 (λ_=>False)) id
    clear F2 S2 C2 R2 b3 HT hfp
    cases fd
    ·have HE:=Hh (cmp2 (st:=st) HSUM.out hfl HTG.out)
     go_wp2_with fail
     go_ret
     exact cmp_end (by omega) HE.out F3.out C3.out HS.out HM.out hdis
    ·have c3:=S3.out.c0
     go_upto_if 66 with fail
     go_cut [13] (λx13 wx=>∃f1,Hid (prepF fl (t,bl,true)=(0,f1)/\FW wx D X y f1/\Ch D w wx/\Rg wx q 9 i (λj=>str ((recs V).getD j []))/\f1.B=fl.B/\f1.P=fl.P))
     case first=>
      cases bl
      ·have HER:=Hh (erase_any F3.out htB)
       obtain⟨e,f1,hef⟩:∃e f1,eraseF fl t=(e,f1):=⟨_,_,rfl⟩
       have hsame:=eraseF_same fl t
       rw[hef] at HER hsame
       have HSM:=Hh hsame
       have HPR:Hid (prepF fl (t,false,true)=(e,f1)):=by show _=_;unfold prepF;rw[if_neg (by simp)];exact hef
       clear hef hsame
       by_cases he:e=0
       ·subst he
        go_wp2_with fail
        refine HER.out.mono ?_
        rintro e w4 ⟨rfl,h4,c4⟩
        go_wp2_with fail
        go_meet
        exact⟨f1,HPR.out,h4,C3.out.trans c4,R3.out.ch c4 (λhq=>by have:=H.out.fin q hq;omega),HSM.out.1,HSM.out.2⟩
       ·have hed:(e==0)=false:=by simpa using he
        have HE:=Hh (cmp3 (st:=st) HSUM.out hfl HTG.out HPR.out he)
        go_wp2_with fail
        refine HER.out.mono ?_
        rintro e w4 ⟨rfl,h4,c4⟩
        go_wp2_with fail
        go_ret
        exact cmp_end he HE.out h4 (C3.out.trans c4) HS.out HM.out hdis
      ·go_wp2_with fail
       go_meet
       exact⟨fl,rfl,F3.out,C3.out,R3.out,rfl,rfl⟩
     case rest=>
      obtain⟨f1,hc⟩:=hcut
      obtain⟨hpr,h4,c4,r4,hB1,hP1⟩:=hc.out
      have HPR:=Hh hpr
      have HW0:Hid (∃f,FW wc D X y f/\f.B=fl.B/\f.P=fl.P/\wrAll f1 t 1 (recs V)=wrAll f t 1 ((recs V).drop 0)):=⟨f1,h4,hB1,hP1,rfl⟩
      have HP0:Hid (1=1+sumP ((recs V).take 0)):=by show _=_;simp[sumP]
      have HC4:=Hh c4
      have HR4:=Hh r4
      clear hc hpr h4 c4 r4 hB1 hP1 F3 S3 C3 R3 c3 c0
      go_wp2_with fail
      go_loopw [14,78] (λx14 z wr=>∃(j p2:Nat),j<=i/\x14=.int .i64 (p2:Int)/\z=.int .i64 (j:Int)/\Hid (p2=1+sumP ((recs V).take j))/\Hid (∃f,FW wr D X y f/\f.B=fl.B/\f.P=fl.P/\wrAll f1 t 1 (recs V)=wrAll f t p2 ((recs V).drop j))/\Hid (Ch D w wr)/\Hid (Rg wr q 9 i (λj=>str ((recs V).getD j [])))) (λ_ z _=>i-(intOf z).toNat)
      case atStart=>exact⟨0,1,by omega,rfl,rfl,HP0,HW0,HC4,HR4⟩
      case round=>
       clear HP0 HW0 HC4 HR4
       obtain⟨j,p2,hj,rfl,rfl,HP2,HF,HC,HR⟩:=hrel
       by_cases hlt2:j<i
       ·have y0:(j:Int)<i:=by omega
        have hjl:j<(recs V).length:=by rw[HRL.out];exact hlt2
        have hgd:(recs V).getD j []=(recs V)[j]:=by rw[List.getD_eq_getElem?_getD,List.getElem?_eq_getElem hjl];rfl
        have hz:=HR.out.cell hlt2
        obtain⟨re,hre⟩:∃s:ByteArray,s=⟨((recs V).getD j []).toArray⟩:=⟨_,rfl⟩
        rw[show str ((recs V).getD j [])=.string re by rw[hre]] at hz
        have hrl:re.data.toList=(recs V)[j]:=by rw[hre,<-hgd]
        have hrs:re.size=((recs V)[j]).length:=by rw[<-hrl];exact bsz _
        have hrz:re.size<=157:=by
         obtain⟨x,hx,hx2⟩:=List.mem_map.1 (List.getElem_mem hjl)
         have:=HVV.out x hx
         rw[hrs,<-hx2,recd_len]
         omega
        have hst:=sumP_take hjl
        rw[<-hrs] at hst
        have hsl:=sumP_le (recs V) (j+1)
        obtain⟨f,hf,fB,fP,hwr⟩:=HF.out
        have hdr:(recs V).drop j=(recs V)[j]::(recs V).drop (j+1):=List.drop_eq_getElem_cons hjl
        have hs0:=(HS.out.ch HC.out λk h1 h2=>hdis k h2 h1).c0
        have HWR:=Hh (write_any hf (b:=t) (p:=p2) (d:=re) (by rw[fB];exact htB) (by omega) (by rw[fP];have:=HP2.out;have:=HSUM.out;omega))
        obtain⟨e,f',hef⟩:∃e f',wrL f t p2 (pagesR re.data.toList)=(e,f'):=⟨_,_,rfl⟩
        have hsame:=wrL_same (pagesR re.data.toList) f t p2
        rw[hef] at HWR hsame
        rw[hdr,wrAll,<-hrl,hef] at hwr
        by_cases he:e=0
        ·subst he
         rw[if_pos rfl] at hwr
         have HPO:=Hh (λ X=>pagesOf_any re.size X (by omega))
         have hpgl:pgs re.size<=5:=by unfold pgs;omega
         obtain⟨np,hnp⟩:∃np,pgs re.size=np:=⟨_,rfl⟩
         rw[<-bsz] at hwr
         rw[hnp] at HPO hst hpgl hwr
         have HWN:=Hh hwr
         have HP3:Hid (p2+np=1+sumP ((recs V).take (j+1))):=by have:=HP2.out;show _=_;omega
         have HSM:Hid (f'.B=fl.B/\f'.P=fl.P):=⟨hsame.1.trans fB,hsame.2.trans fP⟩
         have hp2l:p2+np<=33:=by have:=HP3.out;have:=HSUM.out;omega
         clear hjl hgd hre hrl hrs hst hsl hf fB fP hwr hdr hef hsame hnp HF
         go_wp2_with fail
         refine HWR.out.mono ?_
         rintro e w5 ⟨rfl,h5,c5⟩
         have HF5:=Hh h5
         have HC5:Hid (Ch D w w5):=HC.out.trans c5
         have HR5:Hid (Rg w5 q 9 i (λj=>str ((recs V).getD j []))):=HR.out.ch c5 (λhq=>by have:=H.out.fin q hq;omega)
         clear h5 c5 HC HR hz hs0
         go_wp2_with fail
         refine(HPO.out w5).mono ?_
         rintro e w6 ⟨rfl,rfl⟩
         go_wp2_with fail
         go_roundw
         case rel=>exact⟨j+1,p2+np,by omega,by go_num,by go_num,HP3,⟨f',HF5.out,HSM.out.1,HSM.out.2,HWN.out⟩,HC5,HR5⟩
         case measure=>simp[intOf];omega
        ·rw[if_neg he] at hwr
         have hed:(e==0)=false:=by simpa using he
         have HE:=Hh (cmp4 (st:=st) HSUM.out hfl HTG.out HPR.out hwr he)
         clear hjl hgd hre hrl hrs hst hsl hf fB fP hwr hdr hef hsame HF
         go_wp2_with fail
         refine HWR.out.mono ?_
         rintro e w5 ⟨rfl,h5,c5⟩
         go_wp2_with fail
         go_ret
         exact cmp_end he HE.out h5 (HC.out.trans c5) HS.out HM.out hdis
       ·have:j=i:=by omega
        obtain⟨f,hf,fB,fP,hwr⟩:=HF.out
        rw[this,List.drop_of_length_le (by rw[HRL.out];omega),wrAll] at hwr
        have HWA:=Hh hwr
        clear HF hwr
        obtain⟨g2,hg2⟩:∃g2,(st.gen+1)%18446744073709551616=g2:=⟨_,rfl⟩
        have hgl:=(HS.out).hg
        have hsw:=HS.out.ch HC.out λk h1 h2=>hdis k h2 h1
        have S28:Hid (wr.drew.cell? ⟨S,0,none⟩=some (fptr X)/\wr.drew.cell? ⟨S,3,none⟩=some (.int .u64 st.gen)):=⟨hsw.c0,hsw.c3⟩
        have HC2:Hid (Ch D w wr.drew):=HC.out.drew
        have HF2:=Hh hf.drew
        obtain⟨hd,hhd⟩:∃s:ByteArray,s=⟨(hdr g2).toArray⟩:=⟨_,rfl⟩
        have hdl:hd.data.toList=hdr g2:=by rw[hhd]
        have hdz:hd.size=13:=by rw[bsz,hdl];unfold hdr;rw[recd_len];simp[be8]
        have HHD:=Hh (header_any g2 wr.drew)
        rw[show str (hdr g2)=.string hd by rw[hhd]] at HHD
        obtain⟨e3,f3,he3⟩:∃e f',wrL f t 0 (pagesR (hdr g2))=(e,f'):=⟨_,_,rfl⟩
        have HWR:Hid (∀V1,FW V1 D X y f->Calls Tryz.prog 90 #[fptr X,.int .i64 t,.int .i64 0,.string hd] V1 λe w'=>e=.returned (.int .i64 e3)/\FW w' D X y f3/\Ch D V1 w'):=λ V1 hV1=>by
         have:=write_any hV1 (b:=t) (p:=0) (d:=hd) (by rw[fB];exact htB) (by omega) (by rw[fP,hdz];unfold pgs;omega)
         rw[hdl,he3] at this
         exact this
        have HE3:=Hh he3
        have hDS:¬D S:=λh=>hdis _ h HS.out.dS
        have hgI:IntKind.u64.wrap ((st.gen:Int)+1)=(g2:Int):=by rw[IntKind.wrap_u64];omega
        have HG2:=Hh hg2
        clear hsw hf HC hhd hdl he3 hg2
        obtain⟨gen,hgen⟩:∃gen,st.gen=gen:=⟨_,rfl⟩
        rw[hgen] at S28 hgI hgl HG2
        have HGEN:=Hh hgen
        clear hgen
        go_wp2_with fail
        refine wp_region_pl (λ Y=>Y.cell? ⟨S,0,none⟩=some (fptr X)/\Y.cell? ⟨S,3,none⟩=some (.int .u64 gen)) ((0,0)::(1,0)::(2,0)::(3,0)::(4,0)::(5,0)::(6,0)::(7,0)::(8,0)::(9,0)::(10,1)::(11,1)::(12,0)::[]) (by kernel_rfl) (by kernel_rfl) ?_
        iterate 10 (apply wpP_go;rfl;rfl;exact S28.out;(rintro Z ⟨s0,s1⟩;go_simp;exact rfl);intro K hK;go_simp;refine hK _ ?_;clear hK K)
        apply wpP_one
        rfl
        intro K hK
        go_simp
        refine HHD.out.mono ?_
        rintro e V1 ⟨rfl,b1⟩
        have HF3:=Hh (HF2.out.below b1)
        have HC3:Hid (Ch D w V1):=HC2.out.trans (Ch.of_below b1 D)
        have S29:Hid (V1.cell? ⟨S,0,none⟩=some (fptr X)/\V1.cell? ⟨S,3,none⟩=some (.int .u64 gen)):=⟨cell_later b1 S28.out.1,cell_later b1 S28.out.2⟩
        refine hK _ _ S29.out ?_
        clear hK K b1 S28 HF2 HC2 HHD
        apply wpP_one
        rfl
        intro K hK
        go_simp
        refine(HWR.out V1 HF3.out).mono ?_
        rintro e V2 ⟨rfl,h5,c5⟩
        have HF4:=Hh h5
        have HC4:Hid (Ch D w V2):=HC3.out.trans c5
        have S30:Hid (V2.cell? ⟨S,0,none⟩=some (fptr X)/\V2.cell? ⟨S,3,none⟩=some (.int .u64 gen)):=⟨(c5.cell ⟨S,0,none⟩ (Nat.lt_of_lt_of_le (HS.out.fin _ HS.out.dS) HC3.out.size) hDS).trans S29.out.1,(c5.cell ⟨S,3,none⟩ (Nat.lt_of_lt_of_le (HS.out.fin _ HS.out.dS) HC3.out.size) hDS).trans S29.out.2⟩
        refine hK _ _ S30.out ?_
        clear hK K c5 h5 S29 HC3 HF3 HWR
        iterate 1 (apply wpP_go;rfl;rfl;exact S30.out;(rintro Z ⟨s0,s1⟩;go_simp;exact rfl);intro K hK;go_simp;refine hK _ ?_;clear hK K)
        refine wpP_done ?_
        by_cases he:e3=0
        ·subst he
         have HE:=Hh (cmp6 (st:=st) HSUM.out hfl HTG.out HPR.out HWA.out (by rw[HGEN.out,HG2.out];exact HE3.out))
         have r0:=(HS.out.ch HC4.out λk h1 h2=>hdis k h2 h1).top
         have q1:=r0.cell (i:=1) (by omega)
         have f1':=r0.frozen 1
         have r1:=r0.set (i:=1) (by omega) (.map (some m'))
         have q2:=r1.cell (i:=2) (by omega)
         have f2':=r1.frozen 2
         have r2:=r1.set (i:=2) (by omega) (.int .i64 t)
         have q3:=r2.cell (i:=4) (by omega)
         have f3':=r2.frozen 4
         have r3:=r2.set (i:=4) (by omega) (.int .i64 p2)
         have q4:=r3.cell (i:=5) (by omega)
         have f4':=r3.frozen 5
         have r4:=r3.set (i:=5) (by omega) (.bool false)
         have q5:=r4.cell (i:=3) (by omega)
         have f5':=r4.frozen 3
         have r5:=r4.set (i:=3) (by omega) (.int .u64 g2)
         have q5':(((((V2.setCell ⟨S,1,none⟩ (.map (some m'))).setCell ⟨S,2,none⟩ (.int .i64 t)).setCell ⟨S,4,none⟩ (.int .i64 p2)).setCell ⟨S,5,none⟩ (.bool false))).cell? ⟨S,3,none⟩=some (.int .u64 gen):=by
          rw[q5];simp[upd,stc,HGEN.out]
         clear q5
         have HR5:=Hh (r5.congr (v':=stc ⟨V,t,g2,p2,false⟩ X m') λj hj=>by
          rcases(by omega:j=0\/j=1\/j=2\/j=3\/j=4\/j=5) with e|e|e|e|e|e<;>subst e<;>simp[upd,stc])
         have hCh:Ch (λx=>x=S) V2 (((((V2.setCell ⟨S,1,none⟩ (.map (some m'))).setCell ⟨S,2,none⟩ (.int .i64 t)).setCell ⟨S,4,none⟩ (.int .i64 p2)).setCell ⟨S,5,none⟩ (.bool false)).setCell ⟨S,3,none⟩ (.int .u64 g2)):=
          (((((Ch.refl (λx=>x=S) V2).setCell (p:=⟨S,1,none⟩) (λ_=>rfl) _).setCell (p:=⟨S,2,none⟩) (λ_=>rfl) _).setCell (p:=⟨S,4,none⟩) (λ_=>rfl) _).setCell (p:=⟨S,5,none⟩) (λ_=>rfl) _).setCell (p:=⟨S,3,none⟩) (λ_=>rfl) _
         have HCH:=Hh hCh
         clear r0 r1 r2 r3 r4 r5 hCh S30
         go_wp2_with fail
         go_ret
         rw[HE.out,HGEN.out,HG2.out]
         refine⟨rfl,HF4.out.ch HCH.out (λk hk e=>hDS (e▸hk)),(HC4.out.mono λ_ h _=>.inl h).andThen HCH.out (λk e _=>by rw[e];exact .inr HS.out.dS),?_⟩
         have hmS':m'≠S:=λe=>hmS (e▸HS.out.dS)
         have hszz:w.heap.size<=_:=Nat.le_trans HC4.out.size HCH.out.size
         exact⟨HR5.out,((HM.out.ch HC4.out hmD).ch HCH.out hmS').mono (Nat.le_max_right _ _),.inl HS.out.dS,.inr rfl,λk hk=>Nat.lt_of_lt_of_le (by rcases hk with hk|rfl;exact HS.out.fin k hk;exact HM.out.lt) hszz,hV,HVV.out,by have:=HG2.out;show g2<=_;omega,by have:=HP2.out;have:=sumP_le (recs V) j;have:=HSUM.out;show p2<=1000;omega,by show t<=1000;omega⟩
        ·have hed:(e3==0)=false:=by simpa using he
         have HE:=Hh (cmp5 (st:=st) HSUM.out hfl HTG.out HPR.out HWA.out (by rw[HGEN.out,HG2.out];exact HE3.out) he)
         clear S30
         go_wp2_with fail
         go_ret
         exact cmp_end he HE.out HF4.out HC4.out HS.out HM.out hdis
end
end
section
def chgV (V:Vars)(k:Nat)(n v:Str):Vars:=if k=1 then setV V n v else delV V n
def chgF (fl:FL)(st:ST)(k:Nat)(n v:Str):Int×FL×ST:=
 if fl.off=true then (16,fl,st) else
 if st.clo=true\/fl.P<st.nxt+pgs (recd k n v).length then cmpF fl st (chgV st.V k n v) else
 if (wrL fl st.blk st.nxt (pagesR (recd k n v))).1≠0 then ((wrL fl st.blk st.nxt (pagesR (recd k n v))).1,(wrL fl st.blk st.nxt (pagesR (recd k n v))).2,st)
 else (0,(wrL fl st.blk st.nxt (pagesR (recd k n v))).2,⟨chgV st.V k n v,st.blk,st.gen,st.nxt+pgs (recd k n v).length,st.clo⟩)
def Left (w w':World)(D DS:Nat->Prop)(S X n:Nat)(y:FLay)(r:Int×FL×ST):Prop:=
 FW w' D X y r.2.1/\Ch (λk=>D k\/DS k) w w'/\∃D' m',(∀i,D' i->DS i\/w.heap.size<=i)/\SW w' D' S X m' (n+1) r.2.2
section
variable {w w':World}{D DS:Nat->Prop}{S X m n:Nat}{st:ST}{y:FLay}{fl f:FL}{k:Nat}{nm v:Str}{e:Int}{np:Nat}
theorem chg1 (ho:fl.off=true):chgF fl st k nm v=(16,fl,st):=by unfold chgF;rw[if_pos ho]
theorem chg2 (ho:fl.off=false)(h:st.clo=true\/fl.P<st.nxt+pgs (recd k nm v).length):chgF fl st k nm v=cmpF fl st (chgV st.V k nm v):=by
 unfold chgF;rw[if_neg (by simp[ho]),if_pos h]
theorem chg3 (ho:fl.off=false)(h:¬(st.clo=true\/fl.P<st.nxt+pgs (recd k nm v).length))(hw:wrL fl st.blk st.nxt (pagesR (recd k nm v))=(e,f))(he:e≠0):chgF fl st k nm v=(e,f,st):=by
 unfold chgF;rw[if_neg (by simp[ho]),if_neg h,hw,if_pos he]
theorem chg4 (ho:fl.off=false)(h:¬(st.clo=true\/fl.P<st.nxt+pgs (recd k nm v).length))(hw:wrL fl st.blk st.nxt (pagesR (recd k nm v))=(0,f)):chgF fl st k nm v=(0,f,⟨chgV st.V k nm v,st.blk,st.gen,st.nxt+pgs (recd k nm v).length,st.clo⟩):=by
 unfold chgF;rw[if_neg (by simp[ho]),if_neg h,hw,if_neg (by simp)]
theorem Left.same {r:Int×FL×ST}(hc:r=(e,f,st))(hf:FW w' D X y f)(c:Ch D w w')(hs:SW w DS S X m n st)(hdis:∀k,D k->¬DS k):Left w w' D DS S X n y r:=by
 subst hc
 exact⟨hf,c.mono λi h _=>.inl h,DS,m,λi h=>.inl h,(hs.ch c λk h1 h2=>hdis k h2 h1).mono (Nat.le_succ _)⟩
theorem chgV_srt {V:Vars}(h:Srt V)(k:Nat)(n v:Str):Srt (chgV V k n v):=by
 unfold chgV;split
 ·exact h.set _ _
 ·exact h.del _
theorem chgV_hv {V:Vars}{k:Nat}{n v:Str}(h:∀p∈V,p.1.length<=24/\p.2.length<=128)(hn:n.length<=24)(hv:v.length<=128):∀p∈chgV V k n v,p.1.length<=24/\p.2.length<=128:=by
 unfold chgV;split
 ·intro p hp
  rcases mem_setV hp with e|e
  ·rw[e];exact⟨hn,hv⟩
  ·exact h p e
 ·intro p hp
  exact h p (List.mem_filter.1 hp).1
theorem change_any (hs:SW w DS S X m n st)(h:FW w D X y fl)(hdis:∀k,D k->¬DS k)(hb:st.blk<fl.B)(hn:n<1000)(hk:k=1\/k=2){ke ve:ByteArray}(hke:ke.size<=24)(hve:ve.size<=128) :
  Calls Tryz.prog 107 #[fptr S,.int .i64 (k:Int),.string ke,.string ve] w λe w'=>e=.returned (.int .i64 (chgF fl st k ke.data.toList ve.data.toList).1)/\Left w w' D DS S X n y (chgF fl st k ke.data.toList ve.data.toList):=by
 have H:=Hh h
 have HS:=Hh hs
 have hP:=h.hP
 have hB:=h.hB
 have hnx:=hs.hn
 have hg:=hs.hg
 have HHV:=Hh (chgV_hv (k:=k) (n:=ke.data.toList) (v:=ve.data.toList) hs.hv hke hve)
 have HSR:=Hh (chgV_srt hs.srt k ke.data.toList ve.data.toList)
 obtain⟨blk,hblk⟩:∃blk,st.blk=blk:=⟨_,rfl⟩
 obtain⟨nxt,hnxt⟩:∃nxt,st.nxt=nxt:=⟨_,rfl⟩
 obtain⟨clo,hclo⟩:∃clo,st.clo=clo:=⟨_,rfl⟩
 have hcc:=hs.c2
 have S1:Hid (w.drew.cell? ⟨S,0,none⟩=some (fptr X)/\w.drew.cell? ⟨S,2,none⟩=some (.int .i64 blk)/\FW w.drew D X y fl):=⟨hs.c0,by rw[<-hblk];exact hs.c2,h.drew⟩
 rw[hblk] at hb
 rw[hnxt] at hnx
 have HBL:=Hh hblk
 have HNX:=Hh hnxt
 have HCL:=Hh hclo
 clear h hs hblk hnxt hclo hcc
 have HB1:Hid (Ch D w w.drew):=(Ch.refl D w).drew
 cases ho:fl.off
 ·have hrd:readF fl blk 0=(fl.pg blk 0,0):=by unfold readF;rw[ho];rfl
  go_enter Tryz.func107,Tryz.ntmps107
  go_wp2_with fail
  refine wp_region_pl (λ Y=>Y.cell? ⟨S,0,none⟩=some (fptr X)/\Y.cell? ⟨S,2,none⟩=some (.int .i64 blk)/\FW Y D X y fl) ((0,0)::(1,0)::(2,0)::(3,0)::(4,0)::(5,0)::(6,0)::(7,0)::(8,0)::(9,0)::(10,0)::(11,0)::(12,0)::(13,0)::[]) (by kernel_rfl) (by kernel_rfl) ?_
  iterate 8 (apply wpP_go;rfl;rfl;exact S1.out;(rintro Z ⟨s0,s1,s2⟩;go_simp;exact rfl);intro K hK;go_simp;refine hK _ ?_;clear hK K)
  apply wpP_call
  rfl
  rfl
  exact S1.out
  focus (rintro Z ⟨s0,s1,s2⟩;go_simp;exact⟨rfl,rfl⟩)
  focus (rintro Z ⟨s0,s1,s2⟩;have:=read_any (p:=0) s2 hb (by omega);rw[hrd] at this;exact this)
  intro K hK
  go_simp
  refine hK _ ?_
  clear hK K
  iterate 5 (apply wpP_go;rfl;rfl;exact S1.out;(rintro Z ⟨s0,s1,s2⟩;go_simp;exact rfl);intro K hK;go_simp;refine hK _ ?_;clear hK K)
  refine wpP_done ?_
  have hsd:=HS.out.ch HB1.out λk h1 h2=>hdis k h2 h1
  have c1:=hsd.c1
  have HCLN:=Hh hsd.map.clone
  obtain⟨g,hg'⟩:∃g,w.drew.heap.size=g:=⟨_,rfl⟩
  have hgw:w.heap.size<=g:=by rw[<-hg'];exact HB1.out.size
  rw[hg'] at HCLN
  have HBD:Hid (Below w.heap.size w w.drew):=(Below.refl _ _).drew
  clear hsd S1 hg'
  go_wp2_with fail
  refine HCLN.out.mono ?_
  rintro e w1 ⟨rfl,hm1,b1⟩
  have HM1:=Hh hm1
  have HB1':Hid (Below w.heap.size w w1):=HBD.out.trans (b1.mono hgw)
  clear hm1 b1 HCLN HBD HB1 c1 hrd
  go_upto_if 35 with fail
  go_cut [11] (λx11 wx=>x11=.map (some g)/\Hid (SM wx g (n+1) (chgV st.V k ke.data.toList ve.data.toList))/\Hid (Below w.heap.size w wx))
  case first=>
   rcases hk with rfl|rfl
   ·obtain⟨w2,hru,hm2,c2⟩:=HM1.out.store (by omega) (s:=ke) (by unfold maxLen;omega) ve
    have HM2:=Hh hm2
    have HC2:=Hh c2
    clear hm2 c2
    go_wp2_with fail
    go_meet
    exact⟨rfl,HM2.out,HB1'.out.trans (HC2.out.below HB1'.out.size (λi e=>by rw[e];exact hgw))⟩
   ·obtain⟨w2,hru,hm2,c2⟩:=HM1.out.drop (s:=ke) (by unfold maxLen;omega) 0
    have HM2:=Hh hm2
    have HC2:=Hh c2
    clear hm2 c2
    go_wp2_with fail
    go_meet
    exact⟨rfl,HM2.out.mono (by omega),HB1'.out.trans (HC2.out.below HB1'.out.size (λi e=>by rw[e];exact hgw))⟩
  case rest=>
   obtain⟨rfl,HM2,HB2⟩:=hcut
   clear HM1 HB1'
   have HEN:=Hh (encode_any k ke ve wc (by omega) (by omega) (by omega))
   obtain⟨re,hre⟩:∃s:ByteArray,s=⟨(recd k ke.data.toList ve.data.toList).toArray⟩:=⟨_,rfl⟩
   rw[<-hre] at HEN
   have hrl:re.data.toList=recd k ke.data.toList ve.data.toList:=by rw[hre]
   have hrs:re.size=(recd k ke.data.toList ve.data.toList).length:=by rw[<-hrl];rfl
   have hrz:re.size<=157:=by
    have h1:ke.data.toList.length=ke.size:=rfl
    have h2:ve.data.toList.length=ve.size:=rfl
    rw[hrs,recd_len];omega
   have HRL:=Hh hrl
   have HRS:=Hh hrs
   clear hre hrl hrs
   go_wp2_with fail
   refine HEN.out.mono ?_
   rintro e w3 ⟨rfl,b3⟩
   have HB3:Hid (Below w.heap.size w w3):=HB2.out.trans (b3.mono HB2.out.size)
   have HM3:Hid (SM w3 g (n+1) (chgV st.V k ke.data.toList ve.data.toList)):=HM2.out.ch (Ch.of_below b3 (λ_=>False)) id
   clear HB2 HM2 b3 HEN
   have hs3:=HS.out.below HB3.out
   have S9:Hid (w3.drew.cell? ⟨S,0,none⟩=some (fptr X)/\w3.drew.cell? ⟨S,4,none⟩=some (.int .i64 nxt)/\w3.drew.cell? ⟨S,5,none⟩=some (.bool clo)/\FW w3.drew D X y fl):=⟨hs3.c0,by rw[<-HNX.out];exact hs3.c4,by rw[<-HCL.out];exact hs3.c5,(H.out.below HB3.out).drew⟩
   have HBd:Hid (Below w.heap.size w w3.drew):=HB3.out.drew
   have HMd:Hid (SM w3.drew g (n+1) (chgV st.V k ke.data.toList ve.data.toList)):=HM3.out.ch ((Ch.refl (λ_=>False) w3).drew) id
   clear hs3 HB3 HM3
   obtain⟨np,hnp⟩:∃np,pgs re.size=np:=⟨_,rfl⟩
   have hpgl:np<=5:=by rw[<-hnp];unfold pgs;omega
   have HNP:=Hh hnp
   have HPO:Hid (∀Z,Calls Tryz.prog 138 #[.int .i64 (re.size:Int)] Z λe w'=>e=.returned (.int .i64 (np:Int))/\Z=w'):=λ Z=>by rw[<-hnp];exact pagesOf_any re.size Z (by omega)
   have hwi:IntKind.i64.wrap ((nxt:Int)+(np:Int))=(nxt:Int)+(np:Int):=IntWalk.i64_in _ ⟨by omega,by omega⟩
   clear hnp
   go_upto_region 9 with fail
   go_cut [65] (λx65 wx=>∃bb:Bool,x65=.bool bb/\Hid (bb=(clo||decide (fl.P<nxt+np)))/\Hid (SM wx g (n+1) (chgV st.V k ke.data.toList ve.data.toList))/\Hid (Below w.heap.size w wx))
   case first=>
    cases clo
    ·refine wp_region_pl (λ Y=>Y.cell? ⟨S,0,none⟩=some (fptr X)/\Y.cell? ⟨S,4,none⟩=some (.int .i64 nxt)/\Y.cell? ⟨S,5,none⟩=some (.bool false)/\FW Y D X y fl) ((0,0)::(1,0)::(2,0)::(3,0)::(4,0)::(5,0)::(6,0)::(7,0)::(8,0)::(9,0)::(10,0)::(11,0)::(12,0)::(13,0)::(14,0)::(15,0)::(16,0)::(17,1)::(18,0)::(19,0)::(20,0)::[]) (by kernel_rfl) (by kernel_rfl) ?_
     iterate 11 (apply wpP_go;rfl;rfl;exact S9.out;(rintro Z ⟨s0,s1,s2,s3⟩;go_simp;exact rfl);intro K hK;go_simp;refine hK _ ?_;clear hK K)
     apply wpP_call
     rfl
     rfl
     exact S9.out
     focus (rintro Z ⟨s0,s1,s2,s3⟩;go_simp;exact⟨rfl,rfl⟩)
     focus (rintro Z ⟨s0,s1,s2,s3⟩;exact HPO.out Z)
     intro K hK
     go_simp
     refine hK _ ?_
     clear hK K
     iterate 5 (apply wpP_go;rfl;rfl;exact S9.out;(rintro Z ⟨s0,s1,s2,s3⟩;go_simp;exact rfl);intro K hK;go_simp;refine hK _ ?_;clear hK K)
     apply wpP_one
     rfl
     intro K hK
     go_simp
     refine(shape_any S9.out.2.2.2).mono ?_
     rintro e V1 ⟨rfl,b1⟩
     have S9':Hid (V1.cell? ⟨S,0,none⟩=some (fptr X)/\V1.cell? ⟨S,4,none⟩=some (.int .i64 nxt)/\V1.cell? ⟨S,5,none⟩=some (.bool false)/\FW V1 D X y fl):=⟨cell_later b1 S9.out.1,cell_later b1 S9.out.2.1,cell_later b1 S9.out.2.2.1,S9.out.2.2.2.below b1⟩
     refine hK _ _ S9'.out ?_
     clear hK K
     have HM4:Hid (SM V1 g (n+1) (chgV st.V k ke.data.toList ve.data.toList)):=HMd.out.ch (Ch.of_below b1 (λ_=>False)) id
     have HB4:Hid (Below w.heap.size w V1):=HBd.out.trans (b1.mono HBd.out.size)
     clear S9 HMd HBd b1
     iterate 1 (apply wpP_go;rfl;rfl;exact S9'.out;(rintro Z ⟨s0,s1,s2,s3⟩;have hfp:=field_P (.int .i64 fl.B) (.int .i64 fl.P) (.int .i64 fl.E) Z;go_simp;exact rfl);intro K hK;go_simp;refine hK _ ?_;clear hK K)
     by_cases hfl:fl.P<nxt+np
     ·have hflI:(fl.P:Int)<(nxt:Int)+np:=by omega
      iterate 2 (apply wpP_go;rfl;rfl;exact S9'.out;(rintro Z ⟨s0,s1,s2,s3⟩;go_simp;exact rfl);intro K hK;go_simp;refine hK _ ?_;clear hK K)
      refine wpP_done ?_
      clear S9'
      go_wp2_with fail
      go_meet
      exact⟨_,rfl,(by show _=(false||_);simp[hfl]),HM4.out,HB4.out⟩
     ·have hflI:¬(fl.P:Int)<(nxt:Int)+np:=by omega
      iterate 2 (apply wpP_go;rfl;rfl;exact S9'.out;(rintro Z ⟨s0,s1,s2,s3⟩;go_simp;exact rfl);intro K hK;go_simp;refine hK _ ?_;clear hK K)
      refine wpP_done ?_
      clear S9'
      go_wp2_with fail
      go_meet
      exact⟨_,rfl,(by show _=(false||_);simp[hfl]),HM4.out,HB4.out⟩
    ·refine wp_region_pl (λ Y=>Y.cell? ⟨S,0,none⟩=some (fptr X)/\Y.cell? ⟨S,4,none⟩=some (.int .i64 nxt)/\Y.cell? ⟨S,5,none⟩=some (.bool true)/\FW Y D X y fl) ((0,0)::(1,0)::(2,0)::(3,0)::(4,0)::(5,0)::(6,0)::(7,0)::(8,0)::(9,0)::(10,0)::(11,0)::(12,0)::(13,0)::(14,0)::(15,0)::(16,0)::(17,0)::(18,0)::(19,0)::(20,0)::[]) (by kernel_rfl) (by kernel_rfl) ?_
     iterate 5 (apply wpP_go;rfl;rfl;exact S9.out;(rintro Z ⟨s0,s1,s2,s3⟩;go_simp;exact rfl);intro K hK;go_simp;refine hK _ ?_;clear hK K)
     iterate 15 (apply wpP_not;rfl;rfl;exact S9.out;intro K hK;go_simp;refine hK _ ?_;clear hK K)
     iterate 1 (apply wpP_go;rfl;rfl;exact S9.out;(rintro Z ⟨s0,s1,s2,s3⟩;go_simp;exact rfl);intro K hK;go_simp;refine hK _ ?_;clear hK K)
     refine wpP_done ?_
     go_wp2_with fail
     go_meet
     exact⟨_,rfl,(by show _=(true||_);simp),HMd.out,HBd.out⟩
   case rest=>
    clear S9 HMd HBd
    obtain⟨bb,rfl,HBB,HM4,HB4⟩:=hcut
    have HDg:Hid (¬D g/\¬DS g):=⟨λh=>by have:=H.out.fin g h;omega,λh=>by have:=HS.out.fin g h;omega⟩
    have HF4:=Hh (H.out.below HB4.out)
    have HS4:=Hh (HS.out.below HB4.out)
    by_cases hfull:clo=true\/fl.P<nxt+np
    ·have hfb:bb=true:=by rw[HBB.out];simpa using hfull
     subst hfb
     have HE:=Hh (chg2 (st:=st) (k:=k) (nm:=ke.data.toList) (v:=ve.data.toList) ho (by rw[HCL.out,HNX.out,<-HRS.out,HNP.out];exact hfull))
     have HCM:=Hh (compact_any HS4.out HF4.out ho hdis HM4.out (by omega) HSR.out HHV.out HDg.out.1 HDg.out.2)
     clear hfull
     go_wp2_with fail
     refine HCM.out.mono ?_
     rintro e w5 ⟨rfl,h5,c5,s5⟩
     have HF5:=Hh h5
     have HC5:=Hh c5
     have HS5:=Hh s5
     clear h5 c5 s5 HCM
     go_wp2_with fail
     go_ret
     rw[HE.out]
     exact⟨rfl,HF5.out,(Ch.of_below HB4.out _).trans HC5.out,λk=>DS k\/k=g,_,(λi h=>h.elim .inl (λe=>.inr (by rw[e];exact hgw))),by have:=HS5.out;rw[Nat.max_eq_right (Nat.le_succ n)] at this;exact this⟩
    ·have hfb:bb=false:=by rw[HBB.out];simpa using hfull
     subst hfb
     have hroom:nxt+np<=fl.P:=by omega
     have HNF:Hid (¬(st.clo=true\/fl.P<st.nxt+pgs (recd k ke.data.toList ve.data.toList).length)):=by show ¬_;rw[HCL.out,HNX.out,<-HRS.out,HNP.out];exact hfull
     have S11:Hid (wc.drew.cell? ⟨S,0,none⟩=some (fptr X)/\wc.drew.cell? ⟨S,2,none⟩=some (.int .i64 blk)/\wc.drew.cell? ⟨S,4,none⟩=some (.int .i64 nxt)):=⟨HS4.out.c0,by rw[<-HBL.out];exact HS4.out.c2,by rw[<-HNX.out];exact HS4.out.c4⟩
     have HC4:Hid (Ch D w wc.drew):=(Ch.of_below HB4.out D).drew
     have HFd:=Hh HF4.out.drew
     have HMd:Hid (SM wc.drew g (n+1) (chgV st.V k ke.data.toList ve.data.toList)):=HM4.out.ch ((Ch.refl (λ_=>False) wc).drew) id
     obtain⟨e3,f3,he3⟩:∃e f',wrL fl blk nxt (pagesR re.data.toList)=(e,f'):=⟨_,_,rfl⟩
     have HWR:Hid (Calls Tryz.prog 90 #[fptr X,.int .i64 blk,.int .i64 nxt,.string re] wc.drew λe w'=>e=.returned (.int .i64 e3)/\FW w' D X y f3/\Ch D wc.drew w'):=by
      have:=write_any HFd.out (b:=blk) (p:=nxt) (d:=re) hb (by omega) (by rw[HNP.out];exact hroom)
      rw[he3] at this
      exact this
     rw[HRL.out] at he3
     have HE3:=Hh he3
     have hDS:¬D S:=λh=>hdis _ h HS.out.dS
     clear hfull he3 HF4 HS4 HM4 HFd
     go_upto_region 11 with fail
     refine wp_region_pl (λ Y=>Y.cell? ⟨S,0,none⟩=some (fptr X)/\Y.cell? ⟨S,2,none⟩=some (.int .i64 blk)/\Y.cell? ⟨S,4,none⟩=some (.int .i64 nxt)) ((0,0)::(1,0)::(2,0)::(3,0)::(4,0)::(5,0)::(6,0)::(7,0)::(8,0)::(9,0)::(10,0)::(11,0)::(12,0)::(13,1)::(14,0)::[]) (by kernel_rfl) (by kernel_rfl) ?_
     iterate 13 (apply wpP_go;rfl;rfl;exact S11.out;(rintro Z ⟨s0,s1,s2⟩;go_simp;exact rfl);intro K hK;go_simp;refine hK _ ?_;clear hK K)
     apply wpP_one
     rfl
     intro K hK
     go_simp
     refine HWR.out.mono ?_
     rintro e V2 ⟨rfl,h5,c5⟩
     have hSl:S<wc.drew.heap.size:=Nat.lt_of_lt_of_le (HS.out.fin _ HS.out.dS) HC4.out.size
     have HF5:=Hh h5
     have HC5:Hid (Ch D w V2):=HC4.out.trans c5
     have HM5:Hid (SM V2 g (n+1) (chgV st.V k ke.data.toList ve.data.toList)):=HMd.out.ch c5 HDg.out.1
     have S12:Hid (V2.cell? ⟨S,0,none⟩=some (fptr X)/\V2.cell? ⟨S,2,none⟩=some (.int .i64 blk)/\V2.cell? ⟨S,4,none⟩=some (.int .i64 nxt)):=⟨(c5.cell ⟨S,0,none⟩ hSl hDS).trans S11.out.1,(c5.cell ⟨S,2,none⟩ hSl hDS).trans S11.out.2.1,(c5.cell ⟨S,4,none⟩ hSl hDS).trans S11.out.2.2⟩
     refine hK _ _ S12.out ?_
     clear hK K c5 h5 S11 HC4 HWR hSl HMd
     iterate 1 (apply wpP_go;rfl;rfl;exact S12.out;(rintro Z ⟨s0,s1,s2⟩;go_simp;exact rfl);intro K hK;go_simp;refine hK _ ?_;clear hK K)
     refine wpP_done ?_
     by_cases he:e3=0
     ·subst he
      have HE:=Hh (chg4 (st:=st) (k:=k) (nm:=ke.data.toList) (v:=ve.data.toList) ho HNF.out (by rw[HBL.out,HNX.out];exact HE3.out))
      have r0:=(HS.out.ch HC5.out λk h1 h2=>hdis k h2 h1).top
      have r0':Rg V2.drew S 158 6 (stc st X m):=r0.ch ((Ch.refl (λ_=>False) V2).drew) id
      have S13:Hid (V2.drew.cell? ⟨S,4,none⟩=some (.int .i64 nxt)):=S12.out.2.2
      have HF6:=Hh HF5.out.drew
      have HC6:Hid (Ch D w V2.drew):=HC5.out.drew
      have HM6:Hid (SM V2.drew g (n+1) (chgV st.V k ke.data.toList ve.data.toList)):=HM5.out.ch ((Ch.refl (λ_=>False) V2).drew) id
      clear S12 HF5 HC5 HM5 r0
      go_upto_region 14 with fail
      refine wp_region_pl (λ Y=>Y.cell? ⟨S,4,none⟩=some (.int .i64 nxt)) ((0,0)::(1,0)::(2,0)::(3,0)::(4,0)::(5,0)::(6,0)::(7,0)::(8,1)::(9,0)::(10,2)::[]) (by kernel_rfl) (by kernel_rfl) ?_
      generalize V2.drew=V3 at *
      have f4:=r0'.frozen 4
      have q4:=r0'.cell (i:=4) (by omega)
      rw[show stc st X m 4=.int .i64 nxt by rw[<-HNX.out];rfl] at q4
      have r1:=r0'.set (i:=4) (by omega) (.int .i64 ((nxt:Int)+(np:Int)))
      have q1:=r1.cell (i:=1) (by omega)
      have f1:=r1.frozen 1
      have r2:=r1.set (i:=1) (by omega) (.map (some g))
      have HR2:=Hh (r2.congr (v':=stc ⟨chgV st.V k ke.data.toList ve.data.toList,blk,st.gen,nxt+np,clo⟩ X g) λj hj=>by
       rcases(by omega:j=0\/j=1\/j=2\/j=3\/j=4\/j=5) with e|e|e|e|e|e<;>subst e<;>simp[upd,stc,HBL.out,HCL.out])
      have hCh:Ch (λx=>x=S) V3 ((V3.setCell ⟨S,4,none⟩ (.int .i64 ((nxt:Int)+(np:Int)))).setCell ⟨S,1,none⟩ (.map (some g))):=
       ((Ch.refl (λx=>x=S) V3).setCell (p:=⟨S,4,none⟩) (λ_=>rfl) _).setCell (p:=⟨S,1,none⟩) (λ_=>rfl) _
      have HCH:=Hh hCh
      clear r0' r1 r2 hCh
      iterate 6 (apply wpP_go;rfl;rfl;exact S13.out;(intro Z s0;go_simp;exact rfl);intro K hK;go_simp;refine hK _ ?_;clear hK K)
      apply wpP_call
      rfl
      rfl
      exact S13.out
      focus (intro Z s0;go_simp;exact⟨rfl,rfl⟩)
      focus (intro Z s0;exact HPO.out Z)
      intro K hK
      go_simp
      refine hK _ ?_
      clear hK K
      iterate 1 (apply wpP_go;rfl;rfl;exact S13.out;(intro Z s0;go_simp;exact rfl);intro K hK;go_simp;refine hK _ ?_;clear hK K)
      apply wpP_one
      rfl
      intro K hK
      go_simp
      refine hK _ _ S13.out ?_
      clear hK K
      iterate 1 (apply wpP_go;rfl;rfl;exact S13.out;(intro Z s0;go_simp;exact rfl);intro K hK;go_simp;refine hK _ ?_;clear hK K)
      apply wpP_two
      rfl
      intro K hK
      go_simp
      refine hK _ _ ?_
      clear hK K
      refine wpP_done ?_
      clear S13
      go_wp2_with fail
      go_ret
      rw[HE.out,HBL.out,HNX.out,HCL.out,<-HRS.out,HNP.out]
      have hgS:g≠S:=λe=>HDg.out.2 (e▸HS.out.dS)
      have hszz:w.heap.size<=_:=Nat.le_trans HC6.out.size HCH.out.size
      have hgl:=HM6.out.lt
      refine⟨rfl,HF6.out.ch HCH.out (λk hk e=>hDS (e▸hk)),(HC6.out.mono λ_ h _=>.inl h).andThen HCH.out (λk e _=>by rw[e];exact .inr HS.out.dS),λk=>DS k\/k=g,g,(λi h=>h.elim .inl (λe=>.inr (by rw[e];exact hgw))),?_⟩
      exact⟨HR2.out,HM6.out.ch HCH.out hgS,.inl HS.out.dS,.inr rfl,λk hk=>hk.elim (λh=>Nat.lt_of_lt_of_le (HS.out.fin k h) hszz) (λe=>by rw[e];exact Nat.lt_of_lt_of_le hgl HCH.out.size),HSR.out,HHV.out,hg,by show nxt+np<=1000;omega,by show blk<=1000;omega⟩
     ·have hed:(e3==0)=false:=by simpa using he
      have HE:=Hh (chg3 (st:=st) (k:=k) (nm:=ke.data.toList) (v:=ve.data.toList) ho HNF.out (by rw[HBL.out,HNX.out];exact HE3.out) he)
      clear S12
      go_wp2_with fail
      go_ret
      rw[HE.out]
      exact⟨rfl,Left.same rfl HF5.out HC5.out HS.out hdis⟩
 ·have hrd:readF fl blk 0=([],16):=by unfold readF;rw[ho];rfl
  have HE:=Hh (chg1 (st:=st) (k:=k) (nm:=ke.data.toList) (v:=ve.data.toList) ho)
  go_enter Tryz.func107,Tryz.ntmps107
  go_wp2_with fail
  refine wp_region_pl (λ Y=>Y.cell? ⟨S,0,none⟩=some (fptr X)/\Y.cell? ⟨S,2,none⟩=some (.int .i64 blk)/\FW Y D X y fl) ((0,0)::(1,0)::(2,0)::(3,0)::(4,0)::(5,0)::(6,0)::(7,0)::(8,0)::(9,0)::(10,0)::(11,0)::(12,0)::(13,0)::[]) (by kernel_rfl) (by kernel_rfl) ?_
  iterate 8 (apply wpP_go;rfl;rfl;exact S1.out;(rintro Z ⟨s0,s1,s2⟩;go_simp;exact rfl);intro K hK;go_simp;refine hK _ ?_;clear hK K)
  apply wpP_call
  rfl
  rfl
  exact S1.out
  focus (rintro Z ⟨s0,s1,s2⟩;go_simp;exact⟨rfl,rfl⟩)
  focus (rintro Z ⟨s0,s1,s2⟩;have:=read_any (p:=0) s2 hb (by omega);rw[hrd] at this;exact this)
  intro K hK
  go_simp
  refine hK _ ?_
  clear hK K
  iterate 5 (apply wpP_go;rfl;rfl;exact S1.out;(rintro Z ⟨s0,s1,s2⟩;go_simp;exact rfl);intro K hK;go_simp;refine hK _ ?_;clear hK K)
  refine wpP_done ?_
  have HFd:=Hh S1.out.2.2
  clear S1
  go_wp2_with fail
  go_ret
  rw[HE.out]
  exact⟨rfl,Left.same rfl HFd.out HB1.out HS.out hdis⟩
end
end
section
def setF (fl:FL)(st:ST)(n v:Str):Int×FL×ST:=
 if okLens 1 n.length v.length=false then (1,fl,st) else if getV st.V n=some v then (0,fl,st) else chgF fl st 1 n v
def delF (fl:FL)(st:ST)(n:Str):Int×FL×ST:=
 if okLens 2 n.length 0=false then (1,fl,st) else if getV st.V n=none then (6,fl,st) else chgF fl st 2 n []
theorem okLens_le {k n v:Nat}(h:okLens k n v=true):n<=24/\v<=128:=by
 simp only[okLens,Bool.or_eq_true,Bool.and_eq_true,decide_eq_true_eq,beq_iff_eq] at h
 omega
section
variable {w w':World}{D DS:Nat->Prop}{S X m n:Nat}{st:ST}{y:FLay}{fl:FL}
theorem set_any (hs:SW w DS S X m n st)(h:FW w D X y fl)(hdis:∀k,D k->¬DS k)(hb:st.blk<fl.B)(hn:n<1000){ke ve:ByteArray}(hke:ke.size<=1000000)(hve:ve.size<=1000000) :
  Calls Tryz.prog 43 #[fptr S,.string ke,.string ve] w λe w'=>e=.returned (.int .i64 (setF fl st ke.data.toList ve.data.toList).1)/\Left w w' D DS S X n y (setF fl st ke.data.toList ve.data.toList):=by
 have H:=Hh h
 have HS:=Hh hs
 have HPM:Hid (Calls Tryz.prog 106 #[.int .i64 1,.int .i64 (ke.size:Int),.int .i64 (ve.size:Int)] w λe w'=>e=.returned (.bool (okLens 1 ke.size ve.size))/\w=w'):=permitted_any 1 ke.size ve.size w (by omega) (by omega)
 have hlk:=hs.map.look (s:=ke) (by unfold maxLen;omega)
 have c1:=hs.c1
 have HLS:Hid (Left w w D DS S X n y (0,fl,st)/\Left w w D DS S X n y (1,fl,st)):=⟨Left.same rfl h (Ch.refl D w) hs hdis,Left.same rfl h (Ch.refl D w) hs hdis⟩
 obtain⟨ok,hok⟩:∃ok,okLens 1 ke.size ve.size=ok:=⟨_,rfl⟩
 rw[hok] at HPM
 have HOK:=Hh hok
 clear h hs hok
 cases ok
 ·have HE:Hid (setF fl st ke.data.toList ve.data.toList=(1,fl,st)):=by show _=_;unfold setF;rw[if_pos];exact HOK.out
  go_enter Tryz.func43,Tryz.ntmps43
  go_wp2_with fail
  refine HPM.out.mono ?_
  rintro e w' ⟨rfl,rfl⟩
  go_wp2_with fail
  go_ret
  rw[HE.out]
  exact⟨rfl,HLS.out.2⟩
 ·have hle:=okLens_le HOK.out
  have HCG:Hid (Calls Tryz.prog 107 #[fptr S,.int .i64 1,.string ke,.string ve] w λe w'=>e=.returned (.int .i64 (chgF fl st 1 ke.data.toList ve.data.toList).1)/\Left w w' D DS S X n y (chgF fl st 1 ke.data.toList ve.data.toList)):=change_any HS.out H.out hdis hb hn (.inl rfl) hle.1 hle.2
  cases hgv:getV st.V ke.data.toList
  ·have HE:Hid (setF fl st ke.data.toList ve.data.toList=chgF fl st 1 ke.data.toList ve.data.toList):=by
    show _=_;unfold setF;rw[if_neg (by show ¬okLens 1 ke.size ve.size=false;rw[HOK.out];simp),hgv,if_neg (by simp)]
   rw[hgv] at hlk
   simp only[Option.getD_none,Option.isSome_none] at hlk
   clear hgv
   go_enter Tryz.func43,Tryz.ntmps43
   go_wp2_with fail
   refine HPM.out.mono ?_
   rintro e w' ⟨rfl,rfl⟩
   go_wp2_with fail
   refine HCG.out.mono ?_
   rintro e w5 ⟨rfl,hl⟩
   have HL:=Hh hl
   clear hl HCG
   go_wp2_with fail
   go_ret
   rw[HE.out]
   exact⟨rfl,HL.out⟩
  ·rename_i ov
   rw[hgv] at hlk
   simp only[Option.getD_some,Option.isSome_some] at hlk
   obtain⟨oe,hoe⟩:∃s:ByteArray,s=⟨ov.toArray⟩:=⟨_,rfl⟩
   have hol:oe.data.toList=ov:=by rw[hoe]
   rw[show str ov=.string oe by rw[hoe]] at hlk
   by_cases heq:oe=ve
   ·have HE:Hid (setF fl st ke.data.toList ve.data.toList=(0,fl,st)):=by
     show _=_;unfold setF;rw[if_neg (by show ¬okLens 1 ke.size ve.size=false;rw[HOK.out];simp),hgv,if_pos (by rw[<-hol,heq])]
    have hd1:(oe.toList==ve.toList)=true:=by rw[heq];simp
    have HEQ:=Hh heq
    clear hgv hoe hol heq
    go_enter Tryz.func43,Tryz.ntmps43
    go_wp2_with fail
    refine HPM.out.mono ?_
    rintro e w' ⟨rfl,rfl⟩
    go_wp2_with fail
    go_ret
    rw[HE.out]
    exact⟨rfl,HLS.out.1⟩
   ·have HE:Hid (setF fl st ke.data.toList ve.data.toList=chgF fl st 1 ke.data.toList ve.data.toList):=by
     show _=_;unfold setF;rw[if_neg (by show ¬okLens 1 ke.size ve.size=false;rw[HOK.out];simp),hgv,if_neg (by
      intro h9
      apply heq
      have h8:=Option.some.inj h9
      rw[hoe,h8])]
    have hd1:(oe.toList==ve.toList)=false:=by
     rw[beq_eq_false_iff_ne]
     intro h9
     rw[ByteArray.toList_eq,ByteArray.toList_eq] at h9
     exact heq (by cases oe;cases ve;congr 1;exact Array.toList_inj.1 h9)
    clear hgv hoe hol
    go_enter Tryz.func43,Tryz.ntmps43
    go_wp2_with fail
    refine HPM.out.mono ?_
    rintro e w' ⟨rfl,rfl⟩
    go_wp2_with fail
    refine HCG.out.mono ?_
    rintro e w5 ⟨rfl,hl⟩
    have HL:=Hh hl
    clear hl HCG
    go_wp2_with fail
    go_ret
    rw[HE.out]
    exact⟨rfl,HL.out⟩
theorem delete_any (hs:SW w DS S X m n st)(h:FW w D X y fl)(hdis:∀k,D k->¬DS k)(hb:st.blk<fl.B)(hn:n<1000){ke:ByteArray}(hke:ke.size<=1000000) :
  Calls Tryz.prog 58 #[fptr S,.string ke] w λe w'=>e=.returned (.int .i64 (delF fl st ke.data.toList).1)/\Left w w' D DS S X n y (delF fl st ke.data.toList):=by
 have H:=Hh h
 have HS:=Hh hs
 have HPM:Hid (Calls Tryz.prog 106 #[.int .i64 2,.int .i64 (ke.size:Int),.int .i64 0] w λe w'=>e=.returned (.bool (okLens 2 ke.size 0))/\w=w'):=permitted_any 2 ke.size 0 w (by omega) (by omega)
 have hlk:=hs.map.look (s:=ke) (by unfold maxLen;omega)
 have c1:=hs.c1
 have HLS:Hid (Left w w D DS S X n y (6,fl,st)/\Left w w D DS S X n y (1,fl,st)):=⟨Left.same rfl h (Ch.refl D w) hs hdis,Left.same rfl h (Ch.refl D w) hs hdis⟩
 obtain⟨ok,hok⟩:∃ok,okLens 2 ke.size 0=ok:=⟨_,rfl⟩
 rw[hok] at HPM
 have HOK:=Hh hok
 clear h hs hok
 cases ok
 ·have HE:Hid (delF fl st ke.data.toList=(1,fl,st)):=by show _=_;unfold delF;rw[if_pos];exact HOK.out
  go_enter Tryz.func58,Tryz.ntmps58
  go_wp2_with fail
  refine HPM.out.mono ?_
  rintro e w' ⟨rfl,rfl⟩
  go_wp2_with fail
  go_ret
  rw[HE.out]
  exact⟨rfl,HLS.out.2⟩
 ·have hle:=okLens_le HOK.out
  have HCG:Hid (Calls Tryz.prog 107 #[fptr S,.int .i64 2,.string ke,.string ⟨#[]⟩] w λe w'=>e=.returned (.int .i64 (chgF fl st 2 ke.data.toList []).1)/\Left w w' D DS S X n y (chgF fl st 2 ke.data.toList [])):=change_any HS.out H.out hdis hb hn (.inr rfl) hle.1 (ve:=⟨#[]⟩) hle.2
  cases hgv:getV st.V ke.data.toList
  ·have HE:Hid (delF fl st ke.data.toList=(6,fl,st)):=by
    show _=_;unfold delF;rw[if_neg (by show ¬okLens 2 ke.size 0=false;rw[HOK.out];simp),hgv,if_pos rfl]
   rw[hgv] at hlk
   simp only[Option.getD_none,Option.isSome_none] at hlk
   clear hgv
   go_enter Tryz.func58,Tryz.ntmps58
   go_wp2_with fail
   refine HPM.out.mono ?_
   rintro e w' ⟨rfl,rfl⟩
   go_wp2_with fail
   go_ret
   rw[HE.out]
   exact⟨rfl,HLS.out.1⟩
  ·have HE:Hid (delF fl st ke.data.toList=chgF fl st 2 ke.data.toList []):=by
    show _=_;unfold delF;rw[if_neg (by show ¬okLens 2 ke.size 0=false;rw[HOK.out];simp),hgv,if_neg (by simp)]
   rw[hgv] at hlk
   simp only[Option.getD_some,Option.isSome_some] at hlk
   clear hgv
   go_enter Tryz.func58,Tryz.ntmps58
   go_wp2_with fail
   refine HPM.out.mono ?_
   rintro e w' ⟨rfl,rfl⟩
   go_wp2_with fail
   refine HCG.out.mono ?_
   rintro e w5 ⟨rfl,hl⟩
   have HL:=Hh hl
   clear hl HCG
   go_wp2_with fail
   go_ret
   rw[HE.out]
   exact⟨rfl,HL.out⟩
end
end
section
def fmt1:Nat->Nat->FL->Int×FL
 | 0,_,fl=>(0,fl)
 | r+1,b,fl=>if fl.off=true then (16,fl) else if blankP (pgsF fl b)=true then fmt1 r (b+1) fl else if (eraseF fl b).1≠0 then eraseF fl b else fmt1 r (b+1) (eraseF fl b).2
def least (fl:FL)(k:Nat):Nat:=(List.range k).foldl (λl b=>if fl.er b<fl.er l then b else l) 0
theorem least_succ (fl:FL)(k:Nat):least fl (k+1)=if fl.er k<fl.er (least fl k) then k else least fl k:=by
 unfold least
 rw[List.range_succ,List.foldl_append]
 rfl
def fmtF (fl:FL):Int×FL:=
 if (decide (2<=fl.B)&&decide (2<=fl.P))=false then (1,fl) else
 if (fmt1 fl.B 0 fl).1≠0 then fmt1 fl.B 0 fl else wrL (fmt1 fl.B 0 fl).2 (least (fmt1 fl.B 0 fl).2 fl.B) 0 (pagesR (hdr 1))
section
variable {w w':World}{D:Nat->Prop}{X:Nat}{y:FLay}{fl:FL}
theorem format_any (h:FW w D X y fl):Calls Tryz.prog 35 #[fptr X] w λe w'=>e=.returned (.int .i64 (fmtF fl).1)/\FW w' D X y (fmtF fl).2/\Ch D w w':=by
 have HUS:=Hh (usable_any h)
 have H:=Hh h
 have hB:=h.hB
 have hP:=h.hP
 obtain⟨us,hus⟩:∃us,(decide (2<=fl.B)&&decide (2<=fl.P))=us:=⟨_,rfl⟩
 rw[hus] at HUS
 have HU:=Hh hus
 clear h hus
 cases us
 ·have HE:Hid (fmtF fl=(1,fl)):=by show _=_;unfold fmtF;rw[if_pos HU.out]
  go_enter Tryz.func35,Tryz.ntmps35
  go_wp2_with fail
  refine HUS.out.mono ?_
  rintro e w1 ⟨rfl,b1⟩
  have HF1:=Hh (H.out.below b1)
  have HC1:Hid (Ch D w w1):=Ch.of_below b1 D
  clear b1
  go_wp2_with fail
  go_ret
  rw[HE.out]
  exact⟨rfl,HF1.out,HC1.out⟩
 ·have hB2:2<=fl.B:=by have:=HU.out;simp at this;exact this.1
  have hP2:2<=fl.P:=by have:=HU.out;simp at this;exact this.2
  go_enter Tryz.func35,Tryz.ntmps35
  go_wp2_with fail
  refine HUS.out.mono ?_
  rintro e w1 ⟨rfl,b1⟩
  have HSH:=Hh (shape_any (H.out.below b1))
  have HF1:=Hh (H.out.below b1)
  have HC1:Hid (Ch D w w1):=Ch.of_below b1 D
  clear b1 HUS
  go_wp2_with fail
  refine HSH.out.mono ?_
  rintro e w2 ⟨rfl,b2⟩
  have hfb:=field_B (.int .i64 fl.B) (.int .i64 fl.P) (.int .i64 fl.E) w2
  have HW0:Hid (∃f,FW w2 D X y f/\f.B=fl.B/\f.P=fl.P/\fmt1 fl.B 0 fl=fmt1 (fl.B-0) 0 f):=⟨fl,HF1.out.below b2,rfl,rfl,rfl⟩
  have HC2:Hid (Ch D w w2):=HC1.out.trans (Ch.of_below b2 D)
  clear b2 HF1 HC1 HSH
  go_wp2_with fail
  clear hfb
  go_loopw [15] (λz wr=>∃k:Nat,k<=fl.B/\z=.int .i64 (k:Int)/\Hid (∃f,FW wr D X y f/\f.B=fl.B/\f.P=fl.P/\fmt1 fl.B 0 fl=fmt1 (fl.B-k) k f)/\Hid (Ch D w wr)) (λz _=>fl.B-(intOf z).toNat)
  case atStart=>exact⟨0,by omega,rfl,HW0,HC2⟩
  case round=>
   clear HW0 HC2
   obtain⟨k,hk,rfl,HF,HC⟩:=hrel
   by_cases hlt:k<fl.B
   ·have y0:(k:Int)<fl.B:=by omega
    obtain⟨f,hf,fB,fP,hfm⟩:=HF.out
    have hkf:k<f.B:=by rw[fB];exact hlt
    rw[show fl.B-k=(fl.B-(k+1))+1 by omega,fmt1] at hfm
    have HRB:=Hh (readBlock_any hf hkf)
    have HFF:=Hh hf
    have HEQ:Hid (f.B=fl.B/\f.P=fl.P):=⟨fB,fP⟩
    clear HF hf
    cases ho:f.off
    ·rw[ho,if_neg (by simp)] at hfm
     have HFM:=Hh hfm
     clear hfm
     go_wp2_with fail
     refine HRB.out.mono ?_
     rintro e w3 ⟨b3,⟨h1,_⟩|⟨_,g,rfl,hg,hps⟩⟩
     ·rw[ho] at h1;cases h1
     have HF3:=Hh (HFF.out.below b3)
     have HC3:Hid (Ch D w w3):=HC.out.trans (Ch.of_below b3 D)
     have HIB:=Hh (isBlank_any hps (pgsF_len f k) (λp hp=>by
      unfold pgsF at hp
      obtain⟨j,hj,rfl⟩:=List.mem_map.1 hp
      rw[HF3.out.len k j hkf (by simpa using hj)]
      omega) (by rw[fP];omega))
     have HER:=Hh (erase_any HF3.out hkf)
     obtain⟨bl,hbl⟩:∃bl,blankP (pgsF f k)=bl:=⟨_,rfl⟩
     rw[hbl] at HIB
     have HBL:=Hh hbl
     obtain⟨e3,f3,he3⟩:∃e f',eraseF f k=(e,f'):=⟨_,_,rfl⟩
     have hsame:=eraseF_same f k
     rw[he3] at HER hsame
     have HE3:=Hh he3
     have HSM:Hid (f3.B=fl.B/\f3.P=fl.P):=⟨hsame.1.trans fB,hsame.2.trans fP⟩
     clear hbl b3 hps HRB HC HFF he3 hsame fB fP hg
     cases bl
     ·by_cases he:e3=0
      ·subst he
       have HN:Hid (fmt1 fl.B 0 fl=fmt1 (fl.B-(k+1)) (k+1) f3):=by
        show _=_
        rw[HFM.out,HBL.out,HE3.out,if_neg (by simp),if_neg (by simp)]
       go_wp2_with fail
       refine HIB.out.mono ?_
       rintro e w' ⟨rfl,rfl⟩
       go_wp2_with fail
       refine HER.out.mono ?_
       rintro e w5 ⟨rfl,h5,c5⟩
       have HF5:=Hh h5
       have HC5:Hid (Ch D w w5):=HC3.out.trans c5
       clear h5 c5
       go_wp2_with fail
       go_roundw
       case rel=>exact⟨k+1,by omega,by go_num,⟨f3,HF5.out,HSM.out.1,HSM.out.2,HN.out⟩,HC5⟩
       case measure=>simp[intOf];omega
      ·have hed:(e3==0)=false:=by simpa using he
       have HN:Hid (fmtF fl=(e3,f3)):=by
        have h9:fmt1 fl.B 0 fl=(e3,f3):=by rw[HFM.out,HBL.out,HE3.out,if_neg (by simp),if_pos he]
        show _=_
        unfold fmtF
        rw[if_neg (by rw[HU.out];simp),h9,if_pos he]
       go_wp2_with fail
       refine HIB.out.mono ?_
       rintro e w' ⟨rfl,rfl⟩
       go_wp2_with fail
       refine HER.out.mono ?_
       rintro e w5 ⟨rfl,h5,c5⟩
       have HF5:=Hh h5
       have HC5:Hid (Ch D w w5):=HC3.out.trans c5
       clear h5 c5
       go_wp2_with fail
       go_ret
       rw[HN.out]
       exact⟨rfl,HF5.out,HC5.out⟩
     ·have HN:Hid (fmt1 fl.B 0 fl=fmt1 (fl.B-(k+1)) (k+1) f):=by
       show _=_
       rw[HFM.out,HBL.out,if_pos rfl]
      go_wp2_with fail
      refine HIB.out.mono ?_
      rintro e w' ⟨rfl,rfl⟩
      go_wp2_with fail
      go_roundw
      case rel=>exact⟨k+1,by omega,by go_num,⟨f,HF3.out,HEQ.out.1,HEQ.out.2,HN.out⟩,HC3⟩
      case measure=>simp[intOf];omega
    ·rw[ho,if_pos rfl] at hfm
     have HN:Hid (fmtF fl=(16,f)):=by
      show _=_
      unfold fmtF
      rw[if_neg (by rw[HU.out];simp),hfm,if_pos (by simp)]
     clear hfm
     go_wp2_with fail
     refine HRB.out.mono ?_
     rintro e w3 ⟨b3,⟨_,rfl⟩|⟨h1,_⟩⟩
     ·have HF3:=Hh (HFF.out.below b3)
      have HC3:Hid (Ch D w w3):=HC.out.trans (Ch.of_below b3 D)
      clear b3
      go_wp2_with fail
      go_ret
      rw[HN.out]
      exact⟨rfl,HF3.out,HC3.out⟩
     ·rw[ho] at h1;cases h1
   ·have ek:k=fl.B:=by omega
    obtain⟨f,hf,fB,fP,hfm⟩:=HF.out
    rw[ek,Nat.sub_self,fmt1] at hfm
    have HFM:=Hh hfm
    have HSH:=Hh (shape_any hf)
    have HFF:=Hh hf
    have HEQ:Hid (f.B=fl.B/\f.P=fl.P):=⟨fB,fP⟩
    rw[fB] at HSH
    clear HF hf hfm fB fP
    go_wp2_with fail
    refine HSH.out.mono ?_
    rintro e w3 ⟨rfl,b3⟩
    have hfb:=field_B (.int .i64 fl.B) (.int .i64 f.P) (.int .i64 f.E) w3
    have HF3:=Hh (HFF.out.below b3)
    have HC3:Hid (Ch D w w3):=HC.out.trans (Ch.of_below b3 D)
    have HL0:Hid (0=least f 0):=rfl
    clear b3 HFF HC HSH
    go_wp2_with fail
    clear hfb
    go_loopw [7,39] (λx7 z wr=>∃j l:Nat,j<=fl.B/\l<fl.B/\x7=.int .i64 (l:Int)/\z=.int .i64 (j:Int)/\Hid (l=least f j)/\Hid (FW wr D X y f)/\Hid (Ch D w wr)) (λ_ z _=>fl.B-(intOf z).toNat)
    case atStart=>exact⟨0,0,by omega,by omega,rfl,rfl,HL0,HF3,HC3⟩
    case round=>
     clear HL0 HF3 HC3
     obtain⟨j,l,hj,hl,rfl,rfl,HL,HF,HC⟩:=hrel
     by_cases hlt2:j<fl.B
     ·have y0:(j:Int)<fl.B:=by omega
      have HE1:=Hh (erases_any HF.out (b:=j) (by rw[HEQ.out.1];exact hlt2))
      have HE2:=Hh (erases_any HF.out (b:=l) (by rw[HEQ.out.1];exact hl))
      have hle1:f.er j<=1000000000:=by have:=HF.out.her j (by rw[HEQ.out.1];exact hlt2);have:=HF.out.hE;omega
      by_cases hless:f.er j<f.er l
      ·have hI:(f.er j:Int)<(f.er l:Int):=by omega
       have HL2:Hid (j=least f (j+1)):=by show _=_;rw[least_succ,<-HL.out,if_pos hless]
       go_wp2_with fail
       refine HE1.out.mono ?_
       rintro e w' ⟨rfl,rfl⟩
       go_wp2_with fail
       refine HE2.out.mono ?_
       rintro e w' ⟨rfl,rfl⟩
       go_wp2_with fail
       go_roundw
       case rel=>exact⟨j+1,j,by omega,hlt2,rfl,by go_num,HL2,HF,HC⟩
       case measure=>simp[intOf];omega
      ·have hI:¬(f.er j:Int)<(f.er l:Int):=by omega
       have HL2:Hid (l=least f (j+1)):=by show _=_;rw[least_succ,<-HL.out,if_neg hless]
       go_wp2_with fail
       refine HE1.out.mono ?_
       rintro e w' ⟨rfl,rfl⟩
       go_wp2_with fail
       refine HE2.out.mono ?_
       rintro e w' ⟨rfl,rfl⟩
       go_wp2_with fail
       go_roundw
       case rel=>exact⟨j+1,l,by omega,hl,rfl,by go_num,HL2,HF,HC⟩
       case measure=>simp[intOf];omega
     ·have ej:j=fl.B:=by omega
      have HLL:Hid (l=least f fl.B):=by show _=_;rw[<-ej];exact HL.out
      obtain⟨hd,hhd⟩:∃s:ByteArray,s=⟨(hdr 1).toArray⟩:=⟨_,rfl⟩
      have hdl:hd.data.toList=hdr 1:=by rw[hhd]
      have hdz:hd.size=13:=by rw[bsz,hdl];unfold hdr;rw[recd_len];simp[be8]
      have HHD:Hid (Calls Tryz.prog 91 #[.int .u64 1] wr λe w'=>e=.returned (str (hdr 1))/\Below wr.heap.size wr w'):=header_any 1 wr
      rw[show str (hdr 1)=.string hd by rw[hhd]] at HHD
      obtain⟨e3,f3,he3⟩:∃e f',wrL f l 0 (pagesR (hdr 1))=(e,f'):=⟨_,_,rfl⟩
      have HWR:Hid (∀V1,FW V1 D X y f->Calls Tryz.prog 90 #[fptr X,.int .i64 l,.int .i64 0,.string hd] V1 λe w'=>e=.returned (.int .i64 e3)/\FW w' D X y f3/\Ch D V1 w'):=λ V1 hV1=>by
       have:=write_any hV1 (b:=l) (p:=0) (d:=hd) (by rw[HEQ.out.1];exact hl) (by omega) (by rw[HEQ.out.2,hdz];unfold pgs;omega)
       rw[hdl,he3] at this
       exact this
      have HN:Hid (fmtF fl=(e3,f3)):=by
       show _=_
       unfold fmtF
       rw[if_neg (by rw[HU.out];simp),HFM.out,if_neg (by simp)]
       show wrL f (least f fl.B) 0 _=_
       rw[<-HLL.out]
       exact he3
      clear hhd hdl he3
      go_wp2_with fail
      refine HHD.out.mono ?_
      rintro e w5 ⟨rfl,b5⟩
      have HF5:=Hh (HF.out.below b5)
      have HC5:Hid (Ch D w w5):=HC.out.trans (Ch.of_below b5 D)
      clear b5 HF HC
      go_wp2_with fail
      refine(HWR.out w5 HF5.out).mono ?_
      rintro e w6 ⟨rfl,h6,c6⟩
      have HF6:=Hh h6
      have HC6:Hid (Ch D w w6):=HC5.out.trans c6
      clear h6 c6
      go_wp2_with fail
      go_ret
      rw[HN.out]
      exact⟨rfl,HF6.out,HC6.out⟩
end
end
def two64:Int:=18446744073709551616
def mo (n:Int)(m:Nat):Nat:=(n%two64).toNat%m
theorem mo_lt (n:Int)(m:Nat)(hm:0<m):mo n m<m:=Nat.mod_lt _ hm
theorem mo_eq (n:Int)(m:Nat):(n%18446744073709551616)%(m:Int)=((mo n m:Nat):Int):=by
 have h:0<=n%18446744073709551616:=Int.emod_nonneg _ (by decide)
 unfold mo two64
 rw[Int.natCast_emod,Int.toNat_of_nonneg h]
theorem mo_walk (v:Int)(m:Nat)(h2:1<=m)(h3:m<=1000000):wrap64 ((IntKind.u64.wrap v).tmod m)=((mo v m:Nat):Int):=by
 have e:IntKind.u64.wrap v=v%18446744073709551616:=by simp[IntKind.wrap_u64]
 have h':=mo_lt v m h2
 rw[e,IntWalk.rem_in _ _ (by omega),mo_eq]
 exact IntWalk.wrap64_in _ (by omega)
theorem mod_any (n:Int)(m:Nat)(w:World)(hm:1<=m)(hm2:m<=1000000):Calls Tryz.prog 11 #[.int .i64 n,.int .i64 (m:Int)] w λe w'=>e=.returned (.int .i64 ((mo n m:Nat):Int))/\w=w':=by
 go_enter Tryz.func11,Tryz.ntmps11
 go_wp2
 go_ret
 exact⟨ret_int (mo_walk n m hm hm2),rfl⟩
section
theorem len_take64 {ps:List Str}(hl:∀p∈ps,p.length=64)(c:Nat):(ps.take c).flatten.length=min c ps.length*64:=by
 rw[flat_len _ (λp hp=>hl p (List.mem_of_mem_take hp)),List.length_take]
theorem dec_some {ps:List Str}{k:Nat}{n v:Str}{c:Nat}(hl:∀p∈ps,p.length=64)(h:dec ps=some (k,n,v,c)) :
  okLens k n.length v.length=true/\c=pgs (5+n.length+v.length)/\1<=c/\c<=ps.length:=by
 unfold dec at h
 dsimp only at h
 split at h
 ·cases h
 ·rename_i h1
  split at h
  ·cases h
  ·rename_i h2
   split at h
   ·simp only[Option.some.injEq,Prod.mk.injEq] at h
    obtain⟨e1,e2,e3,e4⟩:=h
    have hal:=len_take64 hl (pgs (5+((ps.getD 0 []).getD 1 0).toNat+((ps.getD 0 []).getD 2 0).toNat))
    have hp:5+((ps.getD 0 []).getD 1 0).toNat+((ps.getD 0 []).getD 2 0).toNat<=pgs (5+((ps.getD 0 []).getD 1 0).toNat+((ps.getD 0 []).getD 2 0).toNat)*64:=pgs_le _
    rw[Nat.min_eq_left (by omega)] at hal
    have hn:n.length=((ps.getD 0 []).getD 1 0).toNat:=by
     rw[<-e2,List.length_take,List.length_drop,hal];omega
    have hv:v.length=((ps.getD 0 []).getD 2 0).toNat:=by
     rw[<-e3,List.length_take,List.length_drop,hal];omega
    rw[hn,hv,<-e1,<-e4]
    refine⟨by simpa using h1,rfl,?_,by omega⟩
    unfold pgs;omega
   ·cases h
theorem okLens_k {k n v:Nat}(h:okLens k n v=true):k=1\/k=2\/k=3:=by
 unfold okLens at h
 simp only[Bool.or_eq_true,Bool.and_eq_true,beq_iff_eq,decide_eq_true_eq] at h
 rcases h with (h|h)|h
 ·exact .inl h.1.1.1
 ·exact .inr (.inl h.1.1.1)
 ·exact .inr (.inr h.1.1)
def appV (V:Vars)(k:Nat)(n v:Str):Vars:=if k=1 then setV V n v else if k=2 then delV V n else V
def rpl:Nat->List Str->Vars->Nat->Vars×Nat×Bool
 | 0,_,V,n=>(V,n,false)
 | f+1,ps,V,n=>if n<ps.length/\zeros (ps.getD n [])≠0 then (match dec (ps.drop n) with
  | none=>(V,n,true)
  | some (k,nm,v,c)=>rpl f ps (appV V k nm v) (n+c)) else (V,n,false)
theorem rpl_stop {f:Nat}{ps:List Str}{V:Vars}{n:Nat}(h:¬(n<ps.length/\zeros (ps.getD n [])≠0)):rpl f ps V n=(V,n,false):=by
 cases f with
 | zero=>rfl
 | succ f=>unfold rpl;rw[if_neg h]
theorem rpl_none {f:Nat}{ps:List Str}{V:Vars}{n:Nat}(h:n<ps.length/\zeros (ps.getD n [])≠0)(hd:dec (ps.drop n)=none):rpl (f+1) ps V n=(V,n,true):=by
 unfold rpl;rw[if_pos h,hd]
theorem rpl_some {f:Nat}{ps:List Str}{V:Vars}{n k c:Nat}{nm v:Str}(h:n<ps.length/\zeros (ps.getD n [])≠0)(hd:dec (ps.drop n)=some (k,nm,v,c)):rpl (f+1) ps V n=rpl f ps (appV V k nm v) (n+c):=by
 conv=>lhs;unfold rpl
 rw[if_pos h,hd]
theorem mem_delV {V:Vars}{k:Str}{q:Str×Str}(h:q∈delV V k):q∈V:=(List.mem_filter.1 h).1
theorem appV_srt {V:Vars}(h:Srt V)(k:Nat)(n v:Str):Srt (appV V k n v):=by
 unfold appV
 split
 ·exact h.set n v
 ·split
  ·exact h.del n
  ·exact h
theorem appV_hv {V:Vars}(h:∀p∈V,p.1.length<=24/\p.2.length<=128){k:Nat}{n v:Str}(hn:n.length<=24)(hv:v.length<=128):∀p∈appV V k n v,p.1.length<=24/\p.2.length<=128:=by
 unfold appV
 intro p hp
 split at hp
 ·rcases mem_setV hp with e|e
  ·rw[e];exact⟨hn,hv⟩
  ·exact h p e
 ·split at hp
  ·exact h p (mem_delV hp)
  ·exact h p hp
theorem SW.withNxt {w:World}{D:Nat->Prop}{S X m n nx:Nat}{st:ST}(h:SW w D S X m n st)(hx:nx<=1000):SW (w.setCell ⟨S,4,none⟩ (.int .i64 (nx:Int))) D S X m n ⟨st.V,st.blk,st.gen,nx,st.clo⟩:=
 { top:=(h.top.set (i:=4) (by omega) (.int .i64 (nx:Int))).congr λj hj=>by
    rcases(by omega:j=0\/j=1\/j=2\/j=3\/j=4\/j=5) with e|e|e|e|e|e<;>subst e<;>simp[upd,stc]
   map:=h.map.ch ((Ch.refl (λx=>x=S) w).setCell (p:=⟨S,4,none⟩) (λ_=>rfl) _) h.mS
   dS:=h.dS,dm:=h.dm,fin:=λk hk=>by simpa[World.setCell] using h.fin k hk
   srt:=h.srt,hv:=h.hv,hg:=h.hg,hn:=hx,hb:=h.hb }
theorem SW.withClo {w:World}{D:Nat->Prop}{S X m n:Nat}{st:ST}(h:SW w D S X m n st)(c:Bool):SW (w.setCell ⟨S,5,none⟩ (.bool c)) D S X m n ⟨st.V,st.blk,st.gen,st.nxt,c⟩:=
 { top:=(h.top.set (i:=5) (by omega) (.bool c)).congr λj hj=>by
    rcases(by omega:j=0\/j=1\/j=2\/j=3\/j=4\/j=5) with e|e|e|e|e|e<;>subst e<;>simp[upd,stc]
   map:=h.map.ch ((Ch.refl (λx=>x=S) w).setCell (p:=⟨S,5,none⟩) (λ_=>rfl) _) h.mS
   dS:=h.dS,dm:=h.dm,fin:=λk hk=>by simpa[World.setCell] using h.fin k hk
   srt:=h.srt,hv:=h.hv,hg:=h.hg,hn:=h.hn,hb:=h.hb }
theorem SW.withMap {w w':World}{D:Nat->Prop}{S X m n n':Nat}{st:ST}{V:Vars}(h:SW w D S X m n st)(c:Ch (λx=>x=m) w w')(hm:SM w' m n' V)(hs:Srt V)(hv:∀p∈V,p.1.length<=24/\p.2.length<=128):SW w' D S X m n' ⟨V,st.blk,st.gen,st.nxt,st.clo⟩:=
 { top:=(h.top.ch c (λe=>h.mS e.symm)).congr λj hj=>by
    rcases(by omega:j=0\/j=1\/j=2\/j=3\/j=4\/j=5) with e|e|e|e|e|e<;>subst e<;>rfl
   map:=hm,dS:=h.dS,dm:=h.dm,fin:=λk hk=>Nat.lt_of_lt_of_le (h.fin k hk) c.size
   srt:=hs,hv:=hv,hg:=h.hg,hn:=h.hn,hb:=h.hb }
section
variable {w:World}{D:Nat->Prop}{S X m n g cap P:Nat}{st:ST}{ps:List Str}
theorem replay_any (hs:SW w D S X m n st)(h:PS w g 0 cap ps)(hP:ps.length=P)(hP2:P<=32)(hl:∀p∈ps,p.length=64)(hg:¬D g)(hn:n<=900)(hc:st.clo=false)(hx:st.nxt<=P) :
  Calls Tryz.prog 101 #[fptr S,.slice (some ⟨g,0,none⟩) P cap] w λe w'=>e=.returned (.tuple #[])/\SW w' D S X m (n+P) ⟨(rpl P ps st.V st.nxt).1,st.blk,st.gen,(rpl P ps st.V st.nxt).2.1,(rpl P ps st.V st.nxt).2.2⟩/\Ch D w w':=by
 have hcap:P<=cap:=by have:=h.2.1;omega
 have hcapM:=h.2.2.1
 have H:=Hh h
 have HP:=Hh hP
 have HL:=Hh hl
 have HG:=Hh hg
 have c40:=hs.c4
 have HS0:Hid (SW w D S X m (n+0) ⟨st.V,st.blk,st.gen,st.nxt,false⟩):=by rw[<-hc];exact hs
 have HE0:Hid (rpl P ps st.V st.nxt=rpl (P-0) ps st.V st.nxt):=rfl
 have HC0:Hid (Ch D w w):=Ch.refl _ _
 have HCL:=Hh hc
 clear h hP hl hg hc hs
 go_enter Tryz.func101,Tryz.ntmps101
 go_wp2_with fail
 go_loopw [] (λwr=>∃(i nx:Nat) (V:Vars),i<=nx/\nx<=P/\wr.cell? ⟨S,4,none⟩=some (.int .i64 nx)/\Hid (rpl P ps st.V st.nxt=rpl (P-i) ps V nx)/\Hid (SW wr D S X m (n+i) ⟨V,st.blk,st.gen,nx,false⟩)/\Hid (Ch D w wr)) (λwr=>P-(intOf ((wr.cell? ⟨S,4,none⟩).getD undef)).toNat)
 case atStart=>exact⟨0,st.nxt,st.V,by omega,hx,c40,HE0,HS0,HC0⟩
 case round=>
  clear c40 HS0 HE0 HC0
  obtain⟨i,nx,V,hi,hnx,c4,HE,HS,HC⟩:=hrel
  by_cases hlt:nx<P
  ·have y0:(nx:Int)<P:=by omega
   have HPr:Hid (PS wr g 0 cap ps):=H.out.ch HC.out HG.out
   obtain⟨pg,hpg⟩:∃s:ByteArray,s=⟨(ps.getD nx []).toArray⟩:=⟨_,rfl⟩
   have hpl:pg.data.toList=ps.getD nx []:=by rw[hpg]
   have hpz:pg.size=64:=by
    have h0:nx<ps.length:=by rw[HP.out];exact hlt
    have h1:ps.getD nx []=ps[nx]:=by rw[List.getD_eq_getElem?_getD,List.getElem?_eq_getElem h0];rfl
    rw[bsz,hpl,h1]
    exact HL.out _ (List.getElem_mem h0)
   have cp:wr.cell? ⟨g,nx,none⟩=some (.string pg):=by
    have:=HPr.out.2.2.2 nx (by rw[HP.out];exact hlt)
    rw[Nat.zero_add] at this
    rw[this,hpg]
   have HZ:=Hh (zeroBits_any pg wr (by omega))
   rw[hpl] at HZ
   by_cases hz:zeros (ps.getD nx [])=0
   ·rw[hz] at HZ
    have HN:Hid (rpl P ps st.V st.nxt=(V,nx,false)):=by
     show _=_
     rw[HE.out,rpl_stop (λh=>h.2 hz)]
    clear hpg hpl hz HE
    go_wp2_with fail
    refine HZ.out.mono ?_
    rintro e w' ⟨rfl,rfl⟩
    go_wp2_with fail
    go_end0
    rw[HN.out]
    exact⟨rfl,HS.out.mono (by omega),HC.out⟩
   ·have hzd:((((zeros (ps.getD nx []):Nat):Int))==0)=false:=by simpa using hz
    have HNZ:Hid (nx<ps.length/\zeros (ps.getD nx [])≠0):=⟨by rw[HP.out];exact hlt,hz⟩
    obtain⟨z,hzz⟩:∃z,zeros (ps.getD nx [])=z:=⟨_,rfl⟩
    rw[hzz] at HZ hzd hz
    have hzI:¬(z:Int)=0:=by omega
    have hdl:(ps.drop nx).length=P-nx:=by rw[List.length_drop,HP.out]
    have HDC:=Hh (decode_any (HPr.out.drop (k:=nx) (by rw[HP.out];omega)) hdl (by omega) (by omega) (λp hp=>HL.out p (List.mem_of_mem_drop hp)))
    rw[Nat.zero_add] at HDC
    clear hpg hpl hzz hdl
    go_wp2_with fail
    refine HZ.out.mono ?_
    rintro e w' ⟨rfl,rfl⟩
    go_wp2_with fail
    refine HDC.out.mono ?_
    rintro e w3 ⟨rfl,b3⟩
    have HS3:=Hh (HS.out.ch (Ch.of_below b3 (λ_=>False)) (λ_ _ h=>h))
    have HC3:Hid (Ch D w w3):=HC.out.trans (Ch.of_below b3 D)
    clear HS HC b3 HDC HPr
    rcases hdec:dec (ps.drop nx) with _|⟨k,nm,v,c⟩
    ·have HN:Hid (rpl P ps st.V st.nxt=(V,nx,true)):=by
      show _=_
      rw[HE.out,show P-i=(P-i-1)+1 by omega,rpl_none HNZ.out hdec]
     have hB4:Below w3.heap.size w3 (w3.alloc (.cells #[.int .i64 0,.string ⟨#[]⟩,.string ⟨#[]⟩,.int .i64 0] 160)):=(Below.refl _ _).alloc (Nat.le_refl _) _
     have HS4:=Hh (HS3.out.below hB4)
     have HC4:Hid (Ch D w (w3.alloc (.cells #[.int .i64 0,.string ⟨#[]⟩,.string ⟨#[]⟩,.int .i64 0] 160))):=HC3.out.trans (Ch.of_below hB4 D)
     have c5:=HS4.out.c5
     have f5:=HS4.out.top.frozen 5
     have HS5:=Hh (HS4.out.withClo true)
     have HC5:=Hh (HC4.out.setCell (p:=⟨S,5,none⟩) (λ_=>HS4.out.dS) (.bool true))
     clear hdec hB4 HS3 HC3
     simp only[decV]
     go_wp2_with fail
     refine bodyPost_ret (results_none rfl _ _ _) rfl ?_
     rw[HN.out]
     exact⟨rfl,HS5.out.mono (by omega),HC5.out⟩
    ·have hds:=dec_some (λp hp=>HL.out p (List.mem_of_mem_drop hp)) hdec
     rw[List.length_drop,HP.out] at hds
     obtain⟨hok,hc0,hc1,hc2⟩:=hds
     have hle:=okLens_le hok
     have hk:=okLens_k hok
     have HN:Hid (rpl P ps st.V st.nxt=rpl (P-(i+1)) ps (appV V k nm v) (nx+c)):=by
      show _=_
      rw[HE.out,show P-i=(P-(i+1))+1 by omega,rpl_some HNZ.out hdec]
     obtain⟨ne,hne⟩:∃s:ByteArray,s=⟨nm.toArray⟩:=⟨_,rfl⟩
     obtain⟨ve,hve⟩:∃s:ByteArray,s=⟨v.toArray⟩:=⟨_,rfl⟩
     have hnl:ne.data.toList=nm:=by rw[hne]
     have hvl:ve.data.toList=v:=by rw[hve]
     have hns:ne.size<=24:=by rw[bsz,hnl];exact hle.1
     have e1:str nm=.string ne:=by rw[hne]
     have e2:str v=.string ve:=by rw[hve]
     have hB4:Below w3.heap.size w3 (w3.alloc (.cells #[.int .i64 k,.string ne,.string ve,.int .i64 c] 160)):=(Below.refl _ _).alloc (Nat.le_refl _) _
     have HS4:=Hh (HS3.out.below hB4)
     have HC4:Hid (Ch D w (w3.alloc (.cells #[.int .i64 k,.string ne,.string ve,.int .i64 c] 160))):=HC3.out.trans (Ch.of_below hB4 D)
     have HR4:Hid (Rg (w3.alloc (.cells #[.int .i64 k,.string ne,.string ve,.int .i64 c] 160)) w3.heap.size 160 4 (λj=>if j=0 then .int .i64 k else if j=1 then .string ne else if j=2 then .string ve else .int .i64 c)):=
      ⟨_,heap_alloc_new w3 _,λj hj=>by rcases(by omega:j=0\/j=1\/j=2\/j=3) with e|e|e|e<;>subst e<;>rfl⟩
     have HNV:Hid (nm=ne.data.toList/\v=ve.data.toList):=⟨hnl.symm,hvl.symm⟩
     have HLE:=Hh hle
     have hlt3:∀k,D k->k<w3.heap.size:=λk hk=>HS3.out.fin k hk
     have HDR:Hid (¬D w3.heap.size):=λh=>Nat.lt_irrefl _ (hlt3 _ h)
     clear hdec hB4 HS3 HC3 hne hve hnl hvl hle hlt3 hok hc0
     simp only[decV]
     rw[e1,e2]
     clear e1 e2
     have q0:=HR4.out.cell (i:=0) (by omega)
     rw[if_pos rfl] at q0
     obtain⟨R,hR⟩:∃R,w3.heap.size=R:=⟨_,rfl⟩
     have hmd:SM (w3.alloc (.cells #[.int .i64 k,.string ne,.string ve,.int .i64 c] 160)).drew m (n+i) V:=HS4.out.map.ch ((Ch.refl (λ_=>False) _).drew) id
     have S6:Hid ((w3.alloc (.cells #[.int .i64 k,.string ne,.string ve,.int .i64 c] 160)).drew.cell? ⟨S,1,none⟩=some (.map (some m))/\(w3.alloc (.cells #[.int .i64 k,.string ne,.string ve,.int .i64 c] 160)).drew.cell? ⟨w3.heap.size,1,none⟩=some (.string ne)/\(w3.alloc (.cells #[.int .i64 k,.string ne,.string ve,.int .i64 c] 160)).drew.cell? ⟨w3.heap.size,2,none⟩=some (.string ve)):=⟨HS4.out.c1,HR4.out.cell (i:=1) (by omega),HR4.out.cell (i:=2) (by omega)⟩
     have hRm:w3.heap.size≠m:=λe=>HDR.out (e▸HS4.out.dm)
     have hSd:=HS4.out.ch ((Ch.refl (λ_=>False) _).drew) (λ_ _ h=>h)
     rcases hk with hk1|hk1|hk1
     ·have hd1:((k:Int)==1)=true:=by rw[hk1];rfl
      have hd2:((k:Int)==2)=false:=by rw[hk1];rfl
      obtain⟨w5,hru,hm5,c5⟩:=hmd.store (by omega) (s:=ne) (by unfold maxLen;omega) ve
      have HS5:Hid (SW w5 D S X m (n+(i+1)) ⟨appV V k nm v,st.blk,st.gen,nx,false⟩):=by
       have:=hSd.withMap c5 (hm5.mono (n':=n+(i+1)) (by omega)) (hSd.srt.set _ _) (appV_hv (k:=1) hSd.hv (n:=ne.data.toList) (v:=ve.data.toList) (by rw[<-HNV.out.1];exact HLE.out.1) (by rw[<-HNV.out.2];exact HLE.out.2))
       rw[hk1,HNV.out.1,HNV.out.2]
       exact this
      have HC5:Hid (Ch D w w5):=(HC4.out.drew).andThen c5 (λi e _=>by rw[e];exact HS4.out.dm)
      have HR5:=Hh ((HR4.out.ch ((Ch.refl (λ_=>False) _).drew) id).ch c5 hRm)
      clear hmd hm5 c5 hSd HS4 HC4 HR4 hk1
      go_wp2_with fail
      generalize w3.alloc (.cells #[.int .i64 k,.string ne,.string ve,.int .i64 c] 160)=w4 at *
      rw[hR] at HR5 S6
      refine wp_region_pl (λ Y=>Y.cell? ⟨S,1,none⟩=some (.map (some m))/\Y.cell? ⟨R,1,none⟩=some (.string ne)/\Y.cell? ⟨R,2,none⟩=some (.string ve)) ((0,0)::(1,0)::(2,0)::(3,0)::(4,0)::(5,0)::(6,0)::(7,0)::(8,2)::[]) (by kernel_rfl) (by kernel_rfl) ?_
      iterate 8 (apply wpP_go;rfl;rfl;exact S6.out;(rintro Z ⟨s0,s1,s2⟩;go_simp;exact rfl);intro K hK;go_simp;refine hK _ ?_;clear hK K)
      apply wpP_two
      rfl
      intro K hK
      go_simp
      refine hK _ _ ?_
      clear hK K hru
      refine wpP_done ?_
      clear S6
      have hwi:IntKind.i64.wrap ((nx:Int)+(c:Int))=(nx:Int)+(c:Int):=IntWalk.i64_in _ ⟨by omega,by omega⟩
      have S9:Hid (w5.drew.cell? ⟨S,4,none⟩=some (.int .i64 nx)/\w5.drew.cell? ⟨R,3,none⟩=some (.int .i64 c)):=⟨HS5.out.c4,HR5.out.cell (i:=3) (by omega)⟩
      have f4:w5.drew.frozen? ⟨S,4,none⟩=false:=HS5.out.top.frozen 4
      have HS6:Hid (SW (w5.drew.setCell ⟨S,4,none⟩ (.int .i64 ((nx:Int)+(c:Int)))) D S X m (n+(i+1)) ⟨appV V k nm v,st.blk,st.gen,nx+c,false⟩):=by
       have:=(HS5.out.ch ((Ch.refl (λ_=>False) w5).drew) (λ_ _ h=>h)).withNxt (nx:=nx+c) (by omega)
       rw[show((nx+c:Nat):Int)=(nx:Int)+(c:Int) by omega] at this
       exact this
      have HC6:Hid (Ch D w (w5.drew.setCell ⟨S,4,none⟩ (.int .i64 ((nx:Int)+(c:Int))))):=(HC5.out.drew).setCell (p:=⟨S,4,none⟩) (λ_=>HS5.out.dS) _
      have z4:(w5.setCell ⟨S,4,none⟩ (.int .i64 ((nx:Int)+(c:Int)))).drew.cell? ⟨S,4,none⟩=some (.int .i64 ((nx:Int)+(c:Int))):=by
       have:=HS6.out.c4
       rw[show((nx+c:Nat):Int)=(nx:Int)+(c:Int) by omega] at this
       exact this
      clear HS5 HC5 HR5
      go_wp2_with fail
      refine wp_region_pl (λ Y=>Y.cell? ⟨S,4,none⟩=some (.int .i64 nx)/\Y.cell? ⟨R,3,none⟩=some (.int .i64 c)) ((0,0)::(1,0)::(2,0)::(3,0)::(4,0)::(5,0)::(6,0)::(7,1)::(8,1)::(9,2)::[]) (by kernel_rfl) (by kernel_rfl) ?_
      iterate 7 (apply wpP_go;rfl;rfl;exact S9.out;(rintro Z ⟨s0,s1⟩;go_simp;exact rfl);intro K hK;go_simp;refine hK _ ?_;clear hK K)
      iterate 2 (apply wpP_one;rfl;intro K hK;go_simp;refine hK _ _ S9.out ?_;clear hK K)
      have q4:=S9.out.1
      apply wpP_two
      rfl
      intro K hK
      go_simp
      refine hK _ _ ?_
      clear hK K q4
      refine wpP_done ?_
      clear S9
      go_wp2_with fail
      go_roundw
      case rel=>exact⟨i+1,nx+c,appV V k nm v,by omega,by omega,by rw[z4];simp,HN,HS6,HC6⟩
      case measure=>rw[z4];simp[intOf,c4];omega
     ·have hd1:((k:Int)==1)=false:=by rw[hk1];rfl
      have hd2:((k:Int)==2)=true:=by rw[hk1];rfl
      obtain⟨w5,hru,hm5,c5⟩:=hmd.drop (s:=ne) (by unfold maxLen;omega) 0
      have HS5:Hid (SW w5 D S X m (n+(i+1)) ⟨appV V k nm v,st.blk,st.gen,nx,false⟩):=by
       have:=hSd.withMap c5 (hm5.mono (n':=n+(i+1)) (by omega)) (hSd.srt.del _) (appV_hv (k:=2) hSd.hv (n:=ne.data.toList) (v:=ve.data.toList) (by rw[<-HNV.out.1];exact HLE.out.1) (by rw[<-HNV.out.2];exact HLE.out.2))
       rw[hk1,HNV.out.1]
       exact this
      have HC5:Hid (Ch D w w5):=(HC4.out.drew).andThen c5 (λi e _=>by rw[e];exact HS4.out.dm)
      have HR5:=Hh ((HR4.out.ch ((Ch.refl (λ_=>False) _).drew) id).ch c5 hRm)
      clear hmd hm5 c5 hSd HS4 HC4 HR4 hk1
      go_wp2_with fail
      generalize w3.alloc (.cells #[.int .i64 k,.string ne,.string ve,.int .i64 c] 160)=w4 at *
      rw[hR] at HR5 S6
      refine wp_region_pl (λ Y=>Y.cell? ⟨S,1,none⟩=some (.map (some m))/\Y.cell? ⟨R,1,none⟩=some (.string ne)/\Y.cell? ⟨R,2,none⟩=some (.string ve)) ((0,0)::(1,0)::(2,0)::(3,0)::(4,0)::(5,0)::(6,1)::[]) (by kernel_rfl) (by kernel_rfl) ?_
      iterate 6 (apply wpP_go;rfl;rfl;exact S6.out;(rintro Z ⟨s0,s1,s2⟩;go_simp;exact rfl);intro K hK;go_simp;refine hK _ ?_;clear hK K)
      apply wpP_one
      rfl
      intro K hK
      go_simp
      refine hK _ _ ⟨HS5.out.c1,HR5.out.cell (i:=1) (by omega),HR5.out.cell (i:=2) (by omega)⟩ ?_
      clear hK K hru
      refine wpP_done ?_
      clear S6
      have hwi:IntKind.i64.wrap ((nx:Int)+(c:Int))=(nx:Int)+(c:Int):=IntWalk.i64_in _ ⟨by omega,by omega⟩
      have S9:Hid (w5.drew.cell? ⟨S,4,none⟩=some (.int .i64 nx)/\w5.drew.cell? ⟨R,3,none⟩=some (.int .i64 c)):=⟨HS5.out.c4,HR5.out.cell (i:=3) (by omega)⟩
      have f4:w5.drew.frozen? ⟨S,4,none⟩=false:=HS5.out.top.frozen 4
      have HS6:Hid (SW (w5.drew.setCell ⟨S,4,none⟩ (.int .i64 ((nx:Int)+(c:Int)))) D S X m (n+(i+1)) ⟨appV V k nm v,st.blk,st.gen,nx+c,false⟩):=by
       have:=(HS5.out.ch ((Ch.refl (λ_=>False) w5).drew) (λ_ _ h=>h)).withNxt (nx:=nx+c) (by omega)
       rw[show((nx+c:Nat):Int)=(nx:Int)+(c:Int) by omega] at this
       exact this
      have HC6:Hid (Ch D w (w5.drew.setCell ⟨S,4,none⟩ (.int .i64 ((nx:Int)+(c:Int))))):=(HC5.out.drew).setCell (p:=⟨S,4,none⟩) (λ_=>HS5.out.dS) _
      have z4:(w5.setCell ⟨S,4,none⟩ (.int .i64 ((nx:Int)+(c:Int)))).drew.cell? ⟨S,4,none⟩=some (.int .i64 ((nx:Int)+(c:Int))):=by
       have:=HS6.out.c4
       rw[show((nx+c:Nat):Int)=(nx:Int)+(c:Int) by omega] at this
       exact this
      clear HS5 HC5 HR5
      go_wp2_with fail
      refine wp_region_pl (λ Y=>Y.cell? ⟨S,4,none⟩=some (.int .i64 nx)/\Y.cell? ⟨R,3,none⟩=some (.int .i64 c)) ((0,0)::(1,0)::(2,0)::(3,0)::(4,0)::(5,0)::(6,0)::(7,1)::(8,1)::(9,2)::[]) (by kernel_rfl) (by kernel_rfl) ?_
      iterate 7 (apply wpP_go;rfl;rfl;exact S9.out;(rintro Z ⟨s0,s1⟩;go_simp;exact rfl);intro K hK;go_simp;refine hK _ ?_;clear hK K)
      iterate 2 (apply wpP_one;rfl;intro K hK;go_simp;refine hK _ _ S9.out ?_;clear hK K)
      have q4:=S9.out.1
      apply wpP_two
      rfl
      intro K hK
      go_simp
      refine hK _ _ ?_
      clear hK K q4
      refine wpP_done ?_
      clear S9
      go_wp2_with fail
      go_roundw
      case rel=>exact⟨i+1,nx+c,appV V k nm v,by omega,by omega,by rw[z4];simp,HN,HS6,HC6⟩
      case measure=>rw[z4];simp[intOf,c4];omega
     ·have hd1:((k:Int)==1)=false:=by rw[hk1];rfl
      have hd2:((k:Int)==2)=false:=by rw[hk1];rfl
      have HS5:Hid (SW (w3.alloc (.cells #[.int .i64 k,.string ne,.string ve,.int .i64 c] 160)) D S X m (n+(i+1)) ⟨appV V k nm v,st.blk,st.gen,nx,false⟩):=by rw[show appV V k nm v=V by rw[hk1];rfl];exact HS4.out.mono (by omega)
      have HC5:=HC4
      have HR5:=HR4
      clear hk1
      clear hmd hSd HS4 HC4 HR4 S6
      go_upto_region 9 with fail
      generalize w3.alloc (.cells #[.int .i64 k,.string ne,.string ve,.int .i64 c] 160)=w4 at *
      rw[hR] at HR5
      have hwi:IntKind.i64.wrap ((nx:Int)+(c:Int))=(nx:Int)+(c:Int):=IntWalk.i64_in _ ⟨by omega,by omega⟩
      have S9:Hid (w4.drew.cell? ⟨S,4,none⟩=some (.int .i64 nx)/\w4.drew.cell? ⟨R,3,none⟩=some (.int .i64 c)):=⟨HS5.out.c4,HR5.out.cell (i:=3) (by omega)⟩
      have f4:w4.drew.frozen? ⟨S,4,none⟩=false:=HS5.out.top.frozen 4
      have HS6:Hid (SW (w4.drew.setCell ⟨S,4,none⟩ (.int .i64 ((nx:Int)+(c:Int)))) D S X m (n+(i+1)) ⟨appV V k nm v,st.blk,st.gen,nx+c,false⟩):=by
       have:=(HS5.out.ch ((Ch.refl (λ_=>False) w4).drew) (λ_ _ h=>h)).withNxt (nx:=nx+c) (by omega)
       rw[show((nx+c:Nat):Int)=(nx:Int)+(c:Int) by omega] at this
       exact this
      have HC6:Hid (Ch D w (w4.drew.setCell ⟨S,4,none⟩ (.int .i64 ((nx:Int)+(c:Int))))):=(HC5.out.drew).setCell (p:=⟨S,4,none⟩) (λ_=>HS5.out.dS) _
      have z4:(w4.setCell ⟨S,4,none⟩ (.int .i64 ((nx:Int)+(c:Int)))).drew.cell? ⟨S,4,none⟩=some (.int .i64 ((nx:Int)+(c:Int))):=by
       have:=HS6.out.c4
       rw[show((nx+c:Nat):Int)=(nx:Int)+(c:Int) by omega] at this
       exact this
      clear HS5 HC5 HR5
      go_wp2_with fail
      refine wp_region_pl (λ Y=>Y.cell? ⟨S,4,none⟩=some (.int .i64 nx)/\Y.cell? ⟨R,3,none⟩=some (.int .i64 c)) ((0,0)::(1,0)::(2,0)::(3,0)::(4,0)::(5,0)::(6,0)::(7,1)::(8,1)::(9,2)::[]) (by kernel_rfl) (by kernel_rfl) ?_
      iterate 7 (apply wpP_go;rfl;rfl;exact S9.out;(rintro Z ⟨s0,s1⟩;go_simp;exact rfl);intro K hK;go_simp;refine hK _ ?_;clear hK K)
      iterate 2 (apply wpP_one;rfl;intro K hK;go_simp;refine hK _ _ S9.out ?_;clear hK K)
      have q4:=S9.out.1
      apply wpP_two
      rfl
      intro K hK
      go_simp
      refine hK _ _ ?_
      clear hK K q4
      refine wpP_done ?_
      clear S9
      go_wp2_with fail
      go_roundw
      case rel=>exact⟨i+1,nx+c,appV V k nm v,by omega,by omega,by rw[z4];simp,HN,HS6,HC6⟩
      case measure=>rw[z4];simp[intOf,c4];omega
  ·have y0:¬(nx:Int)<P:=by omega
   have HN:Hid (rpl P ps st.V st.nxt=(V,nx,false)):=by
    show _=_
    rw[HE.out,rpl_stop (λh=>by have:=h.1;rw[HP.out] at this;omega)]
   go_wp2_with fail
   go_end0
   rw[HN.out]
   exact⟨rfl,HS.out.mono (by omega),HC.out⟩
end
end
end Go.Proofs.YtdinbpdpalgohaaGreatDoor
