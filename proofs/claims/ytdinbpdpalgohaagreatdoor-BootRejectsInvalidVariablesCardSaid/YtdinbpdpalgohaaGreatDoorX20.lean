/- Walks and laws: CJ CK DM DN CO CP DO DP DQ. Conditions: those that each theorem names. -/
import Derived.Test.YtdinbpdpalgohaaGreatDoorX19
import Derived.Test.YtdinbpdpalgohaaGreatDoorX13
set_option maxHeartbeats 4000000
set_option maxRecDepth 100000
namespace Go.Proofs.YtdinbpdpalgohaaGreatDoor
open Go.RowKit
section
def doM (m:Nat)(b:BM)(c:BC):(Int×Int)×Int×BM:=match m with
 | 0=>((0,0),setEntryB b (cidV c) (sumS (imgB c.im)) (!c.ina) (catV c))
 | 1=>((0,0),setEntryB b (cidV c) (sumS (imgB c.im)) (!c.ina) (catV c))
 | 2=>((0,0),setOrderB b (ordC c))
 | 3=>((0,0),setNextB b (cidV c))
 | 4=>((0,0),denyB b (sumS (imgB c.im)))
 | 5=>((0,0),beginB b)
 | 6=>((0,0),beginB b)
 | 10=>((0,0),succB b)
 | _=>tryB b (imgL c)
def doB (b:BM)(c:BC):(Int×Int)×Int×BM:=doM (mo c.kd 12) b c
section
variable {w W2 w3:World}{N M S L n n' E:Nat}{F:Nat->Prop}{b b':BM}
theorem BF.news (h:BF w N F M S L n b)(c:Below w.heap.size w W2):BF W2 N (λk=>F k\/(w.heap.size<=k/\k<W2.heap.size)) M S L n b:=by
 obtain⟨O,q1,q2⟩:=h
 refine⟨O,q1.below c,λk hk=>?_⟩
 rcases hk with hk|hk
 ·exact⟨(q2 k hk).1,Nat.lt_of_lt_of_le (q2 k hk).2 c.size⟩
 ·exact⟨λhO=>by have:=(q1.oN k hO).2;omega,hk.2⟩
theorem do_fin {t:Nat}(h0:BF w N F M S L n b)(b2:Below w.heap.size w W2)(hE:w.heap.size<=E)(hR:Row W2 E t 2 (stp 0 0))(bl:BL W2 w3 N (λk=>F k\/(w.heap.size<=k/\k<W2.heap.size)) M S L n' b')(x y:Int) :
  Row w3 E t 2 (stp 0 0)/\Row ((w3.setCell ⟨E,0,none⟩ (.int .i64 x)).setCell ⟨E,1,none⟩ (.int .i64 y)) E t 2 (stp x y)/\BL w ((w3.setCell ⟨E,0,none⟩ (.int .i64 x)).setCell ⟨E,1,none⟩ (.int .i64 y)) N F M S L n' b':=by
 have hR3:=hR.ch bl.ch (λq=>q (.inr ⟨hE,hR.lt⟩))
 have c4:Ch (λk=>k=E) w3 ((w3.setCell ⟨E,0,none⟩ (.int .i64 x)).setCell ⟨E,1,none⟩ (.int .i64 y)):=((Ch.refl (λk=>k=E) w3).setCell (p:=⟨E,0,none⟩) (λ_=>rfl) _).setCell (p:=⟨E,1,none⟩) (λ_=>rfl) _
 have hp:=h0.pos
 refine⟨hR3,((hR3.set (i:=0) (by omega) (.int .i64 x)).set (i:=1) (by omega) (.int .i64 y)).congr (v':=stp x y) (λj hj=>by
  rcases(by omega:j=0\/j=1) with e|e<;>subst e<;>rfl),?_,?_,?_⟩
 ·exact(bl.bf.own c4 (λk hk _=>by subst hk;exact⟨.inr ⟨hE,hR.lt⟩,by omega⟩)).less (λk hk=>.inl hk)
 ·exact(Ch.of_below b2 _).trans ((bl.ch.mono (λi hi _ hF=>hi (.inl hF))).trans (c4.mono (λi hi _ hF=>by subst hi;have:=h0.lt i hF;omega)))
 ·have hN:=h0.N_le
  exact(((b2.mono hN).trans bl.bel).setCell (p:=⟨E,0,none⟩) (by show N<=E;omega) _).setCell (p:=⟨E,1,none⟩) (by show N<=E;omega) _
end
theorem do_any {w:World}{N M S L n:Nat}{F:Nat->Prop}{b:BM}(h:BF w N F M S L n b)(hb:b.st.blk<b.fl.B)(hn:n<1000)(hc:∀x∈b.cand,isId x=true)(hes:b.es.length<256)(hlg:b.log.length<=1000)(c:BC)(hrd:RdJ w c.ol c.od)(hlen:c.od.length<=20) :
  Calls Tryz.prog 25 #[fptr M,cBa c] w (LT w N F M S L (n+1) (doB b c)):=by
 unfold doB
 have HMD:Hid (∀W,Calls Tryz.prog 11 #[.int .i64 c.kd,.int .i64 12] W λe w'=>e=.returned (.int .i64 ((mo c.kd 12:Nat):Int))/\W=w'):=λ W=>mod_any c.kd 12 W (by omega) (by omega)
 have hm:mo c.kd 12<12:=mo_lt c.kd 12 (by omega)
 generalize mo c.kd 12=m at *
 have HEN:Hid (∀W,Calls Tryz.prog 62 #[cBa c] W λe w'=>e=.returned (.agg (Ms.arr 35 (ecl (cidV c) (sumS (imgB c.im)) (!c.ina) (catV c))))/\Below W.heap.size W w'):=λ W=>centry_any c W
 have HID:Hid (∀W,Calls Tryz.prog 64 #[cBa c] W λe w'=>e=.returned (.int .i64 (cidV c))/\Below W.heap.size W w'):=λ W=>cid_any c W
 have HOR:Hid (∀W,Below w.heap.size w W->Calls Tryz.prog 63 #[cBa c] W λe w'=>∃v,e=.returned v/\RdJ w' v (ordC c)/\Below W.heap.size W w'):=λ W b=>cord_any c W (hrd.below b (Nat.le_refl _)) hlen
 have HIS:Hid (∀W,Calls Tryz.prog 26 #[cBa c] W λe w'=>∃g,e=.returned (.slice (some ⟨g,0,none⟩) (mo c.tr 3+3) 5)/\W.heap.size<=g/\RdT w' (.slice (some ⟨g,0,none⟩) (mo c.tr 3+3) 5) (imgL c)/\Below W.heap.size W w'):=λ W=>images_any c W
 obtain⟨im,him⟩:∃im,imgB c.im=im:=⟨_,rfl⟩
 have hims:im.size<=1073741824:=by have:=imgB_size c.im;rw[<-him];omega
 have HIM:Hid (∀W,Calls Tryz.prog 66 #[.int .i64 c.im] W λe w'=>e=.returned (.string im)/\W=w'):=λ W=>by rw[<-him];exact image_any c.im W
 have HSM:Hid (∀W,Calls Tryz.prog 65 #[.string im] W λe w'=>e=.returned (.agg (Ms.arr 32 (Ms.b8 (dgF (sumS im)))))/\Below W.heap.size W w'):=λ W=>rsum_str im W hims
 have HIZ:=Hh (imgL_size c)
 have HCC:=Hh (And.intro hc (And.intro hes hlg))
 have HBF:=Hh h
 have HM:=Hh him
 rw[him] at HEN
 clear h hrd hlen him hims hc hes hlg
 unfold cBa at *
 have e1:(w.alloc (.cells #[.int .i64 c.kd,.int .i64 c.id,.int .i64 c.im,.int .i64 c.tr,c.ol,.bool c.ina,.bool c.raw] 54)).heap.size=w.heap.size+1:=by simp
 have HX:Hid (CX ((w.alloc (.cells #[.int .i64 c.kd,.int .i64 c.id,.int .i64 c.im,.int .i64 c.tr,c.ol,.bool c.ina,.bool c.raw] 54)).alloc (.cells #[.int .i64 0,.int .i64 0] 40)) w.heap.size 0 c):=(CX.made w c).below ((Below.refl _ _).alloc (Nat.le_refl _) _) (by simp)
 have HR:Hid (Row ((w.alloc (.cells #[.int .i64 c.kd,.int .i64 c.id,.int .i64 c.im,.int .i64 c.tr,c.ol,.bool c.ina,.bool c.raw] 54)).alloc (.cells #[.int .i64 0,.int .i64 0] 40)) (w.heap.size+1) 40 2 (stp 0 0)):=by rw[<-e1];exact Row.ofList _ 40 _ _ 2 rfl
 have HB:Hid (Below w.heap.size w ((w.alloc (.cells #[.int .i64 c.kd,.int .i64 c.id,.int .i64 c.im,.int .i64 c.tr,c.ol,.bool c.ina,.bool c.raw] 54)).alloc (.cells #[.int .i64 0,.int .i64 0] 40))):=((Below.refl _ _).alloc (Nat.le_refl _) _).alloc (by simp) _
 clear e1
 go_enter Tryz.func25,Tryz.ntmps25
 go_upto_region 1 with fail
 generalize (w.alloc (.cells #[.int .i64 c.kd,.int .i64 c.id,.int .i64 c.im,.int .i64 c.tr,c.ol,.bool c.ina,.bool c.raw] 54)).alloc (.cells #[.int .i64 0,.int .i64 0] 40)=W1 at *
 obtain⟨T,hT⟩:∃T,w.heap.size=T:=⟨_,rfl⟩
 have HT:=Hh hT
 rw[hT] at HX HR ⊢
 clear hT
 have c0:=HX.out.c0
 go_wp2_with fail
 refine(HMD.out _).mono ?_
 rintro e w' ⟨rfl,rfl⟩
 clear c0 HMD
 obtain⟨c0,c1,c2,c3,c4,c5,c6,clt⟩:=HX.out
 have hm':(m=0\/m=1)\/m=2\/m=3\/m=4\/(m=5\/m=6)\/m=10\/m=7\/m=8\/m=9\/m=11:=by omega
 clear hm
 rcases hm' with hm'|rfl|rfl|rfl|hm'|rfl|hm'
 ·have HRH:=HM
  rcases hm' with rfl|rfl
  all_goals
   go_wp2_with fail
   refine(HEN.out _).mono ?_
   rintro e w2 ⟨rfl,b2⟩
   have HB2:Hid (Below w.heap.size w w2):=HB.out.trans (b2.mono HB.out.size)
   have HR2:Hid (Row w2 (T+1) 40 2 (stp 0 0)):=HR.out.below b2 HR.out.lt
   obtain⟨r,hr⟩:∃r,setEntryB b (cidV c) (sumS (imgB c.im)) (!c.ina) (catV c)=r:=⟨_,rfl⟩
   have HRE:=Hh hr
   have HC:=HBF.out.news HB2.out |>.setEntry hb hn (cidV c) (sumS_len (imgB c.im)) (!c.ina) (catV c)
   rw[hr] at HC
   have HCL:=Hh HC
   clear HC hr
   clear HX b2
   rw[HM.out] at HCL
   go_wp2_with fail
   refine HCL.out.mono ?_
   rintro e w3 ⟨rfl,bl⟩
   clear HCL
   obtain⟨r3,r4,bl4⟩:=do_fin HBF.out HB2.out (by have:=HT.out;omega) HR2.out bl 0 0
   have z0:w3.cell? ⟨T+1,0,none⟩=some (.int .i64 0):=r3.cell (i:=0) (by omega)
   have z1:w3.cell? ⟨T+1,1,none⟩=some (.int .i64 0):=r3.cell (i:=1) (by omega)
   have fz0:=r3.frozen 0
   have fz1:=r3.frozen 1
   have HR4:=Hh r4
   have HBL:=Hh bl4
   clear r3 r4 bl4 bl
   go_wp2_with fail
   exact bodyPost_ret (v:=.tuple #[.agg #[.int .i64 0,.int .i64 0],.int .i64 r.1]) (res2 rfl _ _ (T+1) #[.int .i64 0,.int .i64 0] _ rfl rfl (ret40 HR4.out)) rfl (by
    show LT _ _ _ _ _ _ _ ((0,0),setEntryB b (cidV c) (sumS (imgB c.im)) (!c.ina) (catV c)) _ _
    rw[HRE.out]
    exact⟨rfl,HBL.out⟩)
 ·have HRH:=HM
  go_wp2_with fail
  refine(HOR.out _ HB.out).mono ?_
  rintro e w2 ⟨v,rfl,hv,b2⟩
  have HB2:Hid (Below w.heap.size w w2):=HB.out.trans (b2.mono HB.out.size)
  have HR2:Hid (Row w2 (T+1) 40 2 (stp 0 0)):=HR.out.below b2 HR.out.lt
  obtain⟨r,hr⟩:∃r,setOrderB b (ordC c)=r:=⟨_,rfl⟩
  have HRE:=Hh hr
  have HC:=HBF.out.news HB2.out |>.setOrder hb hn hv
  rw[hr] at HC
  have HCL:=Hh HC
  clear HC hr
  clear HX b2 hv
  go_wp2_with fail
  refine HCL.out.mono ?_
  rintro e w3 ⟨rfl,bl⟩
  clear HCL
  obtain⟨r3,r4,bl4⟩:=do_fin HBF.out HB2.out (by have:=HT.out;omega) HR2.out bl 0 0
  have z0:w3.cell? ⟨T+1,0,none⟩=some (.int .i64 0):=r3.cell (i:=0) (by omega)
  have z1:w3.cell? ⟨T+1,1,none⟩=some (.int .i64 0):=r3.cell (i:=1) (by omega)
  have fz0:=r3.frozen 0
  have fz1:=r3.frozen 1
  have HR4:=Hh r4
  have HBL:=Hh bl4
  clear r3 r4 bl4 bl
  go_wp2_with fail
  exact bodyPost_ret (v:=.tuple #[.agg #[.int .i64 0,.int .i64 0],.int .i64 r.1]) (res2 rfl _ _ (T+1) #[.int .i64 0,.int .i64 0] _ rfl rfl (ret40 HR4.out)) rfl (by
   show LT _ _ _ _ _ _ _ ((0,0),setOrderB b (ordC c)) _ _
   rw[HRE.out]
   exact⟨rfl,HBL.out⟩)
 ·have HRH:=HM
  go_wp2_with fail
  refine(HID.out _).mono ?_
  rintro e w2 ⟨rfl,b2⟩
  have HB2:Hid (Below w.heap.size w w2):=HB.out.trans (b2.mono HB.out.size)
  have HR2:Hid (Row w2 (T+1) 40 2 (stp 0 0)):=HR.out.below b2 HR.out.lt
  obtain⟨r,hr⟩:∃r,setNextB b (cidV c)=r:=⟨_,rfl⟩
  have HRE:=Hh hr
  have HC:=HBF.out.news HB2.out |>.setNext hb hn (cidV c)
  rw[hr] at HC
  have HCL:=Hh HC
  clear HC hr
  clear HX b2
  go_wp2_with fail
  refine HCL.out.mono ?_
  rintro e w3 ⟨rfl,bl⟩
  clear HCL
  obtain⟨r3,r4,bl4⟩:=do_fin HBF.out HB2.out (by have:=HT.out;omega) HR2.out bl 0 0
  have z0:w3.cell? ⟨T+1,0,none⟩=some (.int .i64 0):=r3.cell (i:=0) (by omega)
  have z1:w3.cell? ⟨T+1,1,none⟩=some (.int .i64 0):=r3.cell (i:=1) (by omega)
  have fz0:=r3.frozen 0
  have fz1:=r3.frozen 1
  have HR4:=Hh r4
  have HBL:=Hh bl4
  clear r3 r4 bl4 bl
  go_wp2_with fail
  exact bodyPost_ret (v:=.tuple #[.agg #[.int .i64 0,.int .i64 0],.int .i64 r.1]) (res2 rfl _ _ (T+1) #[.int .i64 0,.int .i64 0] _ rfl rfl (ret40 HR4.out)) rfl (by
   show LT _ _ _ _ _ _ _ ((0,0),setNextB b (cidV c)) _ _
   rw[HRE.out]
   exact⟨rfl,HBL.out⟩)
 ·have HRH:=HM
  go_wp2_with fail
  refine(HIM.out _).mono ?_
  rintro e w' ⟨rfl,rfl⟩
  go_wp2_with fail
  refine(HSM.out _).mono ?_
  rintro e w2 ⟨rfl,b2⟩
  have HB2:Hid (Below w.heap.size w w2):=HB.out.trans (b2.mono HB.out.size)
  have HR2:Hid (Row w2 (T+1) 40 2 (stp 0 0)):=HR.out.below b2 HR.out.lt
  obtain⟨r,hr⟩:∃r,denyB b (sumS (imgB c.im))=r:=⟨_,rfl⟩
  have HRE:=Hh hr
  have HC:=HBF.out.news HB2.out |>.deny hb hn (sumS_len (imgB c.im))
  rw[hr] at HC
  have HCL:=Hh HC
  clear HC hr
  clear HX b2
  rw[HM.out] at HCL
  go_wp2_with fail
  refine HCL.out.mono ?_
  rintro e w3 ⟨rfl,bl⟩
  clear HCL
  obtain⟨r3,r4,bl4⟩:=do_fin HBF.out HB2.out (by have:=HT.out;omega) HR2.out bl 0 0
  have z0:w3.cell? ⟨T+1,0,none⟩=some (.int .i64 0):=r3.cell (i:=0) (by omega)
  have z1:w3.cell? ⟨T+1,1,none⟩=some (.int .i64 0):=r3.cell (i:=1) (by omega)
  have fz0:=r3.frozen 0
  have fz1:=r3.frozen 1
  have HR4:=Hh r4
  have HBL:=Hh bl4
  clear r3 r4 bl4 bl
  go_wp2_with fail
  exact bodyPost_ret (v:=.tuple #[.agg #[.int .i64 0,.int .i64 0],.int .i64 r.1]) (res2 rfl _ _ (T+1) #[.int .i64 0,.int .i64 0] _ rfl rfl (ret40 HR4.out)) rfl (by
   show LT _ _ _ _ _ _ _ ((0,0),denyB b (sumS (imgB c.im))) _ _
   rw[HRE.out]
   exact⟨rfl,HBL.out⟩)
 ·have HRH:=HM
  rcases hm' with rfl|rfl
  all_goals
   have HB2:=HB
   have HR2:=HR
   obtain⟨r,hr⟩:∃r,beginB b=r:=⟨_,rfl⟩
   have HRE:=Hh hr
   have HC:=HBF.out.news HB2.out |>.begin hb hn
   rw[hr] at HC
   have HCL:=Hh HC
   clear HC hr
   clear HX
   go_wp2_with fail
   refine HCL.out.mono ?_
   rintro e w3 ⟨rfl,bl⟩
   clear HCL
   obtain⟨r3,r4,bl4⟩:=do_fin HBF.out HB2.out (by have:=HT.out;omega) HR2.out bl 0 0
   have z0:w3.cell? ⟨T+1,0,none⟩=some (.int .i64 0):=r3.cell (i:=0) (by omega)
   have z1:w3.cell? ⟨T+1,1,none⟩=some (.int .i64 0):=r3.cell (i:=1) (by omega)
   have fz0:=r3.frozen 0
   have fz1:=r3.frozen 1
   have HR4:=Hh r4
   have HBL:=Hh bl4
   clear r3 r4 bl4 bl
   go_wp2_with fail
   exact bodyPost_ret (v:=.tuple #[.agg #[.int .i64 0,.int .i64 0],.int .i64 r.1]) (res2 rfl _ _ (T+1) #[.int .i64 0,.int .i64 0] _ rfl rfl (ret40 HR4.out)) rfl (by
    show LT _ _ _ _ _ _ _ ((0,0),beginB b) _ _
    rw[HRE.out]
    exact⟨rfl,HBL.out⟩)
 ·have HRH:=HM
  have HB2:=HB
  have HR2:=HR
  obtain⟨r,hr⟩:∃r,succB b=r:=⟨_,rfl⟩
  have HRE:=Hh hr
  have HC:=HBF.out.news HB2.out |>.succ hb hn
  rw[hr] at HC
  have HCL:=Hh HC
  clear HC hr
  clear HX
  go_wp2_with fail
  refine HCL.out.mono ?_
  rintro e w3 ⟨rfl,bl⟩
  clear HCL
  obtain⟨r3,r4,bl4⟩:=do_fin HBF.out HB2.out (by have:=HT.out;omega) HR2.out bl 0 0
  have z0:w3.cell? ⟨T+1,0,none⟩=some (.int .i64 0):=r3.cell (i:=0) (by omega)
  have z1:w3.cell? ⟨T+1,1,none⟩=some (.int .i64 0):=r3.cell (i:=1) (by omega)
  have fz0:=r3.frozen 0
  have fz1:=r3.frozen 1
  have HR4:=Hh r4
  have HBL:=Hh bl4
  clear r3 r4 bl4 bl
  go_wp2_with fail
  exact bodyPost_ret (v:=.tuple #[.agg #[.int .i64 0,.int .i64 0],.int .i64 r.1]) (res2 rfl _ _ (T+1) #[.int .i64 0,.int .i64 0] _ rfl rfl (ret40 HR4.out)) rfl (by
   show LT _ _ _ _ _ _ _ ((0,0),succB b) _ _
   rw[HRE.out]
   exact⟨rfl,HBL.out⟩)
 ·have HRH:=HM
  rcases hm' with rfl|rfl|rfl|rfl
  all_goals
   go_wp2_with fail
   refine(HIS.out _).mono ?_
   rintro e w2 ⟨g,rfl,hg,ht,b2⟩
   have HB2:Hid (Below w.heap.size w w2):=HB.out.trans (b2.mono HB.out.size)
   have HR2:Hid (Row w2 (T+1) 40 2 (stp 0 0)):=HR.out.below b2 HR.out.lt
   obtain⟨r,hr⟩:∃r,tryB b (imgL c)=r:=⟨_,rfl⟩
   have HRE:=Hh hr
   have hgl:g<w2.heap.size:=by obtain⟨_,_,_,_,_,h3,_⟩:=ht;exact h3 g rfl
   have hgw:w.heap.size<=g:=Nat.le_trans HB.out.size hg
   have HC:=(HBF.out.news HB2.out).try hb hn HCC.out.1 HCC.out.2.1 HCC.out.2.2 ht (λq hq=>by
    have e:g=q:=by simpa[Value.ownBlock] using hq
    subst e
    exact .inr ⟨hgw,hgl⟩) HIZ.out
   rw[hr] at HC
   have HCL:=Hh HC
   clear HC hr hgl hgw hg ht HX b2
   go_wp2_with fail
   refine HCL.out.mono ?_
   rintro e w3 ⟨rfl,bl⟩
   clear HCL
   obtain⟨⟨rx,ry⟩,rc,rb⟩:=r
   obtain⟨r3,r4,bl4⟩:=do_fin HBF.out HB2.out (by have:=HT.out;omega) HR2.out bl rx ry
   have z0:w3.cell? ⟨T+1,0,none⟩=some (.int .i64 0):=r3.cell (i:=0) (by omega)
   have z1:w3.cell? ⟨T+1,1,none⟩=some (.int .i64 0):=r3.cell (i:=1) (by omega)
   have fz0:=r3.frozen 0
   have fz1:=r3.frozen 1
   have HR4:=Hh r4
   have HBL:=Hh bl4
   clear r3 r4 bl4 bl
   go_wp2_with fail
   exact bodyPost_ret (v:=.tuple #[.agg #[.int .i64 rx,.int .i64 ry],.int .i64 rc]) (res2 rfl _ _ (T+1) #[.int .i64 rx,.int .i64 ry] _ rfl rfl (ret40 HR4.out)) rfl (by
    show LT _ _ _ _ _ _ _ (tryB b (imgL c)) _ _
    rw[HRE.out]
    exact⟨rfl,HBL.out⟩)
end
def Big (l:List BC):Prop:=(∃c∈l,20<c.od.length)\/25<l.length
theorem not_big {l:List BC}(h:¬Big l):(∀c∈l,c.od.length<=20)/\l.length<=25:=by
 unfold Big at h
 refine⟨λc hc=>?_,?_⟩
 ·by_cases q:c.od.length<=20
  ·exact q
  ·exact absurd (.inl ⟨c,hc,by omega⟩) h
 ·by_cases q:l.length<=25
  ·exact q
  ·exact absurd (.inr (by omega)) h
def lrg (l:List BC):Bool:=l.any (λc=>decide (20<c.od.length))||decide (25<l.length)
theorem lrg_iff (l:List BC):lrg l=true↔Big l:=by
 unfold lrg Big
 simp
theorem large_any (a:Option Addr)(len cap:Nat)(l:List BC)(w:World)(hl:CallS w a len cap l):Calls Tryz.prog 24 #[.slice a len cap] w λe w'=>e=.returned (.bool (lrg l))/\w=w':=by
 have HQ:=Hh (lrg_iff l)
 generalize lrg l=q at *
 have HL:=Hh hl
 have hcap:len<=cap:=hl.2.1
 have hcapM:=hl.2.2.1
 have HN:Hid (l.length=len):=hl.1
 unfold maxLen at hcapM
 clear hl
 go_enter Tryz.func24,Tryz.ntmps24
 go_wp2_with fail
 go_loopw [3] (λz wr=>∃i:Nat,i<=len/\z=.int .i64 (i:Int)/\Hid (∀c∈l.take i,c.od.length<=20)/\wr=w) (λz _=>len-(intOf z).toNat)
 case atStart=>exact⟨0,by omega,rfl,(λc hc=>by simp at hc),rfl⟩
 case round=>
  obtain⟨i,hi,rfl,HS,rfl⟩:=hrel
  by_cases hlt:i<len
  ·have y0:(i:Int)<len:=by omega
   obtain⟨bb,o,c,rfl,hc,hrd,hx⟩:=HL.out.at hlt
   obtain⟨oa,oc,hol,hoc,hocm⟩:=hrd.shape
   have c4:=hx.c4
   rw[hol] at c4
   have hil:i<l.length:=by rw[HN.out];exact hlt
   have hci:l[i]=c:=by rw[List.getElem?_eq_getElem hil] at hc;injection hc
   have HCI:Hid (c∈l):=by rw[<-hci];exact List.getElem_mem hil
   have HTK:Hid (l.take (i+1)=l.take i++[c]):=by show _=_;rw[List.take_succ_eq_append_getElem hil,hci]
   clear hx hc hrd hol hil hci
   obtain⟨n,hn⟩:∃n,c.od.length=n:=⟨_,rfl⟩
   have HNN:=Hh hn
   rw[hn] at c4
   clear hn
   by_cases hb:20<n
   ·have hbI:(n:Int) > 20:=by omega
    go_wp2_with fail
    go_ret
    have e0:q=true:=HQ.out.2 (.inl ⟨c,HCI.out,by rw[HNN.out];exact hb⟩)
    rw[e0]
    exact⟨rfl,rfl⟩
   ·have hbI:¬(n:Int) > 20:=by omega
    have HS2:Hid (∀c∈l.take (i+1),c.od.length<=20):=λd hd=>by
     rw[HTK.out] at hd
     rcases List.mem_append.1 hd with q|q
     ·exact HS.out d q
     ·rw[List.mem_singleton.1 q,HNN.out];omega
    clear HTK HS
    go_wp2_with fail
    go_roundw
    case rel=>exact⟨i+1,by omega,by go_num,HS2,by trivial⟩
    case measure=>simp[intOf];omega
  ·have y0:¬(i:Int)<len:=by omega
   have HA:Hid (∀c∈l,c.od.length<=20):=by
    have:=HS.out
    rw[List.take_of_length_le (by rw[HN.out];omega)] at this
    exact this
   by_cases hb:25<len
   ·have hbI:(len:Int) > 25:=by omega
    go_wp2_with fail
    go_ret
    have e0:q=true:=HQ.out.2 (.inr (by rw[HN.out];exact hb))
    rw[e0]
    exact⟨rfl,rfl⟩
   ·have hbI:¬(len:Int) > 25:=by omega
    go_wp2_with fail
    go_ret
    have e0:q=false:=by
     cases hq:q
     ·rfl
     ·rcases HQ.out.1 hq with ⟨c,hc,q⟩|q
      ·have:=HA.out c hc;omega
      ·rw[HN.out] at q;omega
    rw[e0]
    exact⟨rfl,rfl⟩
section
section
variable {w w':World}{N M S L n:Nat}{F:Nat->Prop}{b b':BM}
theorem QF.setEntry (h:QF w N F M S L n b)(hb:b.st.blk<b.fl.B)(_hn:n<1000)(i:Int){d:Str}(hd:d.length=32)(a:Bool)(k:Int) :
  Calls Tryz.prog 68 #[fptr M,.agg (Ms.arr 35 (ecl i d a k))] w (QLR w N F M S L (n+1) (setEntryB b i d a k)):=h.lift λ_ q=>rsetEntry_any q hb i hd a k
theorem QF.setOrder (h:QF w N F M S L n b)(hb:b.st.blk<b.fl.B)(_hn:n<1000){v:Value}{l:List Int}(hv:RdJ w v l) :
  Calls Tryz.prog 69 #[fptr M,v] w (QLR w N F M S L (n+1) (setOrderB b l)):=h.lift λ_ q=>rsetOrder_any q hb hv
theorem QF.setNext (h:QF w N F M S L n b)(hb:b.st.blk<b.fl.B)(_hn:n<1000)(i:Int) :
  Calls Tryz.prog 70 #[fptr M,.int .i64 i] w (QLR w N F M S L (n+1) (setNextB b i)):=h.lift λ_ q=>rsetNext_any q hb i
theorem QF.deny (h:QF w N F M S L n b)(hb:b.st.blk<b.fl.B)(_hn:n<1000){d:Str}(hd:d.length=32) :
  Calls Tryz.prog 71 #[fptr M,.agg (Ms.arr 32 (Ms.b8 (dgF d)))] w (QLR w N F M S L (n+1) (denyB b d)):=h.lift λ_ q=>rdeny_any q hb hd
theorem QF.begin (h:QF w N F M S L n b)(hb:b.st.blk<b.fl.B)(_hn:n<1000) :
  Calls Tryz.prog 72 #[fptr M] w (QLR w N F M S L (n+1) (beginB b)):=h.lift λ_ q=>rbegin_any q hb
theorem QF.succ (h:QF w N F M S L n b)(hb:b.st.blk<b.fl.B)(_hn:n<1000) :
  Calls Tryz.prog 73 #[fptr M] w (QLR w N F M S L (n+1) (succB b)):=h.lift λ_ q=>rsucceeded_any q hb
theorem QF.put (h:QF w N F M S L n b)(hb:b.st.blk<b.fl.B)(_hn:n<1000){ke va:ByteArray}(hke:ke.size<=1000000)(hva:va.size<=1000000){k v:Str}(ek:ke.data.toList=k)(ev:va.data.toList=v) :
  Calls Tryz.prog 44 #[fptr S,.string ke,.string va] w (QLR w N F M S L (n+1) (setB b k v)):=h.lift λ_ q=>q.setB hb hke hva ek ev
theorem QF.try (h:QF w N F M S L n b)(hb:b.st.blk<b.fl.B)(_hn:n<1000)(hc:∀x∈b.cand,isId x=true)(hes:b.es.length<256)(hlg:b.log.length<=1000){v:Value}{l:List ByteArray}(hv:RdT w v l)(hvF:∀g,v.ownBlock=some g->F g)(hs:∀x∈l,x.size<=1073741824) :
  Calls Tryz.prog 74 #[fptr M,v] w (QLT w N F M S L (n+1) (tryB b l)):=by
 obtain⟨O,q1,q2⟩:=h
 exact(rtry_any q1 hb hc hes hlg hv (λg hg=>(q2 g (hvF g hg)).1) hs).mono λe w' h=>⟨h.1,h.2.bl q1 q2⟩
theorem QF.entry (h:QF w N F M S L n b)(i:Int):Calls Tryz.prog 75 #[fptr M,.int .i64 i] w λe w'=>e=.returned (entT b.st.V i)/\Below w.heap.size w w':=by
 obtain⟨O,q1,q2⟩:=h;exact rentry_any q1 i
theorem QF.order (h:QF w N F M S L n b):Calls Tryz.prog 76 #[fptr M] w (NewI w (ordV b.st.V)):=by
 obtain⟨O,q1,q2⟩:=h;exact rorder_any q1
theorem QF.denied (h:QF w N F M S L n b):Calls Tryz.prog 77 #[fptr M] w (NewD w (denV b.st.V)):=by
 obtain⟨O,q1,q2⟩:=h;exact rdenied_any q1
theorem QF.log (h:QF w N F M S L n b)(hl:b.log.length<=1000):Calls Tryz.prog 78 #[fptr M] w (NewS w b.log):=by
 obtain⟨O,q1,q2⟩:=h;exact rlog_any q1 hl
theorem QF.events (h:QF w N F M S L n b)(hl:b.es.length<=1000):Calls Tryz.prog 80 #[fptr L] w (Ms.NewE w b.es):=by
 obtain⟨O,q1,q2⟩:=h;exact Ms.revents_any N L b.es w q1.log hl
end
theorem QF.own {w w':World}{N M S L n:Nat}{F C:Nat->Prop}{b:BM}(h:QF w N F M S L n b)(c:Ch C w w')(hC:∀k,C k->k<w.heap.size->F k/\0<k):QF w' N F M S L n b:=by
 obtain⟨O,q1,q2⟩:=h
 exact⟨O,q1.ch (c.mono (D:=λk=>C k/\k<w.heap.size) λi hi hl=>⟨hi,hl⟩) (λk hk=>⟨(q2 k (hC k hk.1 hk.2).1).1,(hC k hk.1 hk.2).2⟩),λk hk=>⟨(q2 k hk).1,Nat.lt_of_lt_of_le (q2 k hk).2 c.size⟩⟩
section
variable {w W2 w3:World}{N M S L n n' E:Nat}{F:Nat->Prop}{b b':BM}
theorem QF.news (h:QF w N F M S L n b)(c:Below w.heap.size w W2):QF W2 N (λk=>F k\/(w.heap.size<=k/\k<W2.heap.size)) M S L n b:=by
 obtain⟨O,q1,q2⟩:=h
 refine⟨O,q1.below c,λk hk=>?_⟩
 rcases hk with hk|hk
 ·exact⟨(q2 k hk).1,Nat.lt_of_lt_of_le (q2 k hk).2 c.size⟩
 ·exact⟨λhO=>by have:=(q1.oN k hO).2;omega,hk.2⟩
theorem want_fin {t:Nat}(h0:QF w N F M S L n b)(b2:Below w.heap.size w W2)(hE:w.heap.size<=E)(hR:Row W2 E t 2 (stp 0 0))(bl:QL W2 w3 N (λk=>F k\/(w.heap.size<=k/\k<W2.heap.size)) M S L n' b')(x y:Int) :
  Row w3 E t 2 (stp 0 0)/\Row ((w3.setCell ⟨E,0,none⟩ (.int .i64 x)).setCell ⟨E,1,none⟩ (.int .i64 y)) E t 2 (stp x y)/\QL w ((w3.setCell ⟨E,0,none⟩ (.int .i64 x)).setCell ⟨E,1,none⟩ (.int .i64 y)) N F M S L n' b':=by
 have hR3:=hR.ch bl.ch (λq=>q (.inr ⟨hE,hR.lt⟩))
 have c4:Ch (λk=>k=E) w3 ((w3.setCell ⟨E,0,none⟩ (.int .i64 x)).setCell ⟨E,1,none⟩ (.int .i64 y)):=((Ch.refl (λk=>k=E) w3).setCell (p:=⟨E,0,none⟩) (λ_=>rfl) _).setCell (p:=⟨E,1,none⟩) (λ_=>rfl) _
 have hp:=h0.pos
 refine⟨hR3,((hR3.set (i:=0) (by omega) (.int .i64 x)).set (i:=1) (by omega) (.int .i64 y)).congr (v':=stp x y) (λj hj=>by
  rcases(by omega:j=0\/j=1) with e|e<;>subst e<;>rfl),?_,?_,?_⟩
 ·exact(bl.bf.own c4 (λk hk _=>by subst hk;exact⟨.inr ⟨hE,hR.lt⟩,by omega⟩)).less (λk hk=>.inl hk)
 ·exact(Ch.of_below b2 _).trans ((bl.ch.mono (λi hi _ hF=>hi (.inl hF))).trans (c4.mono (λi hi _ hF=>by subst hi;have:=h0.lt i hF;omega)))
 ·have hN:=h0.N_le
  exact(((b2.mono hN).trans bl.bel).setCell (p:=⟨E,0,none⟩) (by show N<=E;omega) _).setCell (p:=⟨E,1,none⟩) (by show N<=E;omega) _
end
theorem want_any {w:World}{N M S L n:Nat}{F:Nat->Prop}{b:BM}(h:QF w N F M S L n b)(hb:b.st.blk<b.fl.B)(hn:n<1000)(hc:∀x∈b.cand,isId x=true)(hes:b.es.length<256)(hlg:b.log.length<=1000)(c:BC)(hrd:RdJ w c.ol c.od)(hlen:c.od.length<=20) :
  Calls Tryz.prog 31 #[fptr M,cBa c] w (QLT w N F M S L (n+1) (doB b c)):=by
 unfold doB
 have HMD:Hid (∀W,Calls Tryz.prog 11 #[.int .i64 c.kd,.int .i64 12] W λe w'=>e=.returned (.int .i64 ((mo c.kd 12:Nat):Int))/\W=w'):=λ W=>mod_any c.kd 12 W (by omega) (by omega)
 have hm:mo c.kd 12<12:=mo_lt c.kd 12 (by omega)
 generalize mo c.kd 12=m at *
 have HEN:Hid (∀W,Calls Tryz.prog 62 #[cBa c] W λe w'=>e=.returned (.agg (Ms.arr 35 (ecl (cidV c) (sumS (imgB c.im)) (!c.ina) (catV c))))/\Below W.heap.size W w'):=λ W=>centry_any c W
 have HID:Hid (∀W,Calls Tryz.prog 64 #[cBa c] W λe w'=>e=.returned (.int .i64 (cidV c))/\Below W.heap.size W w'):=λ W=>cid_any c W
 have HOR:Hid (∀W,Below w.heap.size w W->Calls Tryz.prog 63 #[cBa c] W λe w'=>∃v,e=.returned v/\RdJ w' v (ordC c)/\Below W.heap.size W w'):=λ W b=>cord_any c W (hrd.below b (Nat.le_refl _)) hlen
 have HIS:Hid (∀W,Calls Tryz.prog 26 #[cBa c] W λe w'=>∃g,e=.returned (.slice (some ⟨g,0,none⟩) (mo c.tr 3+3) 5)/\W.heap.size<=g/\RdT w' (.slice (some ⟨g,0,none⟩) (mo c.tr 3+3) 5) (imgL c)/\Below W.heap.size W w'):=λ W=>images_any c W
 obtain⟨im,him⟩:∃im,imgB c.im=im:=⟨_,rfl⟩
 have hims:im.size<=1073741824:=by have:=imgB_size c.im;rw[<-him];omega
 have HIM:Hid (∀W,Calls Tryz.prog 66 #[.int .i64 c.im] W λe w'=>e=.returned (.string im)/\W=w'):=λ W=>by rw[<-him];exact image_any c.im W
 have HSM:Hid (∀W,Calls Tryz.prog 65 #[.string im] W λe w'=>e=.returned (.agg (Ms.arr 32 (Ms.b8 (dgF (sumS im)))))/\Below W.heap.size W w'):=λ W=>rsum_str im W hims
 have HIZ:=Hh (imgL_size c)
 have HCC:=Hh (And.intro hc (And.intro hes hlg))
 have HBF:=Hh h
 have HM:=Hh him
 rw[him] at HEN
 clear h hrd hlen him hims hc hes hlg
 unfold cBa at *
 have e1:(w.alloc (.cells #[.int .i64 c.kd,.int .i64 c.id,.int .i64 c.im,.int .i64 c.tr,c.ol,.bool c.ina,.bool c.raw] 54)).heap.size=w.heap.size+1:=by simp
 have HX:Hid (CX ((w.alloc (.cells #[.int .i64 c.kd,.int .i64 c.id,.int .i64 c.im,.int .i64 c.tr,c.ol,.bool c.ina,.bool c.raw] 54)).alloc (.cells #[.int .i64 0,.int .i64 0] 40)) w.heap.size 0 c):=(CX.made w c).below ((Below.refl _ _).alloc (Nat.le_refl _) _) (by simp)
 have HR:Hid (Row ((w.alloc (.cells #[.int .i64 c.kd,.int .i64 c.id,.int .i64 c.im,.int .i64 c.tr,c.ol,.bool c.ina,.bool c.raw] 54)).alloc (.cells #[.int .i64 0,.int .i64 0] 40)) (w.heap.size+1) 40 2 (stp 0 0)):=by rw[<-e1];exact Row.ofList _ 40 _ _ 2 rfl
 have HB:Hid (Below w.heap.size w ((w.alloc (.cells #[.int .i64 c.kd,.int .i64 c.id,.int .i64 c.im,.int .i64 c.tr,c.ol,.bool c.ina,.bool c.raw] 54)).alloc (.cells #[.int .i64 0,.int .i64 0] 40))):=((Below.refl _ _).alloc (Nat.le_refl _) _).alloc (by simp) _
 clear e1
 go_enter Tryz.func31,Tryz.ntmps31
 go_upto_region 1 with fail
 generalize (w.alloc (.cells #[.int .i64 c.kd,.int .i64 c.id,.int .i64 c.im,.int .i64 c.tr,c.ol,.bool c.ina,.bool c.raw] 54)).alloc (.cells #[.int .i64 0,.int .i64 0] 40)=W1 at *
 obtain⟨T,hT⟩:∃T,w.heap.size=T:=⟨_,rfl⟩
 have HT:=Hh hT
 rw[hT] at HX HR ⊢
 clear hT
 have c0:=HX.out.c0
 go_wp2_with fail
 refine(HMD.out _).mono ?_
 rintro e w' ⟨rfl,rfl⟩
 clear c0 HMD
 obtain⟨c0,c1,c2,c3,c4,c5,c6,clt⟩:=HX.out
 have hm':(m=0\/m=1)\/m=2\/m=3\/m=4\/(m=5\/m=6)\/m=10\/m=7\/m=8\/m=9\/m=11:=by omega
 clear hm
 rcases hm' with hm'|rfl|rfl|rfl|hm'|rfl|hm'
 ·have HRH:=HM
  rcases hm' with rfl|rfl
  all_goals
   go_wp2_with fail
   refine(HEN.out _).mono ?_
   rintro e w2 ⟨rfl,b2⟩
   have HB2:Hid (Below w.heap.size w w2):=HB.out.trans (b2.mono HB.out.size)
   have HR2:Hid (Row w2 (T+1) 40 2 (stp 0 0)):=HR.out.below b2 HR.out.lt
   obtain⟨r,hr⟩:∃r,setEntryB b (cidV c) (sumS (imgB c.im)) (!c.ina) (catV c)=r:=⟨_,rfl⟩
   have HRE:=Hh hr
   have HC:=HBF.out.news HB2.out |>.setEntry hb hn (cidV c) (sumS_len (imgB c.im)) (!c.ina) (catV c)
   rw[hr] at HC
   have HCL:=Hh HC
   clear HC hr
   clear HX b2
   rw[HM.out] at HCL
   go_wp2_with fail
   refine HCL.out.mono ?_
   rintro e w3 ⟨rfl,bl⟩
   clear HCL
   obtain⟨r3,r4,bl4⟩:=want_fin HBF.out HB2.out (by have:=HT.out;omega) HR2.out bl 0 0
   have z0:w3.cell? ⟨T+1,0,none⟩=some (.int .i64 0):=r3.cell (i:=0) (by omega)
   have z1:w3.cell? ⟨T+1,1,none⟩=some (.int .i64 0):=r3.cell (i:=1) (by omega)
   have fz0:=r3.frozen 0
   have fz1:=r3.frozen 1
   have HR4:=Hh r4
   have HBL:=Hh bl4
   clear r3 r4 bl4 bl
   go_wp2_with fail
   exact bodyPost_ret (v:=.tuple #[.agg #[.int .i64 0,.int .i64 0],.int .i64 r.1]) (res2 rfl _ _ (T+1) #[.int .i64 0,.int .i64 0] _ rfl rfl (ret40 HR4.out)) rfl (by
    show QLT _ _ _ _ _ _ _ ((0,0),setEntryB b (cidV c) (sumS (imgB c.im)) (!c.ina) (catV c)) _ _
    rw[HRE.out]
    exact⟨rfl,HBL.out⟩)
 ·have HRH:=HM
  go_wp2_with fail
  refine(HOR.out _ HB.out).mono ?_
  rintro e w2 ⟨v,rfl,hv,b2⟩
  have HB2:Hid (Below w.heap.size w w2):=HB.out.trans (b2.mono HB.out.size)
  have HR2:Hid (Row w2 (T+1) 40 2 (stp 0 0)):=HR.out.below b2 HR.out.lt
  obtain⟨r,hr⟩:∃r,setOrderB b (ordC c)=r:=⟨_,rfl⟩
  have HRE:=Hh hr
  have HC:=HBF.out.news HB2.out |>.setOrder hb hn hv
  rw[hr] at HC
  have HCL:=Hh HC
  clear HC hr
  clear HX b2 hv
  go_wp2_with fail
  refine HCL.out.mono ?_
  rintro e w3 ⟨rfl,bl⟩
  clear HCL
  obtain⟨r3,r4,bl4⟩:=want_fin HBF.out HB2.out (by have:=HT.out;omega) HR2.out bl 0 0
  have z0:w3.cell? ⟨T+1,0,none⟩=some (.int .i64 0):=r3.cell (i:=0) (by omega)
  have z1:w3.cell? ⟨T+1,1,none⟩=some (.int .i64 0):=r3.cell (i:=1) (by omega)
  have fz0:=r3.frozen 0
  have fz1:=r3.frozen 1
  have HR4:=Hh r4
  have HBL:=Hh bl4
  clear r3 r4 bl4 bl
  go_wp2_with fail
  exact bodyPost_ret (v:=.tuple #[.agg #[.int .i64 0,.int .i64 0],.int .i64 r.1]) (res2 rfl _ _ (T+1) #[.int .i64 0,.int .i64 0] _ rfl rfl (ret40 HR4.out)) rfl (by
   show QLT _ _ _ _ _ _ _ ((0,0),setOrderB b (ordC c)) _ _
   rw[HRE.out]
   exact⟨rfl,HBL.out⟩)
 ·have HRH:=HM
  go_wp2_with fail
  refine(HID.out _).mono ?_
  rintro e w2 ⟨rfl,b2⟩
  have HB2:Hid (Below w.heap.size w w2):=HB.out.trans (b2.mono HB.out.size)
  have HR2:Hid (Row w2 (T+1) 40 2 (stp 0 0)):=HR.out.below b2 HR.out.lt
  obtain⟨r,hr⟩:∃r,setNextB b (cidV c)=r:=⟨_,rfl⟩
  have HRE:=Hh hr
  have HC:=HBF.out.news HB2.out |>.setNext hb hn (cidV c)
  rw[hr] at HC
  have HCL:=Hh HC
  clear HC hr
  clear HX b2
  go_wp2_with fail
  refine HCL.out.mono ?_
  rintro e w3 ⟨rfl,bl⟩
  clear HCL
  obtain⟨r3,r4,bl4⟩:=want_fin HBF.out HB2.out (by have:=HT.out;omega) HR2.out bl 0 0
  have z0:w3.cell? ⟨T+1,0,none⟩=some (.int .i64 0):=r3.cell (i:=0) (by omega)
  have z1:w3.cell? ⟨T+1,1,none⟩=some (.int .i64 0):=r3.cell (i:=1) (by omega)
  have fz0:=r3.frozen 0
  have fz1:=r3.frozen 1
  have HR4:=Hh r4
  have HBL:=Hh bl4
  clear r3 r4 bl4 bl
  go_wp2_with fail
  exact bodyPost_ret (v:=.tuple #[.agg #[.int .i64 0,.int .i64 0],.int .i64 r.1]) (res2 rfl _ _ (T+1) #[.int .i64 0,.int .i64 0] _ rfl rfl (ret40 HR4.out)) rfl (by
   show QLT _ _ _ _ _ _ _ ((0,0),setNextB b (cidV c)) _ _
   rw[HRE.out]
   exact⟨rfl,HBL.out⟩)
 ·have HRH:=HM
  go_wp2_with fail
  refine(HIM.out _).mono ?_
  rintro e w' ⟨rfl,rfl⟩
  go_wp2_with fail
  refine(HSM.out _).mono ?_
  rintro e w2 ⟨rfl,b2⟩
  have HB2:Hid (Below w.heap.size w w2):=HB.out.trans (b2.mono HB.out.size)
  have HR2:Hid (Row w2 (T+1) 40 2 (stp 0 0)):=HR.out.below b2 HR.out.lt
  obtain⟨r,hr⟩:∃r,denyB b (sumS (imgB c.im))=r:=⟨_,rfl⟩
  have HRE:=Hh hr
  have HC:=HBF.out.news HB2.out |>.deny hb hn (sumS_len (imgB c.im))
  rw[hr] at HC
  have HCL:=Hh HC
  clear HC hr
  clear HX b2
  rw[HM.out] at HCL
  go_wp2_with fail
  refine HCL.out.mono ?_
  rintro e w3 ⟨rfl,bl⟩
  clear HCL
  obtain⟨r3,r4,bl4⟩:=want_fin HBF.out HB2.out (by have:=HT.out;omega) HR2.out bl 0 0
  have z0:w3.cell? ⟨T+1,0,none⟩=some (.int .i64 0):=r3.cell (i:=0) (by omega)
  have z1:w3.cell? ⟨T+1,1,none⟩=some (.int .i64 0):=r3.cell (i:=1) (by omega)
  have fz0:=r3.frozen 0
  have fz1:=r3.frozen 1
  have HR4:=Hh r4
  have HBL:=Hh bl4
  clear r3 r4 bl4 bl
  go_wp2_with fail
  exact bodyPost_ret (v:=.tuple #[.agg #[.int .i64 0,.int .i64 0],.int .i64 r.1]) (res2 rfl _ _ (T+1) #[.int .i64 0,.int .i64 0] _ rfl rfl (ret40 HR4.out)) rfl (by
   show QLT _ _ _ _ _ _ _ ((0,0),denyB b (sumS (imgB c.im))) _ _
   rw[HRE.out]
   exact⟨rfl,HBL.out⟩)
 ·have HRH:=HM
  rcases hm' with rfl|rfl
  all_goals
   have HB2:=HB
   have HR2:=HR
   obtain⟨r,hr⟩:∃r,beginB b=r:=⟨_,rfl⟩
   have HRE:=Hh hr
   have HC:=HBF.out.news HB2.out |>.begin hb hn
   rw[hr] at HC
   have HCL:=Hh HC
   clear HC hr
   clear HX
   go_wp2_with fail
   refine HCL.out.mono ?_
   rintro e w3 ⟨rfl,bl⟩
   clear HCL
   obtain⟨r3,r4,bl4⟩:=want_fin HBF.out HB2.out (by have:=HT.out;omega) HR2.out bl 0 0
   have z0:w3.cell? ⟨T+1,0,none⟩=some (.int .i64 0):=r3.cell (i:=0) (by omega)
   have z1:w3.cell? ⟨T+1,1,none⟩=some (.int .i64 0):=r3.cell (i:=1) (by omega)
   have fz0:=r3.frozen 0
   have fz1:=r3.frozen 1
   have HR4:=Hh r4
   have HBL:=Hh bl4
   clear r3 r4 bl4 bl
   go_wp2_with fail
   exact bodyPost_ret (v:=.tuple #[.agg #[.int .i64 0,.int .i64 0],.int .i64 r.1]) (res2 rfl _ _ (T+1) #[.int .i64 0,.int .i64 0] _ rfl rfl (ret40 HR4.out)) rfl (by
    show QLT _ _ _ _ _ _ _ ((0,0),beginB b) _ _
    rw[HRE.out]
    exact⟨rfl,HBL.out⟩)
 ·have HRH:=HM
  have HB2:=HB
  have HR2:=HR
  obtain⟨r,hr⟩:∃r,succB b=r:=⟨_,rfl⟩
  have HRE:=Hh hr
  have HC:=HBF.out.news HB2.out |>.succ hb hn
  rw[hr] at HC
  have HCL:=Hh HC
  clear HC hr
  clear HX
  go_wp2_with fail
  refine HCL.out.mono ?_
  rintro e w3 ⟨rfl,bl⟩
  clear HCL
  obtain⟨r3,r4,bl4⟩:=want_fin HBF.out HB2.out (by have:=HT.out;omega) HR2.out bl 0 0
  have z0:w3.cell? ⟨T+1,0,none⟩=some (.int .i64 0):=r3.cell (i:=0) (by omega)
  have z1:w3.cell? ⟨T+1,1,none⟩=some (.int .i64 0):=r3.cell (i:=1) (by omega)
  have fz0:=r3.frozen 0
  have fz1:=r3.frozen 1
  have HR4:=Hh r4
  have HBL:=Hh bl4
  clear r3 r4 bl4 bl
  go_wp2_with fail
  exact bodyPost_ret (v:=.tuple #[.agg #[.int .i64 0,.int .i64 0],.int .i64 r.1]) (res2 rfl _ _ (T+1) #[.int .i64 0,.int .i64 0] _ rfl rfl (ret40 HR4.out)) rfl (by
   show QLT _ _ _ _ _ _ _ ((0,0),succB b) _ _
   rw[HRE.out]
   exact⟨rfl,HBL.out⟩)
 ·have HRH:=HM
  rcases hm' with rfl|rfl|rfl|rfl
  all_goals
   go_wp2_with fail
   refine(HIS.out _).mono ?_
   rintro e w2 ⟨g,rfl,hg,ht,b2⟩
   have HB2:Hid (Below w.heap.size w w2):=HB.out.trans (b2.mono HB.out.size)
   have HR2:Hid (Row w2 (T+1) 40 2 (stp 0 0)):=HR.out.below b2 HR.out.lt
   obtain⟨r,hr⟩:∃r,tryB b (imgL c)=r:=⟨_,rfl⟩
   have HRE:=Hh hr
   have hgl:g<w2.heap.size:=by obtain⟨_,_,_,_,_,h3,_⟩:=ht;exact h3 g rfl
   have hgw:w.heap.size<=g:=Nat.le_trans HB.out.size hg
   have HC:=(HBF.out.news HB2.out).try hb hn HCC.out.1 HCC.out.2.1 HCC.out.2.2 ht (λq hq=>by
    have e:g=q:=by simpa[Value.ownBlock] using hq
    subst e
    exact .inr ⟨hgw,hgl⟩) HIZ.out
   rw[hr] at HC
   have HCL:=Hh HC
   clear HC hr hgl hgw hg ht HX b2
   go_wp2_with fail
   refine HCL.out.mono ?_
   rintro e w3 ⟨rfl,bl⟩
   clear HCL
   obtain⟨⟨rx,ry⟩,rc,rb⟩:=r
   obtain⟨r3,r4,bl4⟩:=want_fin HBF.out HB2.out (by have:=HT.out;omega) HR2.out bl rx ry
   have z0:w3.cell? ⟨T+1,0,none⟩=some (.int .i64 0):=r3.cell (i:=0) (by omega)
   have z1:w3.cell? ⟨T+1,1,none⟩=some (.int .i64 0):=r3.cell (i:=1) (by omega)
   have fz0:=r3.frozen 0
   have fz1:=r3.frozen 1
   have HR4:=Hh r4
   have HBL:=Hh bl4
   clear r3 r4 bl4 bl
   go_wp2_with fail
   exact bodyPost_ret (v:=.tuple #[.agg #[.int .i64 rx,.int .i64 ry],.int .i64 rc]) (res2 rfl _ _ (T+1) #[.int .i64 rx,.int .i64 ry] _ rfl rfl (ret40 HR4.out)) rfl (by
    show QLT _ _ _ _ _ _ _ (tryB b (imgL c)) _ _
    rw[HRE.out]
    exact⟨rfl,HBL.out⟩)
end
section
theorem rlog_new (w:World):Calls Tryz.prog 40 #[] w λe w'=>e=.returned (fptr w.heap.size)/\Row w' w.heap.size 174 1 (λ_=>.slice none 0 0)/\Below w.heap.size w w':=by
 go_enter Tryz.func40,Tryz.ntmps40
 go_wp2_with fail
 go_ret
 exact⟨rfl,Row.ofList w 174 _ _ 1 rfl,(Below.refl _ _).alloc (Nat.le_refl _) _⟩
theorem newF_blank (B P E b:Nat):blankP (pgsF (newF B P E) b)=true:=pages_blank λ_ _=>rfl
theorem res3t {fn:Func}{t u v:Tmp}(h:fn.results=#[.tmp t,.tmp u,.tmp v])(tmps:Array Value)(P:Program)(w:World) :
  (results fn tmps).run P w=.ok (.tuple #[tmps.getD t undef,tmps.getD u undef,tmps.getD v undef]) w:=by
 simp[results,h]
section
variable {w w':World}{N M S L n:Nat}{O:Nat->Prop}{b:BM}{fl:FL}{st:ST}
theorem rbnew_any {D DS:Nat->Prop}{X:Nat}{y:RLay}{fl:FL}{st:ST}(hf:RW w D X y fl)(hs:RS w DS S X st)(hg:Row w L 174 1 (λ_=>.slice none 0 0))(hr:Ms.Rnd w)(h0:0<N)
  (d1:∀k,D k->¬DS k) (d2:¬D L/\¬DS L) (dN:∀k,D k->N<=k) (sN:∀k,DS k->N<=k) (lN:N<=L) (hNs:N<=w.heap.size) :
  Calls Tryz.prog 42 #[fptr S,fptr L] w λe w'=>e=.returned (fptr w.heap.size)/\QW w' N (λk=>(D k\/DS k\/k=L)\/k=w.heap.size) w.heap.size S L n ⟨fl,st,[],[],-1,[]⟩/\Below w.heap.size w w':=by
 have hB:Below w.heap.size w (w.alloc (.cells #[fptr S,fptr L,.slice none 0 0,.slice none 0 0,.int .i64 (-1)] 176)):=(Below.refl _ _).alloc (Nat.le_refl _) _
 have hL:L<w.heap.size:=Row.lt hg
 have HF:Hid (QW (w.alloc (.cells #[fptr S,fptr L,.slice none 0 0,.slice none 0 0,.int .i64 (-1)] 176)) N (λk=>(D k\/DS k\/k=L)\/k=w.heap.size) w.heap.size S L n ⟨fl,st,[],[],-1,[]⟩):=by
  open Classical in
  refine⟨λk=>if D k then 1 else if DS k then 2 else if k=L then 3 else if k=w.heap.size then 4 else 0,D,DS,X,y,.slice none 0 0,.slice none 0 0,.slice none 0 0,?_⟩
  have nD:¬D w.heap.size:=λq=>by have:=hf.fin _ q;omega
  have nS:¬DS w.heap.size:=λq=>by have:=hs.fin _ q;omega
  exact {
   f:=hf.below hB
   s:=hs.below hB
   g:=hg.alloc _
   e:=⟨rfl,.inl ⟨rfl,rfl⟩⟩
   t:=Row.ofList w _ _ _ 5 rfl
   c:=RdI.nil _
   l:=⟨rfl,.inl ⟨rfl,rfl⟩⟩
   rD:=λk hk=>if_pos hk
   rS:=λk hk=>by
    show(if D k then 1 else if DS k then 2 else if k=L then 3 else if k=w.heap.size then 4 else 0)=2
    rw[if_neg (λq=>d1 k q hk),if_pos hk]
   rL:=by
    show(if D L then 1 else if DS L then 2 else if L=L then 3 else if L=w.heap.size then 4 else 0)=3
    rw[if_neg d2.1,if_neg d2.2,if_pos rfl]
   rE:=λk hk=>(by cases hk)
   rM:=by
    show(if D w.heap.size then 1 else if DS w.heap.size then 2 else if w.heap.size=L then 3 else if w.heap.size=w.heap.size then 4 else 0)=4
    rw[if_neg nD,if_neg nS,if_neg (by omega),if_pos rfl]
   rl:=λk hk=>(by cases hk)
   rC:=λk hk=>(by cases hk)
   hO:=λk hk=>by
    by_cases h1:D k
    ·exact .inl (.inl h1)
    ·by_cases h2:DS k
     ·exact .inl (.inr (.inl h2))
     ·by_cases h3:k=L
      ·exact .inl (.inr (.inr h3))
      ·by_cases h4:k=w.heap.size
       ·exact .inr h4
       ·have hk:(if D k then 1 else if DS k then 2 else if k=L then 3 else if k=w.heap.size then 4 else 0)≠0:=hk
        rw[if_neg h1,if_neg h2,if_neg h3,if_neg h4] at hk
        exact absurd rfl hk
   oN:=λk hk=>by
    have hsz:w.heap.size<(w.alloc (.cells #[fptr S,fptr L,.slice none 0 0,.slice none 0 0,.int .i64 (-1)] 176)).heap.size:=by simp
    rcases hk with (q|q|q)|q
    ·exact⟨dN k q,Nat.lt_trans (hf.fin k q) hsz⟩
    ·exact⟨sN k q,Nat.lt_trans (hs.fin k q) hsz⟩
    ·rw[q];exact⟨lN,Nat.lt_trans hL hsz⟩
    ·rw[q];exact⟨hNs,hsz⟩
   rnd:=rnd_ch hr (Ch.of_below hB (λ_=>False)) id (by omega)
   h0:=h0
   hN:=Nat.le_trans hNs hB.size }
 have HB:=Hh hB
 clear hf hs hg hr hB
 go_enter Tryz.func42,Tryz.ntmps42
 go_wp2_with fail
 go_ret
 exact⟨rfl,HF.out,HB.out⟩
end
theorem board_eq (E:Nat){f1:FL}(q1:fmtF (newF 3 24 E)=(0,f1))(q2:Cal E 0 f1 st0)(hE:E<=1000)(w:World)(hr:Ms.Rnd w)(h0:0<w.heap.size):Calls Tryz.prog 12 #[.int .i64 (E:Int)] w λe w'=>∃X L M S O,e=.returned (.tuple #[fptr X,fptr L,fptr M,.bool true])/\BW w' w.heap.size O M S L 32 ⟨f1,st0,[],[],-1,[]⟩/\Below w.heap.size w w':=by
 have HQ1:=Hh q1
 have HQ2:=Hh q2
 have HR:=Hh hr
 clear q1 q2 hr
 have HNW:Hid (Calls Tryz.prog 33 #[.agg #[.int .i64 3,.int .i64 24,.int .i64 (E:Int)]] w λe w'=>∃X y,e=.returned (.tuple #[fptr X,.int .i64 0])/\FW w' (λk=>w.heap.size<=k/\k<w'.heap.size) X y (newF 3 24 E)/\Below w.heap.size w w'):=new_any w 3 24 E ⟨by omega,by omega⟩ ⟨by omega,by omega⟩ (by omega)
 go_enter Tryz.func12,Tryz.ntmps12
 go_wp2_with fail
 refine HNW.out.mono ?_
 rintro e w1 ⟨X,y,rfl,hf,b1⟩
 have HB1:=Hh b1
 have HFM:Hid (Calls Tryz.prog 35 #[fptr X] w1 λe w'=>e=.returned (.int .i64 0)/\FW w' (λk=>w.heap.size<=k/\k<w1.heap.size) X y f1/\Ch (λk=>w.heap.size<=k/\k<w1.heap.size) w1 w'):=by
  have:=format_any hf
  rw[HQ1.out] at this
  exact this
 clear hf b1 HNW
 go_wp2_with fail
 refine HFM.out.mono ?_
 rintro e w2 ⟨rfl,hf,c2⟩
 have HOP:=Hh (open_any hf)
 have HF2:=Hh hf
 have hs12:w1.heap.size<=w2.heap.size:=c2.size
 have hs01:w.heap.size<=w1.heap.size:=HB1.out.size
 have HB2:Hid (Below w.heap.size w w2):=HB1.out.trans (c2.below HB1.out.size (λi hi=>hi.1))
 clear hf c2 HFM HB1
 go_wp2_with fail
 refine HOP.out.mono ?_
 rintro e w3 ⟨b3,⟨c,h1,_⟩|⟨st',S,m,DS,h1,rfl,h3,h4,_⟩⟩
 ·exfalso
  rw[HQ2.out.inv.opens] at h1
  cases h1
 rw[HQ2.out.inv.opens] at h1
 injection h1 with _ h1
 injection h1 with h1
 subst h1
 have HF3:=Hh (HF2.out.below b3)
 have HS3:=Hh h4
 have HD3:=Hh h3
 have HB3:Hid (Below w.heap.size w w3):=HB2.out.trans (b3.mono HB2.out.size)
 have hs23:w2.heap.size<=w3.heap.size:=b3.size
 have HMN:=Hh (Ms.new_any w3)
 clear b3 h3 h4 HOP HF2 HB2
 go_wp2_with fail
 refine HMN.out.mono ?_
 rintro e w4 ⟨rfl,hlg,b4⟩
 have HB4:Hid (Below w.heap.size w w4):=HB3.out.trans (b4.mono HB3.out.size)
 have hs34:w3.heap.size<w4.heap.size:=Row.lt hlg
 have hws:w.heap.size<=w3.heap.size:=HB3.out.size
 have HBN:=Hh (bnew_any (N:=w.heap.size) (HF3.out.below b4) (HS3.out.below b4) hlg (rnd_ch HR.out (Ch.of_below HB4.out (λ_=>False)) id (by omega)) (by omega)
  (λk hk q=>by have:=HD3.out k q;omega) ⟨λq=>by omega,λq=>by have:=HS3.out.fin _ q;omega⟩ (λk hk=>hk.1) (λk hk=>by have:=HD3.out k hk;have:=HB3.out.size;have:=HF3.out;omega) (by omega) (by omega))
 clear hlg b4 HMN HB3 HF3
 go_wp2_with fail
 refine HBN.out.mono ?_
 rintro e w5 ⟨rfl,hbw,b5⟩
 have HW5:=Hh hbw
 have HB5:Hid (Below w.heap.size w w5):=HB4.out.trans (b5.mono HB4.out.size)
 clear hbw b5 HBN HB4
 go_wp2_with fail
 exact bodyPost_ret (res4 rfl _ _ _) rfl ⟨X,w3.heap.size,w4.heap.size,S,_,rfl,HW5.out,HB5.out⟩
theorem model_eq (E:Nat){f1:FL}(q1:fmtF (newF 3 24 E)=(0,f1))(q2:Cal E 0 f1 st0)(hE:E<=1000)(w:World)(hr:Ms.Rnd w)(h0:0<w.heap.size):Calls Tryz.prog 30 #[.int .i64 (E:Int)] w λe w'=>∃X L M S O,e=.returned (.tuple #[fptr X,fptr L,fptr M])/\QW w' w.heap.size O M S L 32 ⟨f1,st0,[],[],-1,[]⟩/\Below w.heap.size w w':=by
 have HQ1:=Hh q1
 have HQ2:=Hh q2
 have HR:=Hh hr
 have HBL:Hid (∀b,blankP (pgsF (newF 3 24 E) b)=true):=λb=>newF_blank 3 24 E b
 clear q1 q2 hr
 have HNW:Hid (Calls Tryz.prog 34 #[.agg #[.int .i64 3,.int .i64 24,.int .i64 (E:Int)]] w λe w'=>∃X y,e=.returned (.tuple #[fptr X,.int .i64 0])/\RW w' (λk=>w.heap.size<=k/\k<w'.heap.size) X y (newF 3 24 E)/\Below w.heap.size w w'):=rnew_any w 3 24 E ⟨by omega,by omega⟩ ⟨by omega,by omega⟩ (by omega)
 go_enter Tryz.func30,Tryz.ntmps30
 go_wp2_with fail
 refine HNW.out.mono ?_
 rintro e w1 ⟨X,y,rfl,hf,b1⟩
 have HB1:=Hh b1
 have HFM:Hid (Calls Tryz.prog 36 #[fptr X] w1 λe w'=>e=.returned (.int .i64 0)/\RW w' (λk=>w.heap.size<=k/\k<w1.heap.size) X y f1/\Ch (λk=>w.heap.size<=k/\k<w1.heap.size) w1 w'):=by
  have:=rformat_any hf rfl HBL.out (by show 2<=3;omega) (by show 2<=24;omega)
  rw[HQ1.out] at this
  exact this
 clear hf b1 HNW
 go_wp2_with fail
 refine HFM.out.mono ?_
 rintro e w2 ⟨rfl,hf,c2⟩
 have HOP:=Hh (ropen_any hf)
 have HF2:=Hh hf
 have hs12:w1.heap.size<=w2.heap.size:=c2.size
 have hs01:w.heap.size<=w1.heap.size:=HB1.out.size
 have HB2:Hid (Below w.heap.size w w2):=HB1.out.trans (c2.below HB1.out.size (λi hi=>hi.1))
 clear hf c2 HFM HB1
 go_wp2_with fail
 refine HOP.out.mono ?_
 rintro e w3 ⟨b3,⟨c,h1,_⟩|⟨st',S,DS,h1,rfl,h3,h4,_⟩⟩
 ·exfalso
  rw[HQ2.out.inv.opens] at h1
  cases h1
 rw[HQ2.out.inv.opens] at h1
 injection h1 with _ h1
 injection h1 with h1
 subst h1
 have HF3:=Hh (HF2.out.below b3)
 have HS3:=Hh h4
 have HD3:=Hh h3
 have HB3:Hid (Below w.heap.size w w3):=HB2.out.trans (b3.mono HB2.out.size)
 have hs23:w2.heap.size<=w3.heap.size:=b3.size
 have HMN:=Hh (rlog_new w3)
 clear b3 h3 h4 HOP HF2 HB2
 go_wp2_with fail
 refine HMN.out.mono ?_
 rintro e w4 ⟨rfl,hlg,b4⟩
 have HB4:Hid (Below w.heap.size w w4):=HB3.out.trans (b4.mono HB3.out.size)
 have hs34:w3.heap.size<w4.heap.size:=Row.lt hlg
 have hws:w.heap.size<=w3.heap.size:=HB3.out.size
 have HBN:=Hh (rbnew_any (n:=32) (N:=w.heap.size) (HF3.out.below b4) (HS3.out.below b4) hlg (rnd_ch HR.out (Ch.of_below HB4.out (λ_=>False)) id (by omega)) (by omega)
  (λk hk q=>by have:=HD3.out k q;omega) ⟨λq=>by omega,λq=>by have:=HS3.out.fin _ q;omega⟩ (λk hk=>hk.1) (λk hk=>by have:=HD3.out k hk;have:=HB3.out.size;have:=HF3.out;omega) (by omega) (by omega))
 clear hlg b4 HMN HB3 HF3
 go_wp2_with fail
 refine HBN.out.mono ?_
 rintro e w5 ⟨rfl,hbw,b5⟩
 have HW5:=Hh hbw
 have HB5:Hid (Below w.heap.size w w5):=HB4.out.trans (b5.mono HB4.out.size)
 clear hbw b5 HBN HB4
 go_wp2_with fail
 exact bodyPost_ret (res3t rfl _ _ _) rfl ⟨X,w3.heap.size,w4.heap.size,S,_,rfl,HW5.out,HB5.out⟩
end
structure GI (k j:Nat)(b:BM):Prop where
 cal:Cal 1000 k b.fl b.st
 es:b.es.length<=j
 log:b.log.length<=j
 cand:∀x∈b.cand,isId x=true
structure Sim (a b:BM):Prop where
 v:∀x,x≠nmX->getV a.st.V x=getV b.st.V x
 cand:a.cand=b.cand
 log:a.log=b.log
 last:a.last=b.last
structure Two (k l j:Nat)(a b:BM):Prop where
 ga:GI k j a
 gb:GI l j b
 s:Sim a b
section
def RdS (w:World)(v:Value)(l:List (Int×Int)):Prop:=∃a c,v=.slice a l.length c/\l.length<=c/\c<=maxLen/\(∀g,v.ownBlock=some g->g<w.heap.size)/\(l≠[]->∃g o,a=some ⟨g,o,none⟩/\∀i p,l[i]? = some p->w.cell? ⟨g,o+i*2,none⟩=some (.int .i64 p.1)/\w.cell? ⟨g,o+i*2+1,none⟩=some (.int .i64 p.2))
theorem stv_at:∀(l:List (Int×Int)) (i:Nat) (p:Int×Int),l[i]? = some p->(stv l)[i*2]? = some (.int .i64 p.1)/\(stv l)[i*2+1]? = some (.int .i64 p.2)
 | [],i,p,h=>by simp at h
 | q::r,0,p,h=>by
  have e:q=p:=by simpa using h
  subst e
  exact⟨rfl,rfl⟩
 | q::r,i+1,p,h=>by
  have ih:=stv_at r i p (by simpa using h)
  rw[show(i+1)*2=i*2+2 by omega]
  exact ih
section
variable {w w':World}{v:Value}{l:List (Int×Int)}{B:Nat}
theorem RdS.of (h:w.ownsRow B 40 2 v l.length (stv l)):RdS w v l:=by
 obtain⟨_,h1⟩:=h
 rcases h1 with ⟨rfl,e⟩|⟨g,cap,cur,rfl,_,hh,h5,h6,_,h7⟩
 ·have e:l=[]:=List.eq_nil_of_length_eq_zero e
  subst e
  exact⟨none,0,rfl,Nat.le_refl _,by decide,(λ_ h=>(by cases h)),λh=>absurd rfl h⟩
 ·refine⟨_,_,rfl,h5,h6,λk hk=>?_,λ_=>⟨g,0,rfl,λi x hx=>?_⟩⟩
  ·have e:g=k:=by simpa[Value.ownBlock] using hk
   rw[<-e];exact heap_lt hh
  ·have hi:=(List.getElem?_eq_some_iff.1 hx).1
   obtain⟨q0,q1⟩:=stv_at l i x hx
   rw[<-h7,List.getElem?_take_of_lt (by omega),Array.getElem?_toList] at q0 q1
   rw[Nat.zero_add,cell_of_row w g _ cur _ (0,0) hh,cell_of_row w g _ cur _ (0,0) hh]
   exact⟨q0,q1⟩
theorem RdS.ch {C:Nat->Prop}(h:RdS w v l)(c:Ch C w w')(hC:∀g,v.ownBlock=some g->¬C g):RdS w' v l:=by
 obtain⟨a,k,rfl,h1,h2,h3,h4⟩:=h
 refine⟨a,k,rfl,h1,h2,λg hg=>Nat.lt_of_lt_of_le (h3 g hg) c.size,λhne=>?_⟩
 obtain⟨g,o,rfl,hx⟩:=h4 hne
 refine⟨g,o,rfl,λi p hp=>?_⟩
 have hg:(Value.slice (some ⟨g,o,none⟩) l.length k).ownBlock=some g:=rfl
 exact⟨(c.cell _ (h3 g hg) (hC g hg)).trans (hx i p hp).1,(c.cell _ (h3 g hg) (hC g hg)).trans (hx i p hp).2⟩
theorem RdS.below (h:RdS w v l)(b:Below w.heap.size w w'):RdS w' v l:=h.ch (Ch.of_below b (λ_=>False)) (λ_ _ h=>h)
theorem RdS.shape (h:RdS w v l):∃a c,v=.slice a l.length c/\l.length<=c/\c<=9223372036854775807:=by
 obtain⟨a,c,rfl,h1,h2,_⟩:=h
 exact⟨a,c,rfl,h1,by unfold maxLen at h2;omega⟩
theorem RdS.at (h:RdS w v l){i:Nat}(hi:i<l.length):∃g o c,v=.slice (some ⟨g,o,none⟩) l.length c/\l.length<=c/\c<=maxLen/\w.cell? ⟨g,o+i*2,none⟩=some (.int .i64 l[i].1)/\w.cell? ⟨g,o+i*2+1,none⟩=some (.int .i64 l[i].2):=by
 obtain⟨a,c,rfl,h1,h2,h3,h4⟩:=h
 obtain⟨g,o,rfl,hx⟩:=h4 (by intro e;rw[e] at hi;cases hi)
 exact⟨g,o,c,rfl,h1,h2,hx i _ (List.getElem?_eq_getElem hi)⟩
end
section
variable {w:World}{v1 v2:Value}
theorem equalI_same {l:List Int}(h1:RdI w v1 l)(h2:RdI w v2 l):Calls Tryz.prog 45 #[v1,v2] w λe w'=>e=.returned (.bool true)/\Below w.heap.size w w':=by
 obtain⟨a1,c1,rfl,x1,y1⟩:=h1.shape
 obtain⟨a2,c2,rfl,x2,y2⟩:=h2.shape
 have H1:=Hh h1
 have H2:=Hh h2
 have HB0:Hid (Below w.heap.size w w):=Below.refl _ _
 obtain⟨L,hL⟩:∃L,l.length=L:=⟨_,rfl⟩
 have HLL:=Hh hL
 rw[hL] at H1 H2 x1 x2 ⊢
 clear h1 h2 hL
 go_enter Tryz.func45,Tryz.ntmps45
 go_wp2_with fail
 go_loopw [5] (λz wr=>∃i:Nat,i<=L/\z=.int .i64 (i:Int)/\Hid (RdI wr (.slice a1 L c1) l)/\Hid (RdI wr (.slice a2 L c2) l)/\Hid (Below w.heap.size w wr)) (λz _=>L-(intOf z).toNat)
 case atStart=>exact⟨0,by omega,rfl,H1,H2,HB0⟩
 case round=>
  clear H1 H2 HB0
  obtain⟨i,hi,rfl,H1,H2,HB⟩:=hrel
  by_cases hlt:i<L
  ·have y0:(i:Int)<L:=by omega
   have hil:i<l.length:=by rw[HLL.out];exact hlt
   obtain⟨g1,o1,c',e,_,_,k1⟩:=H1.out.cellAt hil
   rw[HLL.out] at e
   injection e with e1 _ e3
   subst e1 e3
   obtain⟨g2,o2,c',e,_,_,k2⟩:=H2.out.cellAt hil
   rw[HLL.out] at e
   injection e with e1 _ e3
   subst e1 e3
   generalize l[i]=d at *
   have S1:Hid (wr.drew.cell? ⟨g1,o1+i,none⟩=some (.int .i64 d)/\wr.drew.cell? ⟨g2,o2+i,none⟩=some (.int .i64 d)):=⟨k1,k2⟩
   clear k1 k2 hil
   go_wp2_with fail
   refine wp_region_pl (λ Y=>Y.cell? ⟨g1,o1+i,none⟩=some (.int .i64 d)/\Y.cell? ⟨g2,o2+i,none⟩=some (.int .i64 d)) ((0,0)::(1,0)::(2,0)::(3,0)::(4,0)::(5,0)::(6,0)::(7,0)::(8,0)::[]) (by kernel_rfl) (by kernel_rfl) ?_
   iterate 9 (apply wpP_go;rfl;rfl;exact S1.out;(rintro Y ⟨s0,s1⟩;go_simp;exact rfl);intro K hK;go_simp;refine hK _ ?_;clear hK K)
   refine wpP_done ?_
   clear S1
   have H1n:Hid (RdI wr.drew (.slice (some ⟨g1,o1,none⟩) L c1) l):=H1.out.below ((Below.refl _ _).drew)
   have H2n:Hid (RdI wr.drew (.slice (some ⟨g2,o2,none⟩) L c2) l):=H2.out.below ((Below.refl _ _).drew)
   have HBn:Hid (Below w.heap.size w wr.drew):=HB.out.drew
   clear H1 H2 HB
   generalize wr.drew=wn at *
   go_wp2_with fail
   go_roundw
   case rel=>exact⟨i+1,by omega,by go_num,H1n,H2n,HBn⟩
   case measure=>simp[intOf];omega
  ·have y0:¬(i:Int)<L:=by omega
   go_wp2_with fail
   go_ret
   exact⟨rfl,HB.out⟩
theorem equalSt_same {l:List (Int×Int)}(h1:RdS w v1 l)(h2:RdS w v2 l):Calls Tryz.prog 46 #[v1,v2] w λe w'=>e=.returned (.bool true)/\Below w.heap.size w w':=by
 obtain⟨a1,c1,rfl,x1,y1⟩:=h1.shape
 obtain⟨a2,c2,rfl,x2,y2⟩:=h2.shape
 have H1:=Hh h1
 have H2:=Hh h2
 have HB0:Hid (Below w.heap.size w w):=Below.refl _ _
 obtain⟨L,hL⟩:∃L,l.length=L:=⟨_,rfl⟩
 have HLL:=Hh hL
 rw[hL] at H1 H2 x1 x2 ⊢
 clear h1 h2 hL
 go_enter Tryz.func46,Tryz.ntmps46
 go_wp2_with fail
 go_loopw [5] (λz wr=>∃i:Nat,i<=L/\z=.int .i64 (i:Int)/\Hid (RdS wr (.slice a1 L c1) l)/\Hid (RdS wr (.slice a2 L c2) l)/\Hid (Below w.heap.size w wr)) (λz _=>L-(intOf z).toNat)
 case atStart=>exact⟨0,by omega,rfl,H1,H2,HB0⟩
 case round=>
  clear H1 H2 HB0
  obtain⟨i,hi,rfl,H1,H2,HB⟩:=hrel
  by_cases hlt:i<L
  ·have y0:(i:Int)<L:=by omega
   have hil:i<l.length:=by rw[HLL.out];exact hlt
   obtain⟨g1,o1,c',e,_,_,⟨k1,m1⟩⟩:=H1.out.at hil
   rw[HLL.out] at e
   injection e with e1 _ e3
   subst e1 e3
   obtain⟨g2,o2,c',e,_,_,⟨k2,m2⟩⟩:=H2.out.at hil
   rw[HLL.out] at e
   injection e with e1 _ e3
   subst e1 e3
   generalize l[i]=d at *
   obtain⟨d1,d2⟩:=d
   have hne:∀Y,(binOp .neq 40 (.agg #[.int .i64 d1,.int .i64 d2]) (.agg #[.int .i64 d1,.int .i64 d2])).run Tryz.prog Y=.ok (.bool false) Y:=λ Y=>by rw[neSt];simp
   have S1:Hid ((wr.drew.cell? ⟨g1,o1+i*2,none⟩=some (.int .i64 d1)/\wr.drew.cell? ⟨g1,o1+i*2+1,none⟩=some (.int .i64 d2))/\wr.drew.cell? ⟨g2,o2+i*2,none⟩=some (.int .i64 d1)/\wr.drew.cell? ⟨g2,o2+i*2+1,none⟩=some (.int .i64 d2)):=⟨⟨k1,m1⟩,k2,m2⟩
   clear k1 m1 k2 m2 hil
   go_wp2_with fail
   refine wp_region_pl (λ Y=>(Y.cell? ⟨g1,o1+i*2,none⟩=some (.int .i64 d1)/\Y.cell? ⟨g1,o1+i*2+1,none⟩=some (.int .i64 d2))/\Y.cell? ⟨g2,o2+i*2,none⟩=some (.int .i64 d1)/\Y.cell? ⟨g2,o2+i*2+1,none⟩=some (.int .i64 d2)) ((0,0)::(1,0)::(2,0)::(3,0)::(4,0)::(5,0)::(6,0)::(7,0)::(8,0)::[]) (by kernel_rfl) (by kernel_rfl) ?_
   iterate 9 (apply wpP_go;rfl;rfl;exact S1.out;(rintro Y ⟨⟨s0,s1⟩,s2,s3⟩;go_simp;exact rfl);intro K hK;go_simp;refine hK _ ?_;clear hK K)
   refine wpP_done ?_
   clear S1 hne
   have H1n:Hid (RdS wr.drew (.slice (some ⟨g1,o1,none⟩) L c1) l):=H1.out.below ((Below.refl _ _).drew)
   have H2n:Hid (RdS wr.drew (.slice (some ⟨g2,o2,none⟩) L c2) l):=H2.out.below ((Below.refl _ _).drew)
   have HBn:Hid (Below w.heap.size w wr.drew):=HB.out.drew
   clear H1 H2 HB
   generalize wr.drew=wn at *
   go_wp2_with fail
   go_roundw
   case rel=>exact⟨i+1,by omega,by go_num,H1n,H2n,HBn⟩
   case measure=>simp[intOf];omega
  ·have y0:¬(i:Int)<L:=by omega
   go_wp2_with fail
   go_ret
   exact⟨rfl,HB.out⟩
end
end
section
theorem prepF_B (fl:FL)(t:Nat×Bool×Bool):(prepF fl t).2.B=fl.B:=by
 unfold prepF
 split
 ·rfl
 ·exact(eraseF_same fl t.1).1
theorem wrAll_B:∀(l:List Str) (fl:FL) (b p:Nat),(wrAll fl b p l).2.1.B=fl.B
 | [],_,_,_=>rfl
 | r::l,fl,b,p=>by
  unfold wrAll
  split
  ·exact(wrAll_B l _ b _).trans (wrL_same _ _ _ _).1
  ·exact(wrL_same _ _ _ _).1
def OkB (r:Int×FL×ST):Prop:=r.2.2.blk<r.2.1.B
section
variable {fl:FL}{st:ST}
theorem cmpF_blk (h:st.blk<fl.B)(V:Vars):OkB (cmpF fl st V):=by
 have e1:=prepF_B fl (tgtF fl st.blk)
 have e2:=wrAll_B (recs V) (prepF fl (tgtF fl st.blk)).2 (tgtF fl st.blk).1 1
 have e3:=(wrL_same (pagesR (hdr ((st.gen+1)%18446744073709551616))) (wrAll (prepF fl (tgtF fl st.blk)).2 (tgtF fl st.blk).1 1 (recs V)).2.1 (tgtF fl st.blk).1 0).1
 have e4:(tgtF fl st.blk).1<fl.B:=by
  rcases tgtK_lt fl st.blk fl.B with q|q
  ·exact q
  ·show(tgtK fl st.blk fl.B).1<fl.B
   omega
 unfold cmpF OkB
 split
 ·exact h
 split
 ·exact h
 split
 ·show st.blk<_
  rw[e1];exact h
 split
 ·show st.blk<_
  rw[e2,e1];exact h
 split
 ·show st.blk<_
  rw[e3,e2,e1];exact h
 ·show(tgtF fl st.blk).1<_
  rw[e3,e2,e1];exact e4
theorem chgF_blk (h:st.blk<fl.B)(k:Nat)(n v:Str):OkB (chgF fl st k n v):=by
 have e3:=(wrL_same (pagesR (recd k n v)) fl st.blk st.nxt).1
 unfold chgF
 split
 ·exact h
 split
 ·exact cmpF_blk h _
 split
 ·show st.blk<_
  rw[e3];exact h
 ·show st.blk<_
  rw[e3];exact h
theorem setF_blk (h:st.blk<fl.B)(n v:Str):OkB (setF fl st n v):=by
 unfold setF
 split
 ·exact h
 split
 ·exact h
 ·exact chgF_blk h _ _ _
theorem delF_blk (h:st.blk<fl.B)(n:Str):OkB (delF fl st n):=by
 unfold delF
 split
 ·exact h
 split
 ·exact h
 ·exact chgF_blk h _ _ _
end
structure GJ (j:Nat)(b:BM):Prop where
 blk:b.st.blk<b.fl.B
 es:b.es.length<=j
 log:b.log.length<=j
 cand:∀x∈b.cand,isId x=true
 byt:∀e∈b.es,Ms.Byt e.d
section
variable {j:Nat}{b:BM}
theorem GJ.mono (h:GJ j b){j':Nat}(hj:j<=j'):GJ j' b:=⟨h.blk,Nat.le_trans h.es hj,Nat.le_trans h.log hj,h.cand,h.byt⟩
theorem GJ.next (h:GJ j b):GJ (j+1) b:=h.mono (Nat.le_succ j)
theorem GJ.setB (h:GJ j b)(n v:Str):GJ j (setB b n v).2:=⟨setF_blk h.blk n v,h.es,h.log,h.cand,h.byt⟩
theorem GJ.delB (h:GJ j b)(n:Str):GJ j (delB b n).2:=⟨delF_blk h.blk n,h.es,h.log,h.cand,h.byt⟩
theorem GJ.setEntry (h:GJ j b)(i:Int)(d:Str)(x:Bool)(n:Int):GJ (j+1) (setEntryB b i d x n).2:=by
 unfold setEntryB
 split
 ·exact(h.setB _ _).next
 ·exact h.next
theorem GJ.setOrder (h:GJ j b)(o:List Int):GJ (j+1) (setOrderB b o).2:=by
 unfold setOrderB
 split
 ·exact(h.setB _ _).next
 ·exact h.next
theorem GJ.setNext (h:GJ j b)(i:Int):GJ (j+1) (setNextB b i).2:=by
 unfold setNextB
 split
 ·exact(h.setB _ _).next
 ·exact h.next
theorem GJ.deny (h:GJ j b)(d:Str):GJ (j+1) (denyB b d).2:=by
 unfold denyB
 split
 ·exact h.next
 split
 ·exact h.next
 ·exact(h.setB _ _).next
theorem GJ.begin (h:GJ j b):GJ (j+1) (beginB b).2:=by
 unfold beginB
 split
 ·split
  ·exact(h.delB _).next
  ·have q:=h.delB nmN
   exact⟨q.blk,Nat.le_succ_of_le q.es,Nat.zero_le _,cndV_id,q.byt⟩
 ·exact⟨h.blk,Nat.le_succ_of_le h.es,Nat.zero_le _,cndV_id,h.byt⟩
theorem GJ.succ (h:GJ j b):GJ (j+1) (succB b).2:=by
 unfold succB
 split
 ·exact h.next
 ·exact(h.setB _ _).next
theorem GJ.try (h:GJ j b)(l:List ByteArray):GJ (j+1) (tryB b l).2.2:=by
 have hc:=h.cand
 unfold tryB
 split
 ·exact h.next
 ·next x r e=>
  rw[e] at hc
  split
  ·split
   ·exact(h.setB _ _).next
   ·next q=>
    have q:=h.setB (nmE x.toNat) (entS (exE b.st.V x).d (exE b.st.V x).a (exE b.st.V x).n ((exE b.st.V x).u+1))
    refine⟨q.blk,?_,?_,(λx hx=>(by cases hx)),λe he=>?_⟩
    ·show(b.es++[_]).length<=_
     rw[List.length_append];have:=h.es;simp;omega
    ·show(b.log++[_]).length<=_
     rw[List.length_append];have:=h.log;simp;omega
    ·rcases List.mem_append.1 he with k|k
     ·exact h.byt e k
     ·rw[List.mem_singleton.1 k];exact Ms.sumD_byt _
  ·refine⟨h.blk,Nat.le_succ_of_le h.es,?_,λy hy=>hc y (List.mem_cons_of_mem _ hy),h.byt⟩
   show(b.log++[_]).length<=_
   rw[List.length_append];have:=h.log;simp;omega
theorem doM_gj (h:GJ j b){m:Nat}(hm:m<12)(c:BC):GJ (j+1) (doM m b c).2.2:=by
 have h12:m=0\/m=1\/m=2\/m=3\/m=4\/m=5\/m=6\/m=7\/m=8\/m=9\/m=10\/m=11:=by omega
 rcases h12 with rfl|rfl|rfl|rfl|rfl|rfl|rfl|rfl|rfl|rfl|rfl|rfl
 ·exact h.setEntry _ _ _ _
 ·exact h.setEntry _ _ _ _
 ·exact h.setOrder _
 ·exact h.setNext _
 ·exact h.deny _
 ·exact h.begin
 ·exact h.begin
 ·exact h.try _
 ·exact h.try _
 ·exact h.try _
 ·exact h.succ
 ·exact h.try _
theorem doB_gj (h:GJ j b)(c:BC):GJ (j+1) (doB b c).2.2:=doM_gj h (mo_lt c.kd 12 (by omega)) c
end
structure Plq where
 N:Nat
 M:Nat
 S:Nat
 L:Nat
def PM (w:World)(G:Nat->Prop)(p:Plq)(n:Nat)(a:BM)(q:Plq)(b:BM):Prop:=∃O1 O2,BW w p.N O1 p.M p.S p.L n a/\QW w q.N O2 q.M q.S q.L 0 b/\(∀k,O1 k->¬O2 k)/\∀k,G k->(¬O1 k/\¬O2 k)/\k<w.heap.size
section
variable {w w':World}{p q:Plq}{n:Nat}{a b:BM}{G:Nat->Prop}
theorem QW.z {N M S L m:Nat}{O:Nat->Prop}(h:QW w N O M S L m b)(m':Nat):QW w N O M S L m' b:=by
 obtain⟨R,D,DS,X,y,ve,vc,vl,h⟩:=h
 exact⟨R,D,DS,X,y,ve,vc,vl,{ h with s:=h.s }⟩
theorem QW.N_pos {N M S L m:Nat}{O:Nat->Prop}(h:QW w N O M S L m b):0<N:=by
 obtain⟨R,D,DS,X,y,ve,vc,vl,h⟩:=h;exact h.h0
theorem BW.N_pos' {N M S L m:Nat}{O:Nat->Prop}(h:BW w N O M S L m b):0<N:=by
 obtain⟨R,D,DS,X,m,y,ve,vc,vl,h⟩:=h;exact h.h0
theorem PM.of {O1 O2:Nat->Prop}{T m:Nat}(h1:BW w p.N O1 p.M p.S p.L n a)(h2:QW w q.N O2 q.M q.S q.L m b)(d1:∀k,O1 k->k<T)(d2:∀k,O2 k->T<=k):PM w (λ_=>False) p n a q b:=
 ⟨O1,O2,h1,h2.z 0,λk h3 h4=>by have:=d1 k h3;have:=d2 k h4;omega,λ_ h=>h.elim⟩
theorem PM.below (h:PM w G p n a q b)(c:Below w.heap.size w w'):PM w' G p n a q b:=by
 obtain⟨O1,O2,h1,h2,h3,h4⟩:=h
 exact⟨O1,O2,h1.below c,h2.below c,h3,λk hk=>⟨(h4 k hk).1,Nat.lt_of_lt_of_le (h4 k hk).2 c.size⟩⟩
theorem PM.mono (h:PM w G p n a q b){n':Nat}(hn:n<=n'):PM w G p n' a q b:=by
 obtain⟨O1,O2,h1,h2,h3,h4⟩:=h
 exact⟨O1,O2,h1.mono hn,h2,h3,h4⟩
theorem PM.less (h:PM w G p n a q b){G':Nat->Prop}(hG:∀k,G' k->G k):PM w G' p n a q b:=by
 obtain⟨O1,O2,h1,h2,h3,h4⟩:=h
 exact⟨O1,O2,h1,h2,h3,λk hk=>h4 k (hG k hk)⟩
theorem PM.news (h:PM w G p n a q b)(c:Below w.heap.size w w'):PM w' (λk=>G k\/(w.heap.size<=k/\k<w'.heap.size)) p n a q b:=by
 obtain⟨O1,O2,h1,h2,h3,h4⟩:=h
 refine⟨O1,O2,h1.below c,h2.below c,h3,λk hk=>?_⟩
 rcases hk with hk|hk
 ·exact⟨(h4 k hk).1,Nat.lt_of_lt_of_le (h4 k hk).2 c.size⟩
 ·exact⟨⟨λho=>by have:=(h1.oN k ho).2;omega,λho=>by have:=(h2.oN k ho).2;omega⟩,hk.2⟩
theorem PM.one (h:PM w G p n a q b):BF w p.N G p.M p.S p.L n a:=by
 obtain⟨O1,O2,h1,h2,h3,h4⟩:=h
 exact⟨O1,h1,λk hk=>⟨(h4 k hk).1.1,(h4 k hk).2⟩⟩
theorem PM.two (h:PM w G p n a q b):QF w q.N G q.M q.S q.L 0 b:=by
 obtain⟨O1,O2,h1,h2,h3,h4⟩:=h
 exact⟨O2,h2,λk hk=>⟨(h4 k hk).1.2,(h4 k hk).2⟩⟩
theorem PM.rnd (h:PM w G p n a q b):Ms.Rnd w:=h.one.rnd
theorem PM.pos (h:PM w G p n a q b):0<w.heap.size:=h.one.pos
def PN (w w':World)(B:Nat)(G:Nat->Prop)(p:Plq)(n:Nat)(a:BM)(q:Plq)(b:BM):Prop:=PM w' G p n a q b/\Ch (λk=>¬G k) w w'/\Below B w w'
theorem PM.chB {C:Nat->Prop}{N:Nat}(c:Ch C w w')(b:Below N w w'):Ch (λk=>C k/\N<=k) w w':=
 ⟨c.os,c.tape,c.output,c.size,λk hk h=>by
  by_cases hN:k<N
  ·exact b.block k hN
  ·exact c.block k hk (λq=>h ⟨q,by omega⟩)⟩
theorem PM.callA (h:PM w G p n a q b){f:FuncId}{args:Array Value}{n':Nat}{r:(Int×Int)×Int×BM}(c:∀F,BF w p.N F p.M p.S p.L n a->Calls Tryz.prog f args w (LT w p.N F p.M p.S p.L n' r)) :
  Calls Tryz.prog f args w λe w'=>e=.returned (.tuple #[.agg #[.int .i64 r.1.1,.int .i64 r.1.2],.int .i64 r.2.1])/\PN w w' p.N G p n' r.2.2 q b:=by
 obtain⟨O1,O2,h1,h2,h3,h4⟩:=h
 refine(c (λk=>O2 k\/G k) ⟨O1,h1,λk hk=>?_⟩).mono λe w' k=>⟨k.1,?_,?_,k.2.bel⟩
 ·rcases hk with hk|hk
  ·exact⟨λh=>h3 k h hk,(h2.oN k hk).2⟩
  ·exact⟨(h4 k hk).1.1,(h4 k hk).2⟩
 ·obtain⟨_,⟨O',g1,g2⟩,ch,be⟩:=k
  have hp:=h1.N_pos'
  exact⟨O',O2,g1,h2.ch (PM.chB ch be) (λk hk=>⟨λh=>hk.1 (.inl h),by have:=hk.2;omega⟩),λk x1 x2=>(g2 k (.inl x2)).1 x1,λk hk=>⟨⟨(g2 k (.inr hk)).1,(h4 k hk).1.2⟩,(g2 k (.inr hk)).2⟩⟩
 ·exact k.2.ch.mono (λi hi _ hG=>hi (.inr hG))
theorem PM.callB (h:PM w G p n a q b){f:FuncId}{args:Array Value}{n':Nat}{r:(Int×Int)×Int×BM}(c:∀F,QF w q.N F q.M q.S q.L 0 b->Calls Tryz.prog f args w (QLT w q.N F q.M q.S q.L n' r)) :
  Calls Tryz.prog f args w λe w'=>e=.returned (.tuple #[.agg #[.int .i64 r.1.1,.int .i64 r.1.2],.int .i64 r.2.1])/\PN w w' q.N G p n a q r.2.2:=by
 obtain⟨O1,O2,h1,h2,h3,h4⟩:=h
 refine(c (λk=>O1 k\/G k) ⟨O2,h2,λk hk=>?_⟩).mono λe w' k=>⟨k.1,?_,?_,k.2.bel⟩
 ·rcases hk with hk|hk
  ·exact⟨h3 k hk,(h1.oN k hk).2⟩
  ·exact⟨(h4 k hk).1.2,(h4 k hk).2⟩
 ·obtain⟨_,⟨O',g1,g2⟩,ch,be⟩:=k
  have hp:=h2.N_pos
  exact⟨O1,O',h1.ch (PM.chB ch be) (λk hk=>⟨λh=>hk.1 (.inl h),by have:=hk.2;omega⟩),g1.z 0,λk x1 x2=>(g2 k (.inl x1)).1 x2,λk hk=>⟨⟨(h4 k hk).1.1,(g2 k (.inr hk)).1⟩,(g2 k (.inr hk)).2⟩⟩
 ·exact k.2.ch.mono (λi hi _ hG=>hi (.inr hG))
theorem PM.putA (h:PM w G p n a q b){f:FuncId}{args:Array Value}{n':Nat}{r:Int×BM}(c:∀F,BF w p.N F p.M p.S p.L n a->Calls Tryz.prog f args w (LR w p.N F p.M p.S p.L n' r)) :
  Calls Tryz.prog f args w λe w'=>e=.returned (.int .i64 r.1)/\PN w w' p.N G p n' r.2 q b:=by
 obtain⟨O1,O2,h1,h2,h3,h4⟩:=h
 refine(c (λk=>O2 k\/G k) ⟨O1,h1,λk hk=>?_⟩).mono λe w' k=>⟨k.1,?_,?_,k.2.bel⟩
 ·rcases hk with hk|hk
  ·exact⟨λh=>h3 k h hk,(h2.oN k hk).2⟩
  ·exact⟨(h4 k hk).1.1,(h4 k hk).2⟩
 ·obtain⟨_,⟨O',g1,g2⟩,ch,be⟩:=k
  have hp:=h1.N_pos'
  exact⟨O',O2,g1,h2.ch (PM.chB ch be) (λk hk=>⟨λh=>hk.1 (.inl h),by have:=hk.2;omega⟩),λk x1 x2=>(g2 k (.inl x2)).1 x1,λk hk=>⟨⟨(g2 k (.inr hk)).1,(h4 k hk).1.2⟩,(g2 k (.inr hk)).2⟩⟩
 ·exact k.2.ch.mono (λi hi _ hG=>hi (.inr hG))
theorem PM.putB (h:PM w G p n a q b){f:FuncId}{args:Array Value}{n':Nat}{r:Int×BM}(c:∀F,QF w q.N F q.M q.S q.L 0 b->Calls Tryz.prog f args w (QLR w q.N F q.M q.S q.L n' r)) :
  Calls Tryz.prog f args w λe w'=>e=.returned (.int .i64 r.1)/\PN w w' q.N G p n a q r.2:=by
 obtain⟨O1,O2,h1,h2,h3,h4⟩:=h
 refine(c (λk=>O1 k\/G k) ⟨O2,h2,λk hk=>?_⟩).mono λe w' k=>⟨k.1,?_,?_,k.2.bel⟩
 ·rcases hk with hk|hk
  ·exact⟨h3 k hk,(h1.oN k hk).2⟩
  ·exact⟨(h4 k hk).1.2,(h4 k hk).2⟩
 ·obtain⟨_,⟨O',g1,g2⟩,ch,be⟩:=k
  have hp:=h2.N_pos
  exact⟨O1,O',h1.ch (PM.chB ch be) (λk hk=>⟨λh=>hk.1 (.inl h),by have:=hk.2;omega⟩),g1.z 0,λk x1 x2=>(g2 k (.inl x1)).1 x2,λk hk=>⟨⟨(h4 k hk).1.1,(g2 k (.inr hk)).1⟩,(g2 k (.inr hk)).2⟩⟩
 ·exact k.2.ch.mono (λi hi _ hG=>hi (.inr hG))
end
end
end Go.Proofs.YtdinbpdpalgohaaGreatDoor
namespace Go.Proofs.YtdinbpdpalgohaaGreatDoor.Ms
open Go.RowKit
attribute [local go_sem ↓] alloc26 load26n store26n load45n
attribute [local go_sem] stN_uc stN_b8 set_new ldN_drew
theorem partE (e:Ev)(w:World):Sem.run Tryz.prog (part 3 (evc e).toArray 0) w=.ok (.int .i64 e.r) w/\Sem.run Tryz.prog (part 31 (evc e).toArray 1) w=.ok (.agg (arr 32 (b8 e.d))) w/\Sem.run Tryz.prog (part 9 (evc e).toArray 33) w=.ok (.string e.t) w:=by
 refine⟨?_,?_,?_⟩<;>kernel_rfl
theorem fieldsE:(Tryz.prog.fieldsOf 62).toList.map (λf=>(f.type,f.offset))=[(3,0),(31,1),(9,33)]:=by kernel_rfl
theorem namesE : ((Tryz.prog.fieldsOf 62).toList.all fun f => f.name != "_") = true := by kernel_rfl
theorem underE:Tryz.prog.underlying 62=some (.struct (Tryz.prog.fieldsOf 62)):=by kernel_rfl
theorem eqStr (d:Nat)(t:ByteArray)(w:World):Sem.run Tryz.prog (Op.equalIn (d+1) 9 (.string t) (.string t)) w=.ok true w:=by
 rw[Op.equalIn]
 simp[run_underlying Tryz.underlying9]
 show t.beq t=true
 unfold ByteArray.beq
 simp
theorem eqDig {D:Nat->Int}(hd:Byt D)(w:World):Sem.run Tryz.prog (Op.equalIn 9999 31 (.agg (arr 32 (b8 D))) (.agg (arr 32 (b8 D)))) w=.ok true w:=by
 rw[arr_dl hd]
 have:=run_equalIn_bytes (P:=Tryz.prog) w 9997 31 5 32 Tryz.underlying31 Tryz.underlying5 (λ_=>by kernel_rfl) (dl D) (dl D) (dl_len _) (dl_len _)
 simpa using this
theorem okB {α β:Type}{x:Sem α}{f:α->Sem β}{P:Program}{w w1:World}{a:α}(h:Sem.run P x w=.ok a w1):Sem.run P (x >>= f) w=Sem.run P (f a) w1:=by
 rw[Sem.run_bind,h]
 rfl
theorem eqF {f : Field}{fs : List Field}{cs : Array Value}{d t o : Nat}{v : Value}{w : World}(hn : ¬ f.name = "_")(ht : f.type = t)(ho : f.offset = o)(ha : Sem.run Tryz.prog (part t cs o) w = .ok v w)(hq : Sem.run Tryz.prog (Op.equalIn d t v v) w = .ok true w) :
  Sem.run Tryz.prog (Op.eqFields d cs cs (f::fs)) w=Sem.run Tryz.prog (Op.eqFields d cs cs fs) w:=by
 subst ht ho
 conv=>lhs;unfold Op.eqFields
 rw[if_pos hn,okB ha,okB ha,okB hq,if_neg (by decide)]
theorem eqE (e:Ev)(hd:Byt e.d)(w:World):Sem.run Tryz.prog (Op.equalIn 10000 62 (.agg (evc e).toArray) (.agg (evc e).toArray)) w=.ok true w:=by
 rw[run_equalIn_struct w 9999 62 _ _ underE (by kernel_rfl)]
 have h26:=eqDig hd w
 have h3:Sem.run Tryz.prog (Op.equalIn 9999 3 (.int .i64 e.r) (.int .i64 e.r)) w=.ok true w:=by
  rw[run_equalIn_int w 9998 3 .i64 .i64 _ _ Tryz.underlying3];simp
 have h9:Sem.run Tryz.prog (Op.equalIn 9999 9 (.string e.t) (.string e.t)) w=.ok true w:=by
  exact eqStr 9998 e.t w
 obtain⟨part3,part26,part9⟩:=partE e w
 have hf:=fieldsE
 have hn:=namesE
 clear hd
 generalize (evc e).toArray=cs at *
 generalize arr 32 (b8 e.d)=ds at *
 generalize e.t=et at *
 generalize e.r=er at *
 clear e
 generalize (Tryz.prog.fieldsOf 62).toList=fs at hf hn ⊢
 rcases fs with _|⟨f0,_|⟨f1,_|⟨f2,_|⟨f3,r⟩⟩⟩⟩
 ·simp at hf
 ·simp at hf
 ·simp at hf
 ·simp only[List.map_cons,List.map_nil,List.cons.injEq,Prod.mk.injEq,and_true] at hf
  simp only[List.all_cons,List.all_nil,Bool.and_true,Bool.and_eq_true,bne_iff_ne,ne_eq] at hn
  obtain⟨⟨t0,o0⟩,⟨t1,o1⟩,t2,o2⟩:=hf
  obtain⟨n0,n1,n2⟩:=hn
  rw[eqF n0 t0 o0 part3 h3,eqF n1 t1 o1 part26 h26,eqF n2 t2 o2 part9 h9]
  rfl
 ·simp at hf
theorem neE (e:Ev)(hd:Byt e.d)(w:World):(binOp .neq 62 (.agg (evc e).toArray) (.agg (evc e).toArray)).run Tryz.prog w=.ok (.bool false) w:=by
 rw[run_neq_struct,eqE e hd w];rfl
theorem equalE_same {v1 v2:Value}{es:List Ev}{w:World}(h1:RdE w v1 es)(h2:RdE w v2 es)(hl:es.length<=1000)(hw:∀e∈es,Byt e.d) :
  Calls Tryz.prog 79 #[v1,v2] w λe w'=>e=.returned (.bool true)/\Below w.heap.size w w':=by
 obtain⟨a1,c1,rfl,k1⟩:=h1
 obtain⟨a2,c2,rfl,k2⟩:=h2
 have H1:Hid (RdE w (.slice a1 es.length c1) es):=⟨a1,c1,rfl,k1⟩
 have H2:Hid (RdE w (.slice a2 es.length c2) es):=⟨a2,c2,rfl,k2⟩
 have HW:=Hh hw
 clear k1 k2 hw
 go_enter Tryz.func79,Tryz.ntmps79
 go_wp2_with fail
 go_loopw [5] (λx wr=>∃i:Nat,i<=es.length/\x=.int .i64 i/\Hid (RdE wr (.slice a1 es.length c1) es)/\Hid (RdE wr (.slice a2 es.length c2) es)/\Hid (Below w.heap.size w wr)) (λx _=>es.length-(intOf x).toNat)
 case atStart=>exact⟨0,by omega,rfl,H1,H2,Below.refl _ _⟩
 case round=>
  clear H1 H2
  obtain⟨i,hi,rfl,H1,H2,hb⟩:=hrel
  by_cases hlt:i<es.length
  ·have z0:(i:Int)<es.length:=by omega
   have hne:es≠[]:=by intro h;rw[h] at hlt;simp at hlt
   obtain⟨x1,y1,e1,k1⟩:=H1.out
   injection e1 with e1 _ e3
   subst e1 e3
   obtain⟨x2,y2,e1,k2⟩:=H2.out
   injection e1 with e1 _ e3
   subst e1 e3
   obtain⟨b1,o1,rfl,_,r1⟩:=k1 hne
   obtain⟨b2,o2,rfl,_,r2⟩:=k2 hne
   obtain⟨e,he⟩:∃e,es[i]? = some e:=⟨_,List.getElem?_eq_getElem hlt⟩
   have ld1:ldN 34 wr (.pointer (some ⟨b1,o1+i*34,none⟩))=some (evc e).toArray:=ldN_of (by simpa using r1 i e he) (evc_size e)
   have ld2:ldN 34 wr (.pointer (some ⟨b2,o2+i*34,none⟩))=some (evc e).toArray:=ldN_of (by simpa using r2 i e he) (evc_size e)
   have hne2:∀W,(binOp .neq 62 (.agg (evc e).toArray) (.agg (evc e).toArray)).run Tryz.prog W=.ok (.bool false) W:=λ W=>neE e (HW.out e (List.mem_of_getElem? he)) W
   clear r1 r2 he k1 k2
   go_wp2_with fail
   refine wp_region_still_lit (by kernel_rfl) (by kernel_rfl) ?_
   repeat still_step
   refine wpStill_nil ?_
   change Exit.then _ _ _ _ wr.drew
   have H1':Hid (RdE wr.drew (.slice (some ⟨b1,o1,none⟩) es.length c1) es):=H1.out
   have H2':Hid (RdE wr.drew (.slice (some ⟨b2,o2,none⟩) es.length c2) es):=H2.out
   have hb':=Hh hb.out.drew
   generalize wr.drew=V at H1' H2' hb' ⊢
   go_wp2_with fail
   exact⟨⟨i+1,by omega,by go_num,H1',H2',hb'⟩,by simp[intOf];omega⟩
  ·have z0:¬(i:Int)<es.length:=by omega
   go_wp2_with fail
   go_ret
   exact⟨rfl,hb.out⟩
end Go.Proofs.YtdinbpdpalgohaaGreatDoor.Ms
namespace Go.Proofs.YtdinbpdpalgohaaGreatDoor
open Go.RowKit
theorem partEn (i:Int)(d:Str)(a:Bool)(n:Int)(w:World):Sem.run Tryz.prog (part 3 (Ms.arr 35 (ecl i d a n)) 0) w=.ok (.int .i64 i) w/\Sem.run Tryz.prog (part 31 (Ms.arr 35 (ecl i d a n)) 1) w=.ok (.agg (Ms.arr 32 (Ms.b8 (dgF d)))) w/\Sem.run Tryz.prog (part 4 (Ms.arr 35 (ecl i d a n)) 33) w=.ok (.bool a) w/\Sem.run Tryz.prog (part 3 (Ms.arr 35 (ecl i d a n)) 34) w=.ok (.int .i64 n) w:=by
 rw[<-ecl_list]
 refine⟨?_,?_,?_,?_⟩<;>kernel_rfl
theorem fieldsEn:(Tryz.prog.fieldsOf 34).toList.map (λf=>(f.type,f.offset))=[(3,0),(31,1),(4,33),(3,34)]:=by kernel_rfl
theorem namesEn : ((Tryz.prog.fieldsOf 34).toList.all fun f => f.name != "_") = true := by kernel_rfl
theorem underEn:Tryz.prog.underlying 34=some (.struct (Tryz.prog.fieldsOf 34)):=by kernel_rfl
theorem eqEn (i:Int)(d:Str)(a:Bool)(n:Int)(w:World):Sem.run Tryz.prog (Op.equalIn 10000 34 (.agg (Ms.arr 35 (ecl i d a n))) (.agg (Ms.arr 35 (ecl i d a n)))) w=.ok true w:=by
 rw[run_equalIn_struct w 9999 34 _ _ underEn (by kernel_rfl)]
 have h26:=Ms.eqDig (dgF_byt d) w
 have h3:∀x:Int,Sem.run Tryz.prog (Op.equalIn 9999 3 (.int .i64 x) (.int .i64 x)) w=.ok true w:=λx=>by
  rw[run_equalIn_int w 9998 3 .i64 .i64 _ _ Tryz.underlying3];simp
 have h4:Sem.run Tryz.prog (Op.equalIn 9999 4 (.bool a) (.bool a)) w=.ok true w:=by
  rw[run_equalIn_bool' w 9998 4 _ _ Tryz.underlying4];simp
 obtain⟨p0,p1,p2,p3⟩:=partEn i d a n w
 have hf:=fieldsEn
 have hn:=namesEn
 generalize Ms.arr 35 (ecl i d a n)=cs at *
 generalize Ms.arr 32 (Ms.b8 (dgF d))=ds at *
 generalize (Tryz.prog.fieldsOf 34).toList=fs at hf hn ⊢
 rcases fs with _|⟨f0,_|⟨f1,_|⟨f2,_|⟨f3,_|⟨f4,r⟩⟩⟩⟩⟩
 ·simp at hf
 ·simp at hf
 ·simp at hf
 ·simp at hf
 ·simp only[List.map_cons,List.map_nil,List.cons.injEq,Prod.mk.injEq,and_true] at hf
  simp only[List.all_cons,List.all_nil,Bool.and_true,Bool.and_eq_true,bne_iff_ne,ne_eq] at hn
  obtain⟨⟨t0,o0⟩,⟨t1,o1⟩,⟨t2,o2⟩,t3,o3⟩:=hf
  obtain⟨n0,n1,n2,n3⟩:=hn
  rw[Ms.eqF n0 t0 o0 p0 (h3 i),Ms.eqF n1 t1 o1 p1 h26,Ms.eqF n2 t2 o2 p2 h4,Ms.eqF n3 t3 o3 p3 (h3 n)]
  rfl
 ·simp at hf
theorem neEn (i:Int)(d:Str)(a:Bool)(n:Int)(w:World):(binOp .neq 34 (.agg (Ms.arr 35 (ecl i d a n))) (.agg (Ms.arr 35 (ecl i d a n)))).run Tryz.prog w=.ok (.bool false) w:=by
 rw[run_neq_struct,eqEn i d a n w];rfl
theorem entT_is (V:Vars)(i:Int):∃(k:Int) (d:Str) (a:Bool) (n u c:Int),entT V i=.tuple #[.agg (Ms.arr 35 (ecl k d a n)),.int .i64 u,.int .i64 c]:=by
 unfold entT
 split
 ·exact⟨_,_,_,_,_,_,rfl⟩
 ·exact⟨_,_,_,_,_,_,rfl⟩
end Go.Proofs.YtdinbpdpalgohaaGreatDoor
namespace Go.Proofs.YtdinbpdpalgohaaGreatDoor
open Go.RowKit
section
attribute [local go_sem ↓] alloc34 load34 store34
attribute [local go_sem] Ms.set_new
theorem enRow (w:World)(i:Int)(d:Str)(a:Bool)(n:Int):Row (w.alloc (.cells (Ms.arr 35 (ecl i d a n)) 34)) w.heap.size 34 35 (ecl i d a n):=Row.ofList w _ _ _ 35 rfl
theorem alike_any {w:World}{G:Nat->Prop}{p q:Plq}{n j:Nat}{b:BM}(h:PM w G p n b q b)(hg:GJ j b)(hj:j<=1000) :
  Calls Tryz.prog 32 #[fptr p.M,fptr q.M,fptr p.L,fptr q.L] w λe w'=>e=.returned (.bool true)/\Below w.heap.size w w':=by
 have HPM:=Hh h
 have HG:=Hh hg
 have HB0:Hid (Below w.heap.size w w):=Below.refl _ _
 clear h hg
 go_enter Tryz.func32,Tryz.ntmps32
 go_wp2_with fail
 go_loopw [9] (λz wr=>∃k:Int,-1<=k/\k<=6/\z=.int .i64 k/\Hid (PM wr G p n b q b)/\Hid (Below w.heap.size w wr)) (λz _=>(6-intOf z).toNat)
 case atStart=>exact⟨-1,by omega,by omega,rfl,HPM,HB0⟩
 case round=>
  clear HPM HB0
  obtain⟨k,hk1,hk6,rfl,HPM,HB⟩:=hrel
  by_cases hlt:k<=5
  ·have hE1:=HPM.out.one.entry k
   have hE2:=λ(W:World) (pm:PM W G p n b q b)=>pm.two.entry k
   obtain⟨i,d,a,m,u,c,he⟩:=entT_is b.st.V k
   rw[he] at hE1 hE2
   have HE1:=Hh hE1
   have HE2:=Hh hE2
   have hst9:=λ(W:World)=>st34 (nE_row W) i d a m
   have hne:=λ(W:World)=>neEn i d a m W
   have hu:(u != u)=false:=by simp
   have hc:(c != c)=false:=by simp
   clear he hE1 hE2
   go_wp2_with fail
   refine HE1.out.mono ?_
   rintro e w1 ⟨rfl,b1⟩
   have hb2:Below wr.heap.size wr (w1.alloc (.cells (Ms.arr 35 (ecl i d a m)) 34)):=b1.alloc b1.size _
   have HPM2:=Hh (HPM.out.below hb2)
   have HB2:Hid (Below w.heap.size w (w1.alloc (.cells (Ms.arr 35 (ecl i d a m)) 34))):=HB.out.trans (hb2.mono HB.out.size)
   have HR2:=Hh (enRow w1 i d a m)
   have HE3:=Hh (HE2.out _ HPM2.out)
   clear b1 hb2 HE1 HE2 HPM HB
   go_wp2_with fail
   generalize w1.alloc (.cells (Ms.arr 35 (ecl i d a m)) 34)=w2 at *
   generalize w1.heap.size=X1 at *
   refine HE3.out.mono ?_
   rintro e w3 ⟨rfl,b3⟩
   have hb4:Below w2.heap.size w2 (w3.alloc (.cells (Ms.arr 35 (ecl i d a m)) 34)):=b3.alloc b3.size _
   have HPM4:=Hh (HPM2.out.below hb4)
   have HB4:Hid (Below w.heap.size w (w3.alloc (.cells (Ms.arr 35 (ecl i d a m)) 34))):=HB2.out.trans (hb4.mono HB2.out.size)
   have hld1:=ld34 (HR2.out.below hb4 HR2.out.lt)
   have hld2:=ld34 (enRow w3 i d a m)
   clear b3 hb4 HR2 HE3 HPM2 HB2
   go_wp2_with fail
   generalize w3.alloc (.cells (Ms.arr 35 (ecl i d a m)) 34)=w4 at *
   go_roundw
   case rel=>exact⟨k+1,by omega,by omega,by go_num,HPM4,HB4⟩
   case measure=>simp[intOf];omega
  ·have hk:k=6:=by omega
   subst hk
   have HO1:=Hh HPM.out.one.order
   have hgl:=HG.out.log
   have hge:=HG.out.es
   clear hlt
   go_wp2_with fail
   refine HO1.out.mono ?_
   rintro e w1 ⟨v1,rfl,hv1,_,b1⟩
   have HV1:=Hh hv1
   have HP1:=Hh (HPM.out.below b1)
   have HB1:Hid (Below w.heap.size w w1):=HB.out.trans (b1.mono HB.out.size)
   have HO2:=Hh HP1.out.two.order
   clear hv1 b1 HO1 HPM HB
   go_wp2_with fail
   refine HO2.out.mono ?_
   rintro e w2 ⟨v2,rfl,hv2,_,b2⟩
   have HP2:=Hh (HP1.out.below b2)
   have HB2:Hid (Below w.heap.size w w2):=HB1.out.trans (b2.mono HB1.out.size)
   have HEQ:=Hh (equalI_same (HV1.out.below b2) hv2)
   clear hv2 b2 HO2 HP1 HB1 HV1
   go_wp2_with fail
   refine HEQ.out.mono ?_
   rintro e w3 ⟨rfl,b3⟩
   have HP3:=Hh (HP2.out.below b3)
   have HB3:Hid (Below w.heap.size w w3):=HB2.out.trans (b3.mono HB2.out.size)
   have HD1:=Hh HP3.out.one.denied
   clear b3 HEQ HP2 HB2
   go_wp2_with fail
   refine HD1.out.mono ?_
   rintro e w1 ⟨v1,rfl,hv1,b1⟩
   have HV1:=Hh hv1.rd
   have HP1:=Hh (HP3.out.below b1)
   have HB1:Hid (Below w.heap.size w w1):=HB3.out.trans (b1.mono HB3.out.size)
   have HD2:=Hh HP1.out.two.denied
   clear hv1 b1 HD1 HP3 HB3
   go_wp2_with fail
   refine HD2.out.mono ?_
   rintro e w2 ⟨v2,rfl,hv2,b2⟩
   have HP2:=Hh (HP1.out.below b2)
   have HB2:Hid (Below w.heap.size w w2):=HB1.out.trans (b2.mono HB1.out.size)
   have HEQ:=Hh (equalDg_same (HV1.out.below b2) hv2.rd denV_32)
   clear hv2 b2 HD2 HP1 HB1 HV1
   go_wp2_with fail
   refine HEQ.out.mono ?_
   rintro e w3 ⟨rfl,b3⟩
   have HP3:=Hh (HP2.out.below b3)
   have HB3:Hid (Below w.heap.size w w3):=HB2.out.trans (b3.mono HB2.out.size)
   have HL1:=Hh (HP3.out.one.log (by omega))
   clear b3 HEQ HP2 HB2
   go_wp2_with fail
   refine HL1.out.mono ?_
   rintro e w1 ⟨v1,rfl,hv1,b1⟩
   have HV1:=Hh (RdS.of hv1)
   have HP1:=Hh (HP3.out.below b1)
   have HB1:Hid (Below w.heap.size w w1):=HB3.out.trans (b1.mono HB3.out.size)
   have HL2:=Hh (HP1.out.two.log (by omega))
   clear hv1 b1 HL1 HP3 HB3
   go_wp2_with fail
   refine HL2.out.mono ?_
   rintro e w2 ⟨v2,rfl,hv2,b2⟩
   have HP2:=Hh (HP1.out.below b2)
   have HB2:Hid (Below w.heap.size w w2):=HB1.out.trans (b2.mono HB1.out.size)
   have HEQ:=Hh (equalSt_same (HV1.out.below b2) (RdS.of hv2))
   clear hv2 b2 HL2 HP1 HB1 HV1
   go_wp2_with fail
   refine HEQ.out.mono ?_
   rintro e w3 ⟨rfl,b3⟩
   have HP3:=Hh (HP2.out.below b3)
   have HB3:Hid (Below w.heap.size w w3):=HB2.out.trans (b3.mono HB2.out.size)
   have HN1:=Hh (HP3.out.one.events (by omega))
   clear b3 HEQ HP2 HB2
   go_wp2_with fail
   refine HN1.out.mono ?_
   rintro e w1 ⟨v1,rfl,hv1,b1⟩
   have HV1:=Hh hv1
   have HP1:=Hh (HP3.out.below b1)
   have HB1:Hid (Below w.heap.size w w1):=HB3.out.trans (b1.mono HB3.out.size)
   have HN2:=Hh (HP1.out.two.events (by omega))
   clear hv1 b1 HN1 HP3 HB3
   go_wp2_with fail
   refine HN2.out.mono ?_
   rintro e w2 ⟨v2,rfl,hv2,b2⟩
   have HB2:Hid (Below w.heap.size w w2):=HB1.out.trans (b2.mono HB1.out.size)
   have HEQ:=Hh (Ms.equalE_same (HV1.out.rd.below b2 (Nat.le_refl _)) hv2.rd (by omega) HG.out.byt)
   clear hv2 b2 HN2 HP1 HB1 HV1
   go_wp2_with fail
   refine HEQ.out.mono ?_
   rintro e w3 ⟨rfl,b3⟩
   have HB3:Hid (Below w.heap.size w w3):=HB2.out.trans (b3.mono HB2.out.size)
   clear b3 HEQ HB2
   go_wp2_with fail
   go_ret
   exact⟨rfl,HB3.out⟩
theorem stpC (w:World)(x c:Int):(w.alloc (.cells #[.int .i64 x,.int .i64 c] 40)).cell? ⟨w.heap.size,0,none⟩=some (.int .i64 x)/\(w.alloc (.cells #[.int .i64 x,.int .i64 c] 40)).cell? ⟨w.heap.size,1,none⟩=some (.int .i64 c):=
 have h:=Row.ofList w 40 #[.int .i64 x,.int .i64 c] (stp x c) 2 rfl
 ⟨h.cell (i:=0) (by omega),h.cell (i:=1) (by omega)⟩
end
end Go.Proofs.YtdinbpdpalgohaaGreatDoor
