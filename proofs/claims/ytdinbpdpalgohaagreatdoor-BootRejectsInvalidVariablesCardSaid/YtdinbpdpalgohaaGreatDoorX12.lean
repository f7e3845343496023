/- Walks and laws: RL RM RN Pt RQ. Conditions: those that each theorem names. -/
import Derived.Test.YtdinbpdpalgohaaGreatDoorX11
import Derived.Test.YtdinbpdpalgohaaGreatDoorX1
set_option maxHeartbeats 8000000
set_option maxRecDepth 100000
namespace Go.Proofs.YtdinbpdpalgohaaGreatDoor
open Go.RowKit
def tgI (t:Nat×Bool×Bool):Int:=if t.2.2=true then (t.1:Int) else -1
theorem tgI_same {fl:FL}{blk b:Nat}{t:Nat×Bool×Bool}(h:b=blk\/blankP (pgsF fl b)=false/\fl.E<=fl.er b):tgI (tstep fl blk t b)=tgI t:=by
 unfold tstep
 split
 ·rfl
 ·rw[if_pos]
  rcases h with h|h
  ·rename_i h2;exact absurd (.inl h) h2
  ·exact h
theorem tgI_new {fl:FL}{blk b:Nat}{t:Nat×Bool×Bool}(h1:b≠blk)(h2:¬(blankP (pgsF fl b)=false/\fl.E<=fl.er b))(h:t.2.2=false\/fl.er b<fl.er t.1):tgI (tstep fl blk t b)=b:=by
 unfold tstep
 rw[if_neg,if_neg h2]
 ·rfl
 ·rintro (k|⟨k1,k2⟩)
  ·exact h1 k
  ·rcases h with h|h
   ·rw[h] at k1;cases k1
   ·omega
theorem tgI_old {fl:FL}{blk b:Nat}{t:Nat×Bool×Bool}(h:t.2.2=true/\¬fl.er b<fl.er t.1):tgI (tstep fl blk t b)=tgI t:=by
 unfold tstep
 rw[if_pos (.inr ⟨h.1,by omega⟩)]
theorem rtarget_any {w:World}{D:Nat->Prop}{S X:Nat}{y:RLay}{fl:FL}{blk:Nat}(h:RW w D X y fl)(hS:w.cell? ⟨S,0,none⟩=some (fptr X))(hS2:w.cell? ⟨S,2,none⟩=some (.int .i64 blk))(hSl:S<w.heap.size)(_:blk<=1000) :
  Calls Tryz.prog 165 #[fptr S] w λe w'=>e=.returned (.int .i64 (tgI (tgtF fl blk)))/\Below w.heap.size w w':=by
 have hB:=h.hB
 have hE:=h.hE
 have hnc:=h.nc
 have H:=Hh h
 have HS:=Hh (And.intro hS hS2)
 have HSL:=Hh hSl
 have HB0:Hid (Below w.heap.size w w):=Below.refl _ _
 have HT:Hid (tgI (tgtF fl blk)=tgI (tgtK fl blk fl.B)):=rfl
 clear h hS hS2 hSl
 go_enter Tryz.func165,Tryz.ntmps165
 go_wp2_with fail
 go_loopw [3,4] (λx z wr=>∃(k:Nat) (ti:Int),k<=fl.B/\x=.int .i64 ti/\z=.int .i64 (k:Int)/\Hid (ti=tgI (tgtK fl blk k))/\Hid (Below w.heap.size w wr)) (λ_ z _=>fl.B-(intOf z).toNat)
 case atStart=>exact⟨0,-1,by omega,rfl,rfl,Hh rfl,HB0⟩
 case round=>
  clear HB0
  obtain⟨k,ti,hk,rfl,rfl,HTI,HB⟩:=hrel
  have hrw:=H.out.below HB.out
  have cS0:wr.cell? ⟨S,0,none⟩=some (fptr X):=(HB.out.cell (p:=⟨S,0,none⟩) HSL.out).trans HS.out.1
  have cS2:wr.cell? ⟨S,2,none⟩=some (.int .i64 blk):=(HB.out.cell (p:=⟨S,2,none⟩) HSL.out).trans HS.out.2
  have cX0:=hrw.c0
  have cX2:=hrw.c2
  have cX4:=hrw.c4
  by_cases hlt:k<fl.B
  ·have y0:(k:Int)<fl.B:=by omega
   have ce:=hrw.ce hlt
   have HBK:=Hh (rblank_any hrw.drew hlt)
   have her:=hrw.her k hlt
   have hts:=tgtK_succ fl blk k
   have HTS:=Hh hts
   obtain⟨t,ht⟩:∃t,tgtK fl blk k=t:=⟨_,rfl⟩
   rw[ht] at HTS HTI
   have htB:t.1<fl.B:=by
    have:=tgtK_lt fl blk k
    rw[ht] at this
    omega
   have ce2:=hrw.ce htB
   have HB2:Hid (Below w.heap.size w wr.drew):=HB.out.drew
   have HB3:Hid (Below w.heap.size w wr.drew.drew):=HB.out.drew.drew
   have c1:wr.drew.cell? ⟨S,0,none⟩=some (fptr X):=cS0
   have c2:wr.drew.cell? ⟨S,2,none⟩=some (.int .i64 blk):=cS2
   have c3:wr.drew.cell? ⟨X,4,none⟩=some (.slice (some ⟨y.nb,0,none⟩) fl.B y.nc):=cX4
   have c4:wr.drew.cell? ⟨X,2,none⟩=some (.int .i64 fl.E):=cX2
   have c5:wr.drew.cell? ⟨y.nb,k,none⟩=some (.int .i64 (fl.er k)):=ce
   clear hts ht hrw HB
   by_cases hb1:k=blk
   ·have hbb:((k:Int)==(blk:Int))=true:=by rw[beq_iff_eq];omega
    have HN:Hid (ti=tgI (tgtK fl blk (k+1))):=by
     show _=_
     rw[HTS.out,HTI.out]
     exact(tgI_same (.inl hb1)).symm
    clear hb1
    go_wp2_with fail
    refine wp_region_pl (λ Y=>Y=wr.drew) ((0,0)::(1,0)::(2,0)::(3,0)::(4,0)::(5,0)::(6,0)::(7,0)::(8,0)::(9,0)::(10,0)::(11,0)::(12,0)::(13,0)::(14,0)::(15,0)::(16,0)::(17,0)::(18,0)::(19,0)::(20,0)::(21,0)::(22,0)::(23,0)::(24,0)::(25,0)::(26,0)::(27,0)::(28,0)::(29,0)::(30,0)::(31,0)::(32,0)::(33,0)::(34,0)::(35,0)::[]) (by kernel_rfl) (by kernel_rfl) ?_
    iterate 7 (apply wpP_go;rfl;rfl;exact rfl;(rintro Z rfl;go_simp;exact rfl);intro K hK;go_simp;refine hK _ ?_;clear hK K)
    iterate 28 (apply wpP_not;rfl;rfl;exact rfl;intro K hK;go_simp;refine hK _ ?_;clear hK K)
    iterate 1 (apply wpP_go;rfl;rfl;exact rfl;(rintro Z rfl;go_simp;exact rfl);intro K hK;go_simp;refine hK _ ?_;clear hK K)
    refine wpP_done ?_
    clear c1 c2 c3 c4 c5 cS0 cS2 cX0 cX2 cX4 ce ce2
    generalize wr.drew=W at *
    go_wp2_with fail
    go_roundw
    case rel=>exact⟨k+1,ti,by omega,rfl,by go_num,HN,HB2⟩
    case measure=>simp[intOf];omega
   ·have hbb:((k:Int)==(blk:Int))=false:=by rw[beq_eq_false_iff_ne];omega
    cases hbk:blankP (pgsF fl k)
    ·have hq:Hid (Calls Tryz.prog 93 #[fptr X,.int .i64 k] wr.drew λe w'=>e=.returned (.bool false)/\wr.drew=w'):=by show Calls _ _ _ _ _;rw[<-hbk];exact HBK.out
     by_cases hen:fl.E<=fl.er k
     ·have hge:decide (fl.E<=fl.er k)=true:=by simpa using hen
      have hgeI:(fl.E:Int)<=(fl.er k:Int):=by omega
      have HN:Hid (ti=tgI (tgtK fl blk (k+1))):=by
       show _=_
       rw[HTS.out,HTI.out]
       exact(tgI_same (.inr ⟨hbk,hen⟩)).symm
      clear hbk HBK
      go_wp2_with fail
      refine wp_region_pl (λ Y=>Y=wr.drew) ((0,0)::(1,0)::(2,0)::(3,0)::(4,0)::(5,0)::(6,0)::(7,0)::(8,0)::(9,0)::(10,0)::(11,0)::(12,0)::(13,0)::(14,0)::(15,0)::(16,0)::(17,0)::(18,0)::(19,0)::(20,0)::(21,0)::(22,0)::(23,0)::(24,0)::(25,0)::(26,0)::(27,0)::(28,0)::(29,0)::(30,0)::(31,0)::(32,0)::(33,0)::(34,0)::(35,0)::[]) (by kernel_rfl) (by kernel_rfl) ?_
      iterate 12 (apply wpP_go;rfl;rfl;exact rfl;(rintro Z rfl;go_simp;exact rfl);intro K hK;go_simp;refine hK _ ?_;clear hK K)
      apply wpP_call
      rfl
      rfl
      exact rfl
      focus (rintro Z rfl;go_simp;exact⟨rfl,rfl⟩)
      focus (rintro Z rfl;exact hq.out)
      intro K hK
      go_simp
      refine hK _ ?_
      clear hK K
      iterate 23 (apply wpP_go;rfl;rfl;exact rfl;(rintro Z rfl;go_simp;exact rfl);intro K hK;go_simp;refine hK _ ?_;clear hK K)
      refine wpP_done ?_
      clear c1 c2 c3 c4 c5 cS0 cS2 cX0 cX2 cX4 ce ce2 hq
      generalize wr.drew=W at *
      go_wp2_with fail
      go_roundw
      case rel=>exact⟨k+1,ti,by omega,rfl,by go_num,HN,HB2⟩
      case measure=>simp[intOf];omega
     ·have hge:decide (fl.E<=fl.er k)=false:=by simpa using hen
      have hgeI:¬(fl.E:Int)<=(fl.er k:Int):=by omega
      clear HBK
      have HNW:Hid (t.2.2=false\/fl.er k<fl.er t.1->(k:Int)=tgI (tgtK fl blk (k+1))):=λhh=>by
       rw[HTS.out]
       exact(tgI_new hb1 (λq=>hen q.2) hh).symm
      rcases htt:t.2.2 with _|_
      ·have hti:ti=-1:=by have:=HTI.out;unfold tgI at this;rw[htt] at this;exact this
       subst hti
       have HN:Hid ((k:Int)=tgI (tgtK fl blk (k+1))):=HNW.out (.inl htt)
       clear htt
       go_wp2_with fail
       refine wp_region_pl (λ Y=>Y=wr.drew) ((0,0)::(1,0)::(2,0)::(3,0)::(4,0)::(5,0)::(6,0)::(7,0)::(8,0)::(9,0)::(10,0)::(11,0)::(12,0)::(13,0)::(14,0)::(15,0)::(16,0)::(17,0)::(18,0)::(19,0)::(20,0)::(21,0)::(22,0)::(23,0)::(24,0)::(25,0)::(26,0)::(27,0)::(28,0)::(29,0)::(30,0)::(31,0)::(32,0)::(33,0)::(34,0)::(35,0)::[]) (by kernel_rfl) (by kernel_rfl) ?_
       iterate 12 (apply wpP_go;rfl;rfl;exact rfl;(rintro Z rfl;go_simp;exact rfl);intro K hK;go_simp;refine hK _ ?_;clear hK K)
       apply wpP_call
       rfl
       rfl
       exact rfl
       focus (rintro Z rfl;go_simp;exact⟨rfl,rfl⟩)
       focus (rintro Z rfl;exact hq.out)
       intro K hK
       go_simp
       refine hK _ ?_
       clear hK K
       iterate 23 (apply wpP_go;rfl;rfl;exact rfl;(rintro Z rfl;go_simp;exact rfl);intro K hK;go_simp;refine hK _ ?_;clear hK K)
       refine wpP_done ?_
       clear c1 c2 c3 c4 c5 hq
       go_wp2_with fail
       refine wp_region_pl (λ Y=>Y=wr.drew.drew) ((0,0)::(1,0)::(2,0)::(3,0)::(4,0)::(5,0)::(6,0)::(7,0)::(8,0)::(9,0)::(10,0)::(11,0)::(12,0)::(13,0)::(14,0)::(15,0)::(16,0)::(17,0)::(18,0)::(19,0)::(20,0)::(21,0)::(22,0)::(23,0)::(24,0)::[]) (by kernel_rfl) (by kernel_rfl) ?_
       iterate 3 (apply wpP_go;rfl;rfl;exact rfl;(rintro Z rfl;go_simp;exact rfl);intro K hK;go_simp;refine hK _ ?_;clear hK K)
       iterate 21 (apply wpP_not;rfl;rfl;exact rfl;intro K hK;go_simp;refine hK _ ?_;clear hK K)
       iterate 1 (apply wpP_go;rfl;rfl;exact rfl;(rintro Z rfl;go_simp;exact rfl);intro K hK;go_simp;refine hK _ ?_;clear hK K)
       refine wpP_done ?_
       clear cS0 cS2 cX0 cX2 cX4 ce ce2
       generalize wr.drew.drew=W at *
       go_wp2_with fail
       go_roundw
       case rel=>exact⟨k+1,k,by omega,rfl,by go_num,HN,HB3⟩
       case measure=>simp[intOf];omega
      ·have hti:ti=(t.1:Int):=by have:=HTI.out;unfold tgI at this;rw[htt] at this;exact this
       have HTF:=Hh htt
       rw[hti]
       have htn:decide ((t.1:Int)<0)=false:=by simp
       have c6:wr.drew.drew.cell? ⟨S,0,none⟩=some (fptr X):=cS0
       have c7:wr.drew.drew.cell? ⟨X,4,none⟩=some (.slice (some ⟨y.nb,0,none⟩) fl.B y.nc):=cX4
       have c8:wr.drew.drew.cell? ⟨y.nb,k,none⟩=some (.int .i64 (fl.er k)):=ce
       have c9:wr.drew.drew.cell? ⟨y.nb,t.1,none⟩=some (.int .i64 (fl.er t.1)):=ce2
       have htI:(t.1:Int)<fl.B:=by omega
       obtain⟨t1,ht1⟩:∃t1,t.1=t1:=⟨_,rfl⟩
       have HT1:=Hh ht1
       rw[ht1] at c9 htI htB htn ce2 ⊢
       obtain⟨e1,he1⟩:∃e1,fl.er k=e1:=⟨_,rfl⟩
       obtain⟨e2,he2⟩:∃e2,fl.er t1=e2:=⟨_,rfl⟩
       have HEE:Hid (fl.er k=e1/\fl.er t.1=e2):=⟨he1,by rw[ht1];exact he2⟩
       clear ht1
       by_cases hlt2:e1<e2
       ·have hdl:decide ((e1:Int)<(e2:Int))=true:=by simpa using hlt2
        have HN:Hid ((k:Int)=tgI (tgtK fl blk (k+1))):=HNW.out (.inr (by rw[HEE.out.1,HEE.out.2];exact hlt2))
        rw[he1] at c8 c5 ce hge hgeI
        rw[he2] at c9 ce2
        clear htt hti he1 he2 htn
        have htn:¬(t1:Int)<0:=by omega
        go_wp2_with fail
        refine wp_region_pl (λ Y=>Y=wr.drew) ((0,0)::(1,0)::(2,0)::(3,0)::(4,0)::(5,0)::(6,0)::(7,0)::(8,0)::(9,0)::(10,0)::(11,0)::(12,0)::(13,0)::(14,0)::(15,0)::(16,0)::(17,0)::(18,0)::(19,0)::(20,0)::(21,0)::(22,0)::(23,0)::(24,0)::(25,0)::(26,0)::(27,0)::(28,0)::(29,0)::(30,0)::(31,0)::(32,0)::(33,0)::(34,0)::(35,0)::[]) (by kernel_rfl) (by kernel_rfl) ?_
        iterate 12 (apply wpP_go;rfl;rfl;exact rfl;(rintro Z rfl;go_simp;exact rfl);intro K hK;go_simp;refine hK _ ?_;clear hK K)
        apply wpP_call
        rfl
        rfl
        exact rfl
        focus (rintro Z rfl;go_simp;exact⟨rfl,rfl⟩)
        focus (rintro Z rfl;exact hq.out)
        intro K hK
        go_simp
        refine hK _ ?_
        clear hK K
        iterate 23 (apply wpP_go;rfl;rfl;exact rfl;(rintro Z rfl;go_simp;exact rfl);intro K hK;go_simp;refine hK _ ?_;clear hK K)
        refine wpP_done ?_
        clear c1 c2 c3 c4 c5 hq
        have htn2:decide ((t1:Int)<0)=false:=by simp
        have hdl2:decide ((e1:Int)<(e2:Int))=true:=by simpa using hlt2
        go_wp2_with fail
        refine wp_region_pl (λ Y=>Y=wr.drew.drew) ((0,0)::(1,0)::(2,0)::(3,0)::(4,0)::(5,0)::(6,0)::(7,0)::(8,0)::(9,0)::(10,0)::(11,0)::(12,0)::(13,0)::(14,0)::(15,0)::(16,0)::(17,0)::(18,0)::(19,0)::(20,0)::(21,0)::(22,0)::(23,0)::(24,0)::[]) (by kernel_rfl) (by kernel_rfl) ?_
        iterate 25 (apply wpP_go;rfl;rfl;exact rfl;(rintro Z rfl;go_simp;exact rfl);intro K hK;go_simp;refine hK _ ?_;clear hK K)
        refine wpP_done ?_
        clear c6 c7 c8 c9 cS0 cS2 cX0 cX2 cX4 ce ce2
        generalize wr.drew.drew=W at *
        go_wp2_with fail
        go_roundw
        case rel=>exact⟨k+1,k,by omega,rfl,by go_num,HN,HB3⟩
        case measure=>simp[intOf];omega
       ·have hdl:decide ((e1:Int)<(e2:Int))=false:=by simpa using hlt2
        have HN:Hid ((t1:Int)=tgI (tgtK fl blk (k+1))):=by
         show _=_
         rw[HTS.out,tgI_old ⟨HTF.out,by rw[HEE.out.1,HEE.out.2];exact hlt2⟩,<-HTI.out,hti,HT1.out]
        rw[he1] at c8 c5 ce hge hgeI
        rw[he2] at c9 ce2
        clear htt hti he1 he2 htn
        have htn:¬(t1:Int)<0:=by omega
        go_wp2_with fail
        refine wp_region_pl (λ Y=>Y=wr.drew) ((0,0)::(1,0)::(2,0)::(3,0)::(4,0)::(5,0)::(6,0)::(7,0)::(8,0)::(9,0)::(10,0)::(11,0)::(12,0)::(13,0)::(14,0)::(15,0)::(16,0)::(17,0)::(18,0)::(19,0)::(20,0)::(21,0)::(22,0)::(23,0)::(24,0)::(25,0)::(26,0)::(27,0)::(28,0)::(29,0)::(30,0)::(31,0)::(32,0)::(33,0)::(34,0)::(35,0)::[]) (by kernel_rfl) (by kernel_rfl) ?_
        iterate 12 (apply wpP_go;rfl;rfl;exact rfl;(rintro Z rfl;go_simp;exact rfl);intro K hK;go_simp;refine hK _ ?_;clear hK K)
        apply wpP_call
        rfl
        rfl
        exact rfl
        focus (rintro Z rfl;go_simp;exact⟨rfl,rfl⟩)
        focus (rintro Z rfl;exact hq.out)
        intro K hK
        go_simp
        refine hK _ ?_
        clear hK K
        iterate 23 (apply wpP_go;rfl;rfl;exact rfl;(rintro Z rfl;go_simp;exact rfl);intro K hK;go_simp;refine hK _ ?_;clear hK K)
        refine wpP_done ?_
        clear c1 c2 c3 c4 c5 hq
        have htn2:decide ((t1:Int)<0)=false:=by simp
        have hdl2:decide ((e1:Int)<(e2:Int))=false:=by simpa using hlt2
        go_wp2_with fail
        refine wp_region_pl (λ Y=>Y=wr.drew.drew) ((0,0)::(1,0)::(2,0)::(3,0)::(4,0)::(5,0)::(6,0)::(7,0)::(8,0)::(9,0)::(10,0)::(11,0)::(12,0)::(13,0)::(14,0)::(15,0)::(16,0)::(17,0)::(18,0)::(19,0)::(20,0)::(21,0)::(22,0)::(23,0)::(24,0)::[]) (by kernel_rfl) (by kernel_rfl) ?_
        iterate 25 (apply wpP_go;rfl;rfl;exact rfl;(rintro Z rfl;go_simp;exact rfl);intro K hK;go_simp;refine hK _ ?_;clear hK K)
        refine wpP_done ?_
        clear c6 c7 c8 c9 cS0 cS2 cX0 cX2 cX4 ce ce2
        generalize wr.drew.drew=W at *
        go_wp2_with fail
        go_roundw
        case rel=>exact⟨k+1,t1,by omega,rfl,by go_num,HN,HB3⟩
        case measure=>simp[intOf];omega
    ·have hq:Hid (Calls Tryz.prog 93 #[fptr X,.int .i64 k] wr.drew λe w'=>e=.returned (.bool true)/\wr.drew=w'):=by show Calls _ _ _ _ _;rw[<-hbk];exact HBK.out
     clear HBK
     have HNW:Hid (t.2.2=false\/fl.er k<fl.er t.1->(k:Int)=tgI (tgtK fl blk (k+1))):=λhh=>by
      rw[HTS.out]
      exact(tgI_new hb1 (λq=>by rw[hbk] at q;cases q.1) hh).symm
     rcases htt:t.2.2 with _|_
     ·have hti:ti=-1:=by have:=HTI.out;unfold tgI at this;rw[htt] at this;exact this
      subst hti
      have HN:Hid ((k:Int)=tgI (tgtK fl blk (k+1))):=HNW.out (.inl htt)
      clear htt
      go_wp2_with fail
      refine wp_region_pl (λ Y=>Y=wr.drew) ((0,0)::(1,0)::(2,0)::(3,0)::(4,0)::(5,0)::(6,0)::(7,0)::(8,0)::(9,0)::(10,0)::(11,0)::(12,0)::(13,0)::(14,0)::(15,0)::(16,0)::(17,0)::(18,0)::(19,0)::(20,0)::(21,0)::(22,0)::(23,0)::(24,0)::(25,0)::(26,0)::(27,0)::(28,0)::(29,0)::(30,0)::(31,0)::(32,0)::(33,0)::(34,0)::(35,0)::[]) (by kernel_rfl) (by kernel_rfl) ?_
      iterate 12 (apply wpP_go;rfl;rfl;exact rfl;(rintro Z rfl;go_simp;exact rfl);intro K hK;go_simp;refine hK _ ?_;clear hK K)
      apply wpP_call
      rfl
      rfl
      exact rfl
      focus (rintro Z rfl;go_simp;exact⟨rfl,rfl⟩)
      focus (rintro Z rfl;exact hq.out)
      intro K hK
      go_simp
      refine hK _ ?_
      clear hK K
      iterate 2 (apply wpP_go;rfl;rfl;exact rfl;(rintro Z rfl;go_simp;exact rfl);intro K hK;go_simp;refine hK _ ?_;clear hK K)
      iterate 19 (apply wpP_not;rfl;rfl;exact rfl;intro K hK;go_simp;refine hK _ ?_;clear hK K)
      iterate 2 (apply wpP_go;rfl;rfl;exact rfl;(rintro Z rfl;go_simp;exact rfl);intro K hK;go_simp;refine hK _ ?_;clear hK K)
      refine wpP_done ?_
      clear c1 c2 c3 c4 c5 hq
      go_wp2_with fail
      refine wp_region_pl (λ Y=>Y=wr.drew.drew) ((0,0)::(1,0)::(2,0)::(3,0)::(4,0)::(5,0)::(6,0)::(7,0)::(8,0)::(9,0)::(10,0)::(11,0)::(12,0)::(13,0)::(14,0)::(15,0)::(16,0)::(17,0)::(18,0)::(19,0)::(20,0)::(21,0)::(22,0)::(23,0)::(24,0)::[]) (by kernel_rfl) (by kernel_rfl) ?_
      iterate 3 (apply wpP_go;rfl;rfl;exact rfl;(rintro Z rfl;go_simp;exact rfl);intro K hK;go_simp;refine hK _ ?_;clear hK K)
      iterate 21 (apply wpP_not;rfl;rfl;exact rfl;intro K hK;go_simp;refine hK _ ?_;clear hK K)
      iterate 1 (apply wpP_go;rfl;rfl;exact rfl;(rintro Z rfl;go_simp;exact rfl);intro K hK;go_simp;refine hK _ ?_;clear hK K)
      refine wpP_done ?_
      clear cS0 cS2 cX0 cX2 cX4 ce ce2
      generalize wr.drew.drew=W at *
      go_wp2_with fail
      go_roundw
      case rel=>exact⟨k+1,k,by omega,rfl,by go_num,HN,HB3⟩
      case measure=>simp[intOf];omega
     ·have hti:ti=(t.1:Int):=by have:=HTI.out;unfold tgI at this;rw[htt] at this;exact this
      have HTF:=Hh htt
      rw[hti]
      have htn:decide ((t.1:Int)<0)=false:=by simp
      have c6:wr.drew.drew.cell? ⟨S,0,none⟩=some (fptr X):=cS0
      have c7:wr.drew.drew.cell? ⟨X,4,none⟩=some (.slice (some ⟨y.nb,0,none⟩) fl.B y.nc):=cX4
      have c8:wr.drew.drew.cell? ⟨y.nb,k,none⟩=some (.int .i64 (fl.er k)):=ce
      have c9:wr.drew.drew.cell? ⟨y.nb,t.1,none⟩=some (.int .i64 (fl.er t.1)):=ce2
      have htI:(t.1:Int)<fl.B:=by omega
      obtain⟨t1,ht1⟩:∃t1,t.1=t1:=⟨_,rfl⟩
      have HT1:=Hh ht1
      rw[ht1] at c9 htI htB htn ce2 ⊢
      obtain⟨e1,he1⟩:∃e1,fl.er k=e1:=⟨_,rfl⟩
      obtain⟨e2,he2⟩:∃e2,fl.er t1=e2:=⟨_,rfl⟩
      have HEE:Hid (fl.er k=e1/\fl.er t.1=e2):=⟨he1,by rw[ht1];exact he2⟩
      clear ht1
      by_cases hlt2:e1<e2
      ·have hdl:decide ((e1:Int)<(e2:Int))=true:=by simpa using hlt2
       have HN:Hid ((k:Int)=tgI (tgtK fl blk (k+1))):=HNW.out (.inr (by rw[HEE.out.1,HEE.out.2];exact hlt2))
       rw[he1] at c8 c5 ce
       rw[he2] at c9 ce2
       clear htt hti he1 he2 htn
       have htn:¬(t1:Int)<0:=by omega
       go_wp2_with fail
       refine wp_region_pl (λ Y=>Y=wr.drew) ((0,0)::(1,0)::(2,0)::(3,0)::(4,0)::(5,0)::(6,0)::(7,0)::(8,0)::(9,0)::(10,0)::(11,0)::(12,0)::(13,0)::(14,0)::(15,0)::(16,0)::(17,0)::(18,0)::(19,0)::(20,0)::(21,0)::(22,0)::(23,0)::(24,0)::(25,0)::(26,0)::(27,0)::(28,0)::(29,0)::(30,0)::(31,0)::(32,0)::(33,0)::(34,0)::(35,0)::[]) (by kernel_rfl) (by kernel_rfl) ?_
       iterate 12 (apply wpP_go;rfl;rfl;exact rfl;(rintro Z rfl;go_simp;exact rfl);intro K hK;go_simp;refine hK _ ?_;clear hK K)
       apply wpP_call
       rfl
       rfl
       exact rfl
       focus (rintro Z rfl;go_simp;exact⟨rfl,rfl⟩)
       focus (rintro Z rfl;exact hq.out)
       intro K hK
       go_simp
       refine hK _ ?_
       clear hK K
       iterate 2 (apply wpP_go;rfl;rfl;exact rfl;(rintro Z rfl;go_simp;exact rfl);intro K hK;go_simp;refine hK _ ?_;clear hK K)
       iterate 19 (apply wpP_not;rfl;rfl;exact rfl;intro K hK;go_simp;refine hK _ ?_;clear hK K)
       iterate 2 (apply wpP_go;rfl;rfl;exact rfl;(rintro Z rfl;go_simp;exact rfl);intro K hK;go_simp;refine hK _ ?_;clear hK K)
       refine wpP_done ?_
       clear c1 c2 c3 c4 c5 hq
       have htn2:decide ((t1:Int)<0)=false:=by simp
       have hdl2:decide ((e1:Int)<(e2:Int))=true:=by simpa using hlt2
       go_wp2_with fail
       refine wp_region_pl (λ Y=>Y=wr.drew.drew) ((0,0)::(1,0)::(2,0)::(3,0)::(4,0)::(5,0)::(6,0)::(7,0)::(8,0)::(9,0)::(10,0)::(11,0)::(12,0)::(13,0)::(14,0)::(15,0)::(16,0)::(17,0)::(18,0)::(19,0)::(20,0)::(21,0)::(22,0)::(23,0)::(24,0)::[]) (by kernel_rfl) (by kernel_rfl) ?_
       iterate 25 (apply wpP_go;rfl;rfl;exact rfl;(rintro Z rfl;go_simp;exact rfl);intro K hK;go_simp;refine hK _ ?_;clear hK K)
       refine wpP_done ?_
       clear c6 c7 c8 c9 cS0 cS2 cX0 cX2 cX4 ce ce2
       generalize wr.drew.drew=W at *
       go_wp2_with fail
       go_roundw
       case rel=>exact⟨k+1,k,by omega,rfl,by go_num,HN,HB3⟩
       case measure=>simp[intOf];omega
      ·have hdl:decide ((e1:Int)<(e2:Int))=false:=by simpa using hlt2
       have HN:Hid ((t1:Int)=tgI (tgtK fl blk (k+1))):=by
        show _=_
        rw[HTS.out,tgI_old ⟨HTF.out,by rw[HEE.out.1,HEE.out.2];exact hlt2⟩,<-HTI.out,hti,HT1.out]
       rw[he1] at c8 c5 ce
       rw[he2] at c9 ce2
       clear htt hti he1 he2 htn
       have htn:¬(t1:Int)<0:=by omega
       go_wp2_with fail
       refine wp_region_pl (λ Y=>Y=wr.drew) ((0,0)::(1,0)::(2,0)::(3,0)::(4,0)::(5,0)::(6,0)::(7,0)::(8,0)::(9,0)::(10,0)::(11,0)::(12,0)::(13,0)::(14,0)::(15,0)::(16,0)::(17,0)::(18,0)::(19,0)::(20,0)::(21,0)::(22,0)::(23,0)::(24,0)::(25,0)::(26,0)::(27,0)::(28,0)::(29,0)::(30,0)::(31,0)::(32,0)::(33,0)::(34,0)::(35,0)::[]) (by kernel_rfl) (by kernel_rfl) ?_
       iterate 12 (apply wpP_go;rfl;rfl;exact rfl;(rintro Z rfl;go_simp;exact rfl);intro K hK;go_simp;refine hK _ ?_;clear hK K)
       apply wpP_call
       rfl
       rfl
       exact rfl
       focus (rintro Z rfl;go_simp;exact⟨rfl,rfl⟩)
       focus (rintro Z rfl;exact hq.out)
       intro K hK
       go_simp
       refine hK _ ?_
       clear hK K
       iterate 2 (apply wpP_go;rfl;rfl;exact rfl;(rintro Z rfl;go_simp;exact rfl);intro K hK;go_simp;refine hK _ ?_;clear hK K)
       iterate 19 (apply wpP_not;rfl;rfl;exact rfl;intro K hK;go_simp;refine hK _ ?_;clear hK K)
       iterate 2 (apply wpP_go;rfl;rfl;exact rfl;(rintro Z rfl;go_simp;exact rfl);intro K hK;go_simp;refine hK _ ?_;clear hK K)
       refine wpP_done ?_
       clear c1 c2 c3 c4 c5 hq
       have htn2:decide ((t1:Int)<0)=false:=by simp
       have hdl2:decide ((e1:Int)<(e2:Int))=false:=by simpa using hlt2
       go_wp2_with fail
       refine wp_region_pl (λ Y=>Y=wr.drew.drew) ((0,0)::(1,0)::(2,0)::(3,0)::(4,0)::(5,0)::(6,0)::(7,0)::(8,0)::(9,0)::(10,0)::(11,0)::(12,0)::(13,0)::(14,0)::(15,0)::(16,0)::(17,0)::(18,0)::(19,0)::(20,0)::(21,0)::(22,0)::(23,0)::(24,0)::[]) (by kernel_rfl) (by kernel_rfl) ?_
       iterate 25 (apply wpP_go;rfl;rfl;exact rfl;(rintro Z rfl;go_simp;exact rfl);intro K hK;go_simp;refine hK _ ?_;clear hK K)
       refine wpP_done ?_
       clear c6 c7 c8 c9 cS0 cS2 cX0 cX2 cX4 ce ce2
       generalize wr.drew.drew=W at *
       go_wp2_with fail
       go_roundw
       case rel=>exact⟨k+1,t1,by omega,rfl,by go_num,HN,HB3⟩
       case measure=>simp[intOf];omega
  ·have y0:¬(k:Int)<fl.B:=by omega
   have hkB:k=fl.B:=by omega
   subst hkB
   go_wp2_with fail
   go_ret
   exact⟨by rw[HTI.out,HT.out];rfl,HB.out⟩
section
def AL (w:World)(a:Option Addr)(cap:Nat)(cs:List Str):Prop:=(a=none/\cap=0/\cs=[])\/∃g,a=some ⟨g,0,none⟩/\PS w g 0 cap cs
section
variable {w w':World}{D DS:Nat->Prop}{S X:Nat}{st:ST}{y:RLay}{fl:FL}
theorem AL.ch {C:Nat->Prop}{a:Option Addr}{cap:Nat}{cs:List Str}(h:AL w a cap cs)(c:Ch C w w')(hC:∀g,a=some ⟨g,0,none⟩->¬C g):AL w' a cap cs:=by
 rcases h with h|⟨g,e,h⟩
 ·exact .inl h
 ·exact .inr ⟨g,e,h.ch c (hC g e)⟩
theorem AL.le {a:Option Addr}{cap:Nat}{cs:List Str}(h:AL w a cap cs):cs.length<=cap/\cap<=maxLen:=by
 rcases h with ⟨_,rfl,rfl⟩|⟨g,e,h⟩
 ·exact⟨Nat.le_refl _,by unfold maxLen;omega⟩
 ·exact⟨h.2.1,h.2.2.1⟩
theorem RS.fresh (h:RS w D S X st){st':ST}{a:Option Addr}{c:Nat}(hv:VS w a c st'.V)(hg:∀g,a=some ⟨g,0,none⟩->g≠S/\g<w.heap.size)(hr:Rg w' S 167 6 (rsc st' X a c))(k:Ch (λx=>x=S) w w')(hs:Srt st'.V)(hh:∀p∈st'.V,p.1.length<=24/\p.2.length<=128)
  (h1:st'.gen<=18446744073709551615) (h2:st'.nxt<=900) (h3:st'.blk<=1000) (h4:st'.V.length<=st'.nxt+1):RS w' (λk=>D k\/a=some ⟨k,0,none⟩) S X st' where
 ex:=⟨a,c,hr,hv.ch k (λg e=>(hg g e).1),λg e=>⟨.inr e,(hg g e).1⟩⟩
 dS:=.inl h.dS
 fin:=λi hi=>Nat.lt_of_lt_of_le (hi.elim (h.fin i) (λe=>(hg i e).2)) k.size
 srt:=hs
 hv:=hh
 hg:=h1
 hn:=h2
 hb:=h3
 vl:=h4
theorem rwrite_opt (h:RW w D X y fl){b p cap n:Nat}{a:Option Addr}{cs:List Str}(hb:b<fl.B)(hS:w.cell? ⟨S,0,none⟩=some (fptr X))(hSl:S<w.heap.size)(hSD:¬D S)(hps:AL w a cap cs)(hgD:∀g,a=some ⟨g,0,none⟩->¬D g)(hl:P64 cs)(hn:cs.length=n)(hp:p+n<=fl.P) :
  Calls Tryz.prog 149 #[fptr S,.int .i64 b,.int .i64 p,.slice a n cap] w λe w'=>e=.returned (.int .i64 (wrL fl b p cs).1)/\RW w' D X y (wrL fl b p cs).2/\Ch D w w':=by
 rcases hps with ⟨rfl,rfl,rfl⟩|⟨g,rfl,hps⟩
 ·have hn0:n=0:=by rw[<-hn];rfl
  subst hn0
  have H:=Hh h
  clear h hgD hl hn hS
  go_enter Tryz.func149,Tryz.ntmps149
  go_wp2_with fail
  go_loopw [9] (λz wr=>z=.int .i64 0/\wr=w) (λz _=>0)
  case atStart=>exact⟨rfl,rfl⟩
  case round=>
   obtain⟨rfl,rfl⟩:=hrel
   go_wp2_with fail
   go_ret
   exact⟨rfl,H.out,Ch.refl _ _⟩
 ·exact rwrite_any h hb hS hSl hSD hps (hgD g rfl) hl hn hp
def RLeft (w w':World)(D DS A:Nat->Prop)(S X:Nat)(y:RLay)(r:Int×FL×ST):Prop:=
 RW w' D X y r.2.1/\Ch (λk=>D k\/DS k) w w'/\∃D',(∀i,D' i->DS i\/A i)/\RS w' D' S X r.2.2
theorem RLeft.same {A:Nat->Prop}{r:Int×FL×ST}{e:Int}{f:FL}(hc:r=(e,f,st))(hf:RW w' D X y f)(c:Ch D w w')(hs:RS w DS S X st)(hdis:∀k,D k->¬DS k):RLeft w w' D DS A S X y r:=by
 subst hc
 exact⟨hf,c.mono λi h _=>.inl h,DS,λi h=>.inl h,hs.ch c λk h1 h2=>hdis k h2 h1⟩
theorem recs_len (V:Vars):V.length<=sumP (recs V):=by
 induction V with
 | nil=>exact Nat.zero_le _
 | cons p r ih=>
  have e:sumP (recs (p::r))=pgs (recd 1 p.1 p.2).length+sumP (recs r):=rfl
  have:1<=pgs (recd 1 p.1 p.2).length:=by rw[recd_len];unfold pgs;omega
  rw[e,List.length_cons]
  omega
theorem tgt_lt {t blk:Nat}{bl:Bool}(h:tgtF fl blk=(t,bl,true)):t<fl.B/\bl=blankP (pgsF fl t):=by
 have:=(tgtK_spec fl blk fl.B).1
 rw[show tgtK fl blk fl.B=(t,bl,true) from h] at this
 exact⟨(this rfl).1,(this rfl).2.2.1⟩
theorem rcompact_any {a v:Option Addr}{ca cv n L:Nat}{V:Vars}(hs:RS w DS S X st)(h:RW w D X y fl)(hdis:∀k,D k->¬DS k)(ha:AL w a ca (allP (recs V)))(haD:∀g,a=some ⟨g,0,none⟩->¬D g)(hn:sumP (recs V)=n)(hP1:1+n<=fl.P)
  (hv:VS w v cv V) (hvD:∀g,v=some ⟨g,0,none⟩->¬D g/\¬DS g/\g<w.heap.size) (hV:Srt V) (hhv:∀p∈V,p.1.length<=24/\p.2.length<=128) (hL:V.length=L) :
  Calls Tryz.prog 150 #[fptr S,.slice a n ca,.slice v L cv] w λe w'=>e=.returned (.int .i64 (cmpF fl st V).1)/\RLeft w w' D DS (λi=>v=some ⟨i,0,none⟩) S X y (cmpF fl st V):=by
 obtain⟨t,bl,ok,ht⟩:∃t bl ok,tgtF fl st.blk=(t,bl,ok):=⟨_,_,_,rfl⟩
 have HTA:=Hh (rtarget_any h hs.c0 hs.c2 (hs.fin _ hs.dS) hs.hb)
 rw[ht] at HTA
 have HT:=Hh ht
 have HSUM:Hid (1+sumP (recs V)=1+n):=by show _=_;rw[hn]
 have HN:=Hh hn
 have HS:=Hh hs
 have H:=Hh h
 have HA:=Hh (And.intro ha haD)
 have HV:=Hh (And.intro hv hvD)
 have HHV:=Hh hhv
 have HL:=Hh hL
 have hfl:¬fl.P<1+n:=by omega
 have hB:=h.hB
 have hP:=h.hP
 have hale:=ha.le
 rw[allP_len,hn] at hale
 have hcap:n<=ca/\ca<=maxLen:=hale
 have hgl:=hs.hg
 obtain⟨g2,hg2⟩:∃g2,(st.gen+1)%18446744073709551616=g2:=⟨_,rfl⟩
 have HG2:=Hh hg2
 clear h hs ha haD hv hvD hhv hn hL hale hg2
 cases ok
 ·have HE:=Hh (cmp2 (st:=st) HSUM.out hfl ht)
  clear ht
  have hti:tgI (t,bl,false)=-1:=rfl
  rw[hti] at HTA
  clear hti
  go_enter Tryz.func150,Tryz.ntmps150
  go_wp2_with fail
  refine HTA.out.mono ?_
  rintro e w1 ⟨rfl,b1⟩
  have HB1:=Hh b1
  clear b1 HTA
  go_wp2_with fail
  go_ret
  rw[HE.out]
  exact⟨rfl,RLeft.same rfl (H.out.below HB1.out) (Ch.of_below HB1.out D) HS.out hdis⟩
 ·obtain⟨htB,hbl⟩:=tgt_lt ht
  have hti:tgI (t,bl,true)=(t:Int):=rfl
  rw[hti] at HTA
  have htn:¬(t:Int)<0:=by omega
  clear hti ht
  go_enter Tryz.func150,Tryz.ntmps150
  go_wp2_with fail
  refine HTA.out.mono ?_
  rintro e w1 ⟨rfl,b1⟩
  have HC:Hid (Ch D w w1):=Ch.of_below b1 D
  have HR:=Hh (H.out.below b1)
  clear b1 HTA
  have hs1:=HS.out.ch HC.out λk h1 h2=>hdis k h2 h1
  have k0:=hs1.c0
  have HBK:=Hh (rblank_any HR.out htB)
  rw[<-hbl] at HBK
  clear hs1 hbl
  go_wp2_with fail
  refine HBK.out.mono ?_
  rintro e w2 ⟨rfl,rfl⟩
  clear HBK
  cases bl
  ·obtain⟨e1,f1,h1⟩:∃e f',eraseF fl t=(e,f'):=⟨_,_,rfl⟩
   have HER:=Hh (rerase_any HR.out htB)
   rw[h1] at HER
   have hsm:=eraseF_same fl t
   rw[h1] at hsm
   have H1:Hid (prepF fl (t,false,true)=(e1,f1)):=h1
   have HBP0:=Hh hsm
   clear h1 hsm
   go_wp2_with fail
   refine HER.out.mono ?_
   rintro e w3 ⟨rfl,h3,c3⟩
   have HC3:Hid (Ch D w w3):=HC.out.trans c3
   have HR3:=Hh h3
   clear h3 c3 HC HR HER k0
   by_cases he1:e1=0
   ·subst he1
    have HPR:=H1
    have HC:=HC3
    have HR:=HR3
    have HBP:=HBP0
    clear HC3 HR3 H1 HBP0
    have hw:=wrAll_wrL (recs V) f1 t 1
    obtain⟨e2,f2,h2⟩:∃e f',wrL f1 t 1 (allP (recs V))=(e,f'):=⟨_,_,rfl⟩
    rw[h2] at hw
    have hs2:=wrL_same (allP (recs V)) f1 t 1
    rw[h2] at hs2
    have HBP2:Hid (f2.B=fl.B/\f2.P=fl.P):=⟨hs2.1.trans HBP.out.1,hs2.2.trans HBP.out.2⟩
    have hsw:=HS.out.ch HC.out λk h1 h2=>hdis k h2 h1
    have HW2:=Hh (rwrite_opt (b:=t) (p:=1) (n:=n) HR.out (by rw[HBP.out.1];exact htB) hsw.c0 (hsw.fin _ hsw.dS) (λh=>hdis _ h hsw.dS) (HA.out.1.ch HC.out HA.out.2) HA.out.2 (allP_64 _) (by rw[allP_len];exact HN.out) (by rw[HBP.out.2];exact hP1))
    rw[h2] at HW2
    by_cases he2:e2=0
    ·have h3:=hw.2.2 (by rw[hw.1];exact he2)
     have HWA:Hid (wrAll f1 t 1 (recs V)=(0,f2,1+n)):=Prod.ext (hw.1.trans he2) (Prod.ext hw.2.1 (by rw[h3,HN.out]))
     subst he2
     clear hw h2 hs2 h3 hsw
     go_wp2_with fail
     refine HW2.out.mono ?_
     rintro e w5 ⟨rfl,h5,c5⟩
     have HR5:=Hh h5
     have HC5:Hid (Ch D w w5):=HC.out.trans c5
     clear h5 c5 HW2 HC HR HBP
     have hs5:=HS.out.ch HC5.out λk h1 h2=>hdis k h2 h1
     have k0:=hs5.c0
     have k3:=hs5.c3
     have HBG:=Hh (rbig_any g2 w5)
     obtain⟨bg,hbg⟩:∃s:ByteArray,s=⟨(be8 g2).toArray⟩:=⟨_,rfl⟩
     have hbgl:bg.data.toList=be8 g2:=by rw[hbg]
     have hbgz:bg.size=8:=by rw[bsz,hbgl,be8_len]
     rw[show str (be8 g2)=.string bg by rw[hbg]] at HBG
     obtain⟨hd,hhd⟩:∃s:ByteArray,s=⟨(hdr g2).toArray⟩:=⟨_,rfl⟩
     have hdl:hd.data.toList=hdr g2:=by rw[hhd]
     have hdz:hd.size=13:=by rw[bsz,hdl,hdr_len]
     have HREC:Hid (∀W,Calls Tryz.prog 97 #[.int .u8 3,.string ⟨#[]⟩,.string bg] W λe w'=>e=.returned (.string hd)/\Below W.heap.size W w'):=λ W=>by
      have:=rrecord_any 3 ⟨#[]⟩ bg W (by omega) (by decide) (by omega)
      rw[hbgl] at this
      rw[hhd]
      exact this
     have HPG:Hid (∀W,Calls Tryz.prog 96 #[.string hd] W λe w'=>∃g cap,e=.returned (.slice (some ⟨g,0,none⟩) 1 cap)/\PS w' g 0 cap (pagesR (hdr g2))/\W.heap.size<=g/\Below W.heap.size W w'):=λ W=>by
      have:=rpages_any hd W (by omega) (by omega)
      rw[hdl,hdz] at this
      exact this
     obtain⟨gen,hgen⟩:∃gen,st.gen=gen:=⟨_,rfl⟩
     have HGEN:=Hh hgen
     have hgI:IntKind.u64.wrap ((gen:Int)+1)=(g2:Int):=by rw[IntKind.wrap_u64];have:=HG2.out;rw[hgen] at this;omega
     rw[hgen] at k3
     clear hbg hbgl hbgz hhd hdl hdz hgen hs5
     go_wp2_with fail
     refine HBG.out.mono ?_
     rintro e w6 ⟨rfl,b6⟩
     have HC6:Hid (Ch D w w6):=HC5.out.trans (Ch.of_below b6 D)
     have HR6:=Hh (HR5.out.below b6)
     clear b6 HC5 HR5 HBG k0 k3
     go_wp2_with fail
     refine(HREC.out w6).mono ?_
     rintro e w7 ⟨rfl,b7⟩
     have HC7:Hid (Ch D w w7):=HC6.out.trans (Ch.of_below b7 D)
     have HR7:=Hh (HR6.out.below b7)
     clear b7 HC6 HR6 HREC
     go_wp2_with fail
     refine(HPG.out w7).mono ?_
     rintro e w8 ⟨gp,cp,rfl,hp8,hg8,b8⟩
     have HC8:Hid (Ch D w w8):=HC7.out.trans (Ch.of_below b8 D)
     have HR8:=Hh (HR7.out.below b8)
     obtain⟨e3,f3,h3⟩:∃e f',wrL f2 t 0 (pagesR (hdr g2))=(e,f'):=⟨_,_,rfl⟩
     have hsz8:=HC7.out.size
     have hs8:=HS.out.ch HC8.out λk h1 h2=>hdis k h2 h1
     have HW8:=Hh (rwrite_any (b:=t) (p:=0) (n:=1) HR8.out (by rw[HBP2.out.1];exact htB) hs8.c0 (hs8.fin _ hs8.dS) (λh=>hdis _ h hs8.dS) hp8 (λh=>by have:=HR7.out.fin _ h;omega) (pagesR_64 _) (by rw[hdr_pages];rfl) (by rw[HBP2.out.2];omega))
     rw[h3] at HW8
     have H3:=Hh h3
     clear b8 HC7 HR7 HPG hp8 hg8 hs8 h3 hsz8
     go_wp2_with fail
     refine HW8.out.mono ?_
     rintro e w9 ⟨rfl,h9,c9⟩
     have HC9:Hid (Ch D w w9):=HC8.out.trans c9
     have HR9:=Hh h9
     clear h9 c9 HC8 HR8 HW8
     by_cases he3:e3=0
     ·subst he3
      have HE:=Hh (cmp6 (st:=st) HSUM.out hfl HT.out HPR.out HWA.out (by rw[HG2.out];exact H3.out))
      have hs9:=HS.out.ch HC9.out λk h1 h2=>hdis k h2 h1
      have HS9:=Hh hs9
      obtain⟨a0,c0,r0,_,_⟩:=hs9.ex
      have q1:=r0.cell (i:=3) (by omega)
      have q2:=r0.cell (i:=2) (by omega)
      have f2':=r0.frozen 2
      have r1:=r0.set (i:=2) (by omega) (.int .i64 t)
      have f3':=r1.frozen 3
      have q3:=r1.cell (i:=3) (by omega)
      have r2:=r1.set (i:=3) (by omega) (.int .u64 g2)
      have q4:=r2.cell (i:=4) (by omega)
      have f4':=r2.frozen 4
      have r3:=r2.set (i:=4) (by omega) (.int .i64 ((1:Int)+(n:Int)))
      have q5:=r3.cell (i:=5) (by omega)
      have f5':=r3.frozen 5
      have r4:=r3.set (i:=5) (by omega) (.bool false)
      have q6:=r4.cell (i:=1) (by omega)
      have f6':=r4.frozen 1
      have r5:=r4.set (i:=1) (by omega) (.slice v L cv)
      have q1':w9.cell? ⟨S,3,none⟩=some (.int .u64 gen):=by rw[q1];simp[rsc,HGEN.out]
      have HR5':=Hh (r5.congr (v':=rsc ⟨V,t,g2,1+n,false⟩ X v cv) λj hj=>by
       rcases(by omega:j=0\/j=1\/j=2\/j=3\/j=4\/j=5) with e|e|e|e|e|e<;>subst e<;>simp[upd,rsc,HL.out])
      have hCh:Ch (λx=>x=S) w9 (((((w9.setCell ⟨S,2,none⟩ (.int .i64 t)).setCell ⟨S,3,none⟩ (.int .u64 g2)).setCell ⟨S,4,none⟩ (.int .i64 ((1:Int)+(n:Int)))).setCell ⟨S,5,none⟩ (.bool false)).setCell ⟨S,1,none⟩ (.slice v L cv)):=
       (((((Ch.refl (λx=>x=S) w9).setCell (p:=⟨S,2,none⟩) (λ_=>rfl) _).setCell (p:=⟨S,3,none⟩) (λ_=>rfl) _).setCell (p:=⟨S,4,none⟩) (λ_=>rfl) _).setCell (p:=⟨S,5,none⟩) (λ_=>rfl) _).setCell (p:=⟨S,1,none⟩) (λ_=>rfl) _
      have HCH:=Hh hCh
      have hw1n:IntKind.i64.wrap ((1:Int)+(n:Int))=1+n:=IntWalk.i64_in _ ⟨by omega,by omega⟩
      clear r0 r1 r2 r3 r4 r5 hCh q1 hs9
      go_wp2_with fail
      go_ret
      rw[HE.out,HG2.out]
      have hvs:=HV.out.1.ch HC9.out (λg e=>(HV.out.2 g e).1)
      have hfr:=HS9.out.fresh (st':=⟨V,t,g2,1+n,false⟩) hvs (λg e=>⟨λe2=>(HV.out.2 g e).2.1 (e2▸HS9.out.dS),Nat.lt_of_lt_of_le (HV.out.2 g e).2.2 HC9.out.size⟩) HR5'.out HCH.out hV HHV.out (by have:=HG2.out;show g2<=_;omega) (by show 1+n<=900;omega) (by show t<=1000;omega) (by show V.length<=1+n+1;have:=recs_len V;have:=HN.out;omega)
      exact⟨rfl,HR9.out.ch HCH.out (λk hk e=>hdis k hk (e▸HS.out.dS)),(HC9.out.mono λ_ h _=>.inl h).andThen HCH.out (λk e _=>by rw[e];exact .inr HS.out.dS),_,λi hi=>hi,hfr⟩
     ·have hed:(e3==0)=false:=by simpa using he3
      have HE:=Hh (cmp5 (st:=st) HSUM.out hfl HT.out HPR.out HWA.out (by rw[HG2.out];exact H3.out) he3)
      go_wp2_with fail
      go_ret
      rw[HE.out]
      exact⟨rfl,RLeft.same rfl HR9.out HC9.out HS.out hdis⟩
    ·have hed:(e2==0)=false:=by simpa using he2
     have HE:=Hh (cmp4 (st:=st) (p':=(wrAll f1 t 1 (recs V)).2.2) HSUM.out hfl HT.out HPR.out (Prod.ext hw.1 (Prod.ext hw.2.1 rfl)) he2)
     clear hw h2 hs2 hsw
     go_wp2_with fail
     refine HW2.out.mono ?_
     rintro e w5 ⟨rfl,h5,c5⟩
     have HR5:=Hh h5
     have HC5:Hid (Ch D w w5):=HC.out.trans c5
     clear h5 c5 HW2 HC
     go_wp2_with fail
     go_ret
     rw[HE.out]
     exact⟨rfl,RLeft.same rfl HR5.out HC5.out HS.out hdis⟩
   ·have hed:(e1==0)=false:=by simpa using he1
    have HE:=Hh (cmp3 (st:=st) HSUM.out hfl HT.out H1.out he1)
    go_wp2_with fail
    go_ret
    rw[HE.out]
    exact⟨rfl,RLeft.same rfl HR3.out HC3.out HS.out hdis⟩
  ·have HPR:Hid (prepF fl (t,true,true)=(0,fl)):=rfl
   have HBP:Hid (fl.B=fl.B/\fl.P=fl.P):=⟨rfl,rfl⟩
   clear k0
   have hw:=wrAll_wrL (recs V) fl t 1
   obtain⟨e2,f2,h2⟩:∃e f',wrL fl t 1 (allP (recs V))=(e,f'):=⟨_,_,rfl⟩
   rw[h2] at hw
   have hs2:=wrL_same (allP (recs V)) fl t 1
   rw[h2] at hs2
   have HBP2:Hid (f2.B=fl.B/\f2.P=fl.P):=⟨hs2.1.trans HBP.out.1,hs2.2.trans HBP.out.2⟩
   have hsw:=HS.out.ch HC.out λk h1 h2=>hdis k h2 h1
   have HW2:=Hh (rwrite_opt (b:=t) (p:=1) (n:=n) HR.out (by rw[HBP.out.1];exact htB) hsw.c0 (hsw.fin _ hsw.dS) (λh=>hdis _ h hsw.dS) (HA.out.1.ch HC.out HA.out.2) HA.out.2 (allP_64 _) (by rw[allP_len];exact HN.out) (by rw[HBP.out.2];exact hP1))
   rw[h2] at HW2
   by_cases he2:e2=0
   ·have h3:=hw.2.2 (by rw[hw.1];exact he2)
    have HWA:Hid (wrAll fl t 1 (recs V)=(0,f2,1+n)):=Prod.ext (hw.1.trans he2) (Prod.ext hw.2.1 (by rw[h3,HN.out]))
    subst he2
    clear hw h2 hs2 h3 hsw
    go_wp2_with fail
    refine HW2.out.mono ?_
    rintro e w5 ⟨rfl,h5,c5⟩
    have HR5:=Hh h5
    have HC5:Hid (Ch D w w5):=HC.out.trans c5
    clear h5 c5 HW2 HC HR HBP
    have hs5:=HS.out.ch HC5.out λk h1 h2=>hdis k h2 h1
    have k0:=hs5.c0
    have k3:=hs5.c3
    have HBG:=Hh (rbig_any g2 w5)
    obtain⟨bg,hbg⟩:∃s:ByteArray,s=⟨(be8 g2).toArray⟩:=⟨_,rfl⟩
    have hbgl:bg.data.toList=be8 g2:=by rw[hbg]
    have hbgz:bg.size=8:=by rw[bsz,hbgl,be8_len]
    rw[show str (be8 g2)=.string bg by rw[hbg]] at HBG
    obtain⟨hd,hhd⟩:∃s:ByteArray,s=⟨(hdr g2).toArray⟩:=⟨_,rfl⟩
    have hdl:hd.data.toList=hdr g2:=by rw[hhd]
    have hdz:hd.size=13:=by rw[bsz,hdl,hdr_len]
    have HREC:Hid (∀W,Calls Tryz.prog 97 #[.int .u8 3,.string ⟨#[]⟩,.string bg] W λe w'=>e=.returned (.string hd)/\Below W.heap.size W w'):=λ W=>by
     have:=rrecord_any 3 ⟨#[]⟩ bg W (by omega) (by decide) (by omega)
     rw[hbgl] at this
     rw[hhd]
     exact this
    have HPG:Hid (∀W,Calls Tryz.prog 96 #[.string hd] W λe w'=>∃g cap,e=.returned (.slice (some ⟨g,0,none⟩) 1 cap)/\PS w' g 0 cap (pagesR (hdr g2))/\W.heap.size<=g/\Below W.heap.size W w'):=λ W=>by
     have:=rpages_any hd W (by omega) (by omega)
     rw[hdl,hdz] at this
     exact this
    obtain⟨gen,hgen⟩:∃gen,st.gen=gen:=⟨_,rfl⟩
    have HGEN:=Hh hgen
    have hgI:IntKind.u64.wrap ((gen:Int)+1)=(g2:Int):=by rw[IntKind.wrap_u64];have:=HG2.out;rw[hgen] at this;omega
    rw[hgen] at k3
    clear hbg hbgl hbgz hhd hdl hdz hgen hs5
    go_wp2_with fail
    refine HBG.out.mono ?_
    rintro e w6 ⟨rfl,b6⟩
    have HC6:Hid (Ch D w w6):=HC5.out.trans (Ch.of_below b6 D)
    have HR6:=Hh (HR5.out.below b6)
    clear b6 HC5 HR5 HBG k0 k3
    go_wp2_with fail
    refine(HREC.out w6).mono ?_
    rintro e w7 ⟨rfl,b7⟩
    have HC7:Hid (Ch D w w7):=HC6.out.trans (Ch.of_below b7 D)
    have HR7:=Hh (HR6.out.below b7)
    clear b7 HC6 HR6 HREC
    go_wp2_with fail
    refine(HPG.out w7).mono ?_
    rintro e w8 ⟨gp,cp,rfl,hp8,hg8,b8⟩
    have HC8:Hid (Ch D w w8):=HC7.out.trans (Ch.of_below b8 D)
    have HR8:=Hh (HR7.out.below b8)
    obtain⟨e3,f3,h3⟩:∃e f',wrL f2 t 0 (pagesR (hdr g2))=(e,f'):=⟨_,_,rfl⟩
    have hsz8:=HC7.out.size
    have hs8:=HS.out.ch HC8.out λk h1 h2=>hdis k h2 h1
    have HW8:=Hh (rwrite_any (b:=t) (p:=0) (n:=1) HR8.out (by rw[HBP2.out.1];exact htB) hs8.c0 (hs8.fin _ hs8.dS) (λh=>hdis _ h hs8.dS) hp8 (λh=>by have:=HR7.out.fin _ h;omega) (pagesR_64 _) (by rw[hdr_pages];rfl) (by rw[HBP2.out.2];omega))
    rw[h3] at HW8
    have H3:=Hh h3
    clear b8 HC7 HR7 HPG hp8 hg8 hs8 h3 hsz8
    go_wp2_with fail
    refine HW8.out.mono ?_
    rintro e w9 ⟨rfl,h9,c9⟩
    have HC9:Hid (Ch D w w9):=HC8.out.trans c9
    have HR9:=Hh h9
    clear h9 c9 HC8 HR8 HW8
    by_cases he3:e3=0
    ·subst he3
     have HE:=Hh (cmp6 (st:=st) HSUM.out hfl HT.out HPR.out HWA.out (by rw[HG2.out];exact H3.out))
     have hs9:=HS.out.ch HC9.out λk h1 h2=>hdis k h2 h1
     have HS9:=Hh hs9
     obtain⟨a0,c0,r0,_,_⟩:=hs9.ex
     have q1:=r0.cell (i:=3) (by omega)
     have q2:=r0.cell (i:=2) (by omega)
     have f2':=r0.frozen 2
     have r1:=r0.set (i:=2) (by omega) (.int .i64 t)
     have f3':=r1.frozen 3
     have q3:=r1.cell (i:=3) (by omega)
     have r2:=r1.set (i:=3) (by omega) (.int .u64 g2)
     have q4:=r2.cell (i:=4) (by omega)
     have f4':=r2.frozen 4
     have r3:=r2.set (i:=4) (by omega) (.int .i64 ((1:Int)+(n:Int)))
     have q5:=r3.cell (i:=5) (by omega)
     have f5':=r3.frozen 5
     have r4:=r3.set (i:=5) (by omega) (.bool false)
     have q6:=r4.cell (i:=1) (by omega)
     have f6':=r4.frozen 1
     have r5:=r4.set (i:=1) (by omega) (.slice v L cv)
     have q1':w9.cell? ⟨S,3,none⟩=some (.int .u64 gen):=by rw[q1];simp[rsc,HGEN.out]
     have HR5':=Hh (r5.congr (v':=rsc ⟨V,t,g2,1+n,false⟩ X v cv) λj hj=>by
      rcases(by omega:j=0\/j=1\/j=2\/j=3\/j=4\/j=5) with e|e|e|e|e|e<;>subst e<;>simp[upd,rsc,HL.out])
     have hCh:Ch (λx=>x=S) w9 (((((w9.setCell ⟨S,2,none⟩ (.int .i64 t)).setCell ⟨S,3,none⟩ (.int .u64 g2)).setCell ⟨S,4,none⟩ (.int .i64 ((1:Int)+(n:Int)))).setCell ⟨S,5,none⟩ (.bool false)).setCell ⟨S,1,none⟩ (.slice v L cv)):=
      (((((Ch.refl (λx=>x=S) w9).setCell (p:=⟨S,2,none⟩) (λ_=>rfl) _).setCell (p:=⟨S,3,none⟩) (λ_=>rfl) _).setCell (p:=⟨S,4,none⟩) (λ_=>rfl) _).setCell (p:=⟨S,5,none⟩) (λ_=>rfl) _).setCell (p:=⟨S,1,none⟩) (λ_=>rfl) _
     have HCH:=Hh hCh
     have hw1n:IntKind.i64.wrap ((1:Int)+(n:Int))=1+n:=IntWalk.i64_in _ ⟨by omega,by omega⟩
     clear r0 r1 r2 r3 r4 r5 hCh q1 hs9
     go_wp2_with fail
     go_ret
     rw[HE.out,HG2.out]
     have hvs:=HV.out.1.ch HC9.out (λg e=>(HV.out.2 g e).1)
     have hfr:=HS9.out.fresh (st':=⟨V,t,g2,1+n,false⟩) hvs (λg e=>⟨λe2=>(HV.out.2 g e).2.1 (e2▸HS9.out.dS),Nat.lt_of_lt_of_le (HV.out.2 g e).2.2 HC9.out.size⟩) HR5'.out HCH.out hV HHV.out (by have:=HG2.out;show g2<=_;omega) (by show 1+n<=900;omega) (by show t<=1000;omega) (by show V.length<=1+n+1;have:=recs_len V;have:=HN.out;omega)
     exact⟨rfl,HR9.out.ch HCH.out (λk hk e=>hdis k hk (e▸HS.out.dS)),(HC9.out.mono λ_ h _=>.inl h).andThen HCH.out (λk e _=>by rw[e];exact .inr HS.out.dS),_,λi hi=>hi,hfr⟩
    ·have hed:(e3==0)=false:=by simpa using he3
     have HE:=Hh (cmp5 (st:=st) HSUM.out hfl HT.out HPR.out HWA.out (by rw[HG2.out];exact H3.out) he3)
     go_wp2_with fail
     go_ret
     rw[HE.out]
     exact⟨rfl,RLeft.same rfl HR9.out HC9.out HS.out hdis⟩
   ·have hed:(e2==0)=false:=by simpa using he2
    have HE:=Hh (cmp4 (st:=st) (p':=(wrAll fl t 1 (recs V)).2.2) HSUM.out hfl HT.out HPR.out (Prod.ext hw.1 (Prod.ext hw.2.1 rfl)) he2)
    clear hw h2 hs2 hsw
    go_wp2_with fail
    refine HW2.out.mono ?_
    rintro e w5 ⟨rfl,h5,c5⟩
    have HR5:=Hh h5
    have HC5:Hid (Ch D w w5):=HC.out.trans c5
    clear h5 c5 HW2 HC
    go_wp2_with fail
    go_ret
    rw[HE.out]
    exact⟨rfl,RLeft.same rfl HR5.out HC5.out HS.out hdis⟩
end
end
section
theorem setV_len (V:Vars)(k v:Str):(setV V k v).length<=V.length+1:=by
 induction V with
 | nil=>simp[setV]
 | cons p r ih=>
  unfold setV
  split
  ·simp
  ·split
   ·simp
   ·simp only[List.length_cons];omega
theorem chgV_len (V:Vars)(k:Nat)(n v:Str):(chgV V k n v).length<=V.length+1:=by
 unfold chgV
 split
 ·exact setV_len V n v
 ·have:=delV_len V n;omega
theorem news_ps {w:World}{g cap:Nat}{ps:List Str}(h:PS w g 0 cap ps):∀j u,(ps.map str)[j]? = some u->w.cell? ((⟨g,0,none⟩:Addr).add j)=some u:=λj u hu=>by
 have hj:j<ps.length:=by
  rcases Nat.lt_or_ge j ps.length with h1|h1
  ·exact h1
  ·rw[List.getElem?_eq_none (by rw[List.length_map];exact h1)] at hu;cases hu
 have hadd:(⟨g,0,none⟩:Addr).add j=⟨g,j,none⟩:=by unfold Addr.add;split<;>simp_all
 have hc:=h.2.2.2 j hj
 rw[Nat.zero_add,List.getD_eq_getElem?_getD,List.getElem?_eq_getElem hj] at hc
 rw[List.getElem?_map,List.getElem?_eq_getElem hj] at hu
 rw[hadd,hc]
 exact hu
theorem OB.al {w wr:World}{t n:Nat}{v:Value}{ps:List Str}(h:OB w wr t 1 v n (ps.map str)):∃a cap,v=.slice a n cap/\AL wr a cap ps/\∀g,a=some ⟨g,0,none⟩->w.heap.size<=g/\g<wr.heap.size:=by
 have hl:ps.length=n:=by have:=h.row.1;simpa using this
 by_cases hn:0<n
 ·obtain⟨g,cap,rfl,h1,h2,h3,h4⟩:=h.ps hn
  refine⟨_,cap,rfl,.inr ⟨g,rfl,h4.lt,by omega,h3,λj hj=>?_⟩,λg' e=>?_⟩
  ·rw[Nat.zero_add];exact h4.cell (by omega)
  ·injection e with e;injection e with e;subst e;exact⟨h1,h4.lt⟩
 ·have hps:ps=[]:=List.length_eq_zero_iff.1 (by omega)
  subst hps
  have hn0:n=0:=by omega
  subst hn0
  rcases h.row.2 with ⟨rfl,_⟩|⟨g,cap,cur,rfl,_,hh,hn1,hm1,_⟩
  ·exact⟨none,0,rfl,.inl ⟨rfl,rfl,rfl⟩,λg e=>by cases e⟩
  ·refine⟨_,cap,rfl,.inr ⟨g,rfl,heap_lt hh,hn1,hm1,λj hj=>by cases hj⟩,λg' e=>?_⟩
   injection e with e;injection e with e;subst e
   exact⟨h.new g rfl,heap_lt hh⟩
theorem recs_take {V:Vars}{i:Nat}(h:i<V.length):recs (V.take (i+1))=recs (V.take i)++[recd 1 (V.getD i ([],[])).1 (V.getD i ([],[])).2]:=by
 unfold recs
 rw[List.take_succ_eq_append_getElem h,List.map_append,List.getD_eq_getElem?_getD,List.getElem?_eq_getElem h]
 rfl
theorem allP_snoc (l:List Str)(r:Str):allP (l++[r])=allP l++pagesR r:=by simp[allP]
section
variable {w:World}{D DS:Nat->Prop}{S X:Nat}{st:ST}{y:RLay}{fl:FL}
theorem rchange_any {k:Nat}{nm vl:Str}{rec:ByteArray}{a:Option Addr}{cv L:Nat}{V:Vars}(hs:RS w DS S X st)(h:RW w D X y fl)(hdis:∀k,D k->¬DS k)(hb:st.blk<fl.B)(hrec:rec.data.toList=recd k nm vl)(hnl:nm.length<=24/\vl.length<=128)
  (hv:VS w a cv V) (hVe:chgV st.V k nm vl=V) (hvD:∀g,a=some ⟨g,0,none⟩->¬D g/\¬DS g/\g<w.heap.size) (hL:V.length=L) :
  Calls Tryz.prog 110 #[fptr S,.string rec,.slice a L cv] w λe w'=>e=.returned (.int .i64 (chgF fl st k nm vl).1)/\RLeft w w' D DS (λi=>a=some ⟨i,0,none⟩) S X y (chgF fl st k nm vl):=by
 obtain⟨iS,hiS,hxS0,hxS1,hxS2⟩:=info_parts Tryz.infoS
 have hV:Srt V:=by rw[<-hVe];exact chgV_srt hs.srt k nm vl
 have hhv:∀p∈V,p.1.length<=24/\p.2.length<=128:=by rw[<-hVe];exact chgV_hv hs.hv hnl.1 hnl.2
 have hLn:L<=st.nxt+2:=by rw[<-hL,<-hVe];have:=chgV_len st.V k nm vl;have:=hs.vl;omega
 have hnx:=hs.hn
 have hL1:L<=902:=by omega
 have hvc:L<=cv/\cv<=maxLen:=by have:=hv.1;have:=hv.2.1;omega
 have HS:=Hh hs
 have H:=Hh h
 have HV:=Hh (And.intro hv hvD)
 have HHV:=Hh hhv
 have HVS:=Hh hV
 have HL:=Hh hL
 have HVE:=Hh hVe
 have hP:=h.hP
 have c0:=hs.c0
 have c5:=h.c5
 obtain⟨np,hnp⟩:∃np,pgs (recd k nm vl).length=np:=⟨_,rfl⟩
 have hrz:rec.size=(recd k nm vl).length:=by rw[<-hrec];rfl
 have hnp1:1<=np/\np<=3:=by rw[<-hnp,recd_len];unfold pgs;omega
 have HNP:=Hh hnp
 have HREC:=Hh hrec
 have hrzz:1<=rec.size/\rec.size<=1000:=by rw[hrz,recd_len];omega
 have HPG:=Hh (rpages_any rec w hrzz.1 hrzz.2)
 rw[hrz,hnp,hrec] at HPG
 clear h hs hv hvD hhv hVe hnp hrec hrz hL hV
 cases ho:fl.off
 ·rw[ho] at c5
  go_enter Tryz.func110,Tryz.ntmps110
  go_wp2_with fail
  refine HPG.out.mono ?_
  rintro e w1 ⟨gp,cp,rfl,hp1,hg1,b1⟩
  have HR1:=Hh (H.out.below b1)
  have HC1:Hid (Ch D w w1):=Ch.of_below b1 D
  have HPS1:=Hh (And.intro hp1 hg1)
  have hcp:np<=cp/\cp<=maxLen:=by have h1:=hp1.2.1;have h2:=hp1.2.2.1;rw[pagesR_len,HNP.out] at h1;exact⟨h1,h2⟩
  clear hp1 hg1 b1 HPG c0 c5
  have hs1:=(HS.out.ch HC1.out λk h1 h2=>hdis k h2 h1)
  obtain⟨clo,hclo⟩:∃clo,st.clo=clo:=⟨_,rfl⟩
  obtain⟨nxt,hnxt⟩:∃nxt,st.nxt=nxt:=⟨_,rfl⟩
  obtain⟨blk,hblk⟩:∃blk,st.blk=blk:=⟨_,rfl⟩
  have S1:Hid (w1.drew.cell? ⟨S,0,none⟩=some (fptr X)/\w1.drew.cell? ⟨S,4,none⟩=some (.int .i64 nxt)/\w1.drew.cell? ⟨S,5,none⟩=some (.bool clo)/\w1.drew.cell? ⟨X,1,none⟩=some (.int .i64 fl.P)):=⟨hs1.c0,by rw[<-hnxt];exact hs1.c4,by rw[<-hclo];exact hs1.c5,HR1.out.c1⟩
  have S2:Hid (w1.drew.drew.cell? ⟨S,0,none⟩=some (fptr X)/\w1.drew.drew.cell? ⟨S,4,none⟩=some (.int .i64 nxt)/\w1.drew.drew.cell? ⟨S,2,none⟩=some (.int .i64 blk)):=⟨hs1.c0,by rw[<-hnxt];exact hs1.c4,by rw[<-hblk];exact hs1.c2⟩
  have hnp63:IntKind.i64.wrap ((nxt:Int)+(np:Int))=(nxt:Int)+(np:Int):=IntWalk.i64_in _ ⟨by omega,by omega⟩
  have HEQ:Hid (st.clo=clo/\st.nxt=nxt/\st.blk=blk):=⟨hclo,hnxt,hblk⟩
  rw[hnxt] at hnx hLn
  have hblB:blk<fl.B:=by rw[<-hblk];exact hb
  clear hclo hnxt hblk hs1
  by_cases hcl:clo=false/\nxt+np<=fl.P
  ·obtain⟨hc0,hle⟩:=hcl
   subst hc0
   have hleI:(nxt:Int)+(np:Int)<=(fl.P:Int):=by omega
   obtain⟨e2,f2,h2⟩:∃e f',wrL fl blk nxt (pagesR (recd k nm vl))=(e,f'):=⟨_,_,rfl⟩
   have hsl:S<w1.drew.drew.heap.size:=Nat.lt_of_lt_of_le (HS.out.fin _ HS.out.dS) (HC1.out.drew.drew).size
   have HWR:=Hh (rwrite_any (HR1.out.drew.drew) (b:=blk) (p:=nxt) (n:=np) hblB S2.out.1 hsl (λh=>hdis _ h HS.out.dS) (HPS1.out.1.below ((Below.refl _ _).drew.drew)) (λh=>by have:=H.out.fin _ h;have:=HPS1.out.2;omega) (pagesR_64 _) (by rw[pagesR_len];exact HNP.out) hle)
   rw[h2] at HWR
   have H2:=Hh h2
   have hcond:¬(st.clo=true\/fl.P<st.nxt+pgs (recd k nm vl).length):=by
    rw[HEQ.out.1,HEQ.out.2.1,HNP.out];rintro (h|h)
    ·cases h
    ·omega
   have HCOND:=Hh hcond
   have HO:=Hh ho
   clear h2 hsl hcond ho
   have hd4:=S1.out
   obtain⟨d40,d41,d42,d43⟩:=hd4
   go_wp2_with fail
   refine wp_region_pl (λ Y=>Y=w1.drew) ((0,0)::(1,0)::(2,0)::(3,0)::(4,0)::(5,0)::(6,0)::(7,0)::(8,0)::(9,0)::(10,0)::(11,0)::(12,0)::(13,0)::(14,0)::(15,0)::(16,0)::(17,0)::(18,0)::(19,0)::(20,0)::(21,0)::(22,0)::[]) (by kernel_rfl) (by kernel_rfl) ?_
   iterate 23 (apply wpP_go;rfl;rfl;exact rfl;(rintro Z rfl;go_simp;exact rfl);intro K hK;go_simp;refine hK _ ?_;clear hK K)
   refine wpP_done ?_
   clear d40 d41 d42 d43 S1
   go_wp2_with fail
   refine wp_region_pl (λ Y=>Y.cell? ⟨S,0,none⟩=some (fptr X)/\Y.cell? ⟨S,4,none⟩=some (.int .i64 nxt)/\Y.cell? ⟨S,2,none⟩=some (.int .i64 blk)) ((0,0)::(1,0)::(2,0)::(3,0)::(4,0)::(5,0)::(6,0)::(7,0)::(8,0)::(9,0)::(10,1)::(11,2)::[]) (by kernel_rfl) (by kernel_rfl) ?_
   iterate 10 (apply wpP_go;rfl;rfl;exact S2.out;(rintro Z ⟨s0,s1,s2⟩;go_simp;exact rfl);intro K hK;go_simp;refine hK _ ?_;clear hK K)
   apply wpP_one
   rfl
   intro K hK
   go_simp
   refine HWR.out.mono ?_
   rintro e w2 ⟨rfl,h5,c5⟩
   have HR2:=Hh h5
   have HC2:Hid (Ch D w w2):=HC1.out.drew.drew.trans c5
   have hsd:¬D S:=λh=>hdis _ h HS.out.dS
   have hsl:S<w1.drew.drew.heap.size:=Nat.lt_of_lt_of_le (HS.out.fin _ HS.out.dS) (HC1.out.drew.drew).size
   refine hK _ _ ⟨(c5.cell (p:=⟨S,0,none⟩) hsl hsd).trans S2.out.1,(c5.cell (p:=⟨S,4,none⟩) hsl hsd).trans S2.out.2.1,(c5.cell (p:=⟨S,2,none⟩) hsl hsd).trans S2.out.2.2⟩ ?_
   clear hK K h5 c5 HWR HC1 HR1 S2 hsl hsd
   apply wpP_two
   rfl
   intro K hK
   go_simp
   refine hK _ _ ?_
   clear hK K
   refine wpP_done ?_
   by_cases he2:e2=0
   ·subst he2
    have HE:=Hh (chg4 (st:=st) (k:=k) (nm:=nm) (v:=vl) HO.out HCOND.out (by rw[HEQ.out.2.2,HEQ.out.2.1];exact H2.out))
    have hs9:=HS.out.ch HC2.out λk h1 h2=>hdis k h2 h1
    have HS9:=Hh hs9
    obtain⟨a0,c0,r0,_,_⟩:=hs9.ex
    have q1:=r0.cell (i:=4) (by omega)
    have q1':w2.cell? ⟨S,4,none⟩=some (.int .i64 nxt):=by rw[q1];simp[rsc,HEQ.out.2.1]
    have f1':=r0.frozen 4
    have r1:=r0.set (i:=4) (by omega) (.int .i64 ((nxt:Int)+(np:Int)))
    have q2:=r1.cell (i:=1) (by omega)
    have f2':=r1.frozen 1
    have r2:=r1.set (i:=1) (by omega) (.slice a L cv)
    have HR5':=Hh (r2.congr (v':=rsc ⟨V,st.blk,st.gen,st.nxt+np,st.clo⟩ X a cv) λj hj=>by
     rcases(by omega:j=0\/j=1\/j=2\/j=3\/j=4\/j=5) with e|e|e|e|e|e<;>subst e<;>simp[upd,rsc,HL.out,HEQ.out.2.1])
    have hCh:Ch (λx=>x=S) w2 ((w2.setCell ⟨S,4,none⟩ (.int .i64 ((nxt:Int)+(np:Int)))).setCell ⟨S,1,none⟩ (.slice a L cv)):=
     ((Ch.refl (λx=>x=S) w2).setCell (p:=⟨S,4,none⟩) (λ_=>rfl) _).setCell (p:=⟨S,1,none⟩) (λ_=>rfl) _
    have HCH:=Hh hCh
    clear r0 r1 r2 hCh q1 hs9
    go_wp2_with fail
    go_ret
    rw[HE.out,HNP.out,HVE.out]
    have hvs:=HV.out.1.ch HC2.out (λg e=>(HV.out.2 g e).1)
    have hfr:=HS9.out.fresh (st':=⟨V,st.blk,st.gen,st.nxt+np,st.clo⟩) hvs (λg e=>⟨λe2=>(HV.out.2 g e).2.1 (e2▸HS9.out.dS),Nat.lt_of_lt_of_le (HV.out.2 g e).2.2 HC2.out.size⟩) HR5'.out HCH.out HVS.out HHV.out HS9.out.hg (by show st.nxt+np<=900;rw[HEQ.out.2.1];omega) HS9.out.hb (by show V.length<=st.nxt+np+1;rw[HL.out,HEQ.out.2.1];omega)
    exact⟨rfl,HR2.out.ch HCH.out (λk hk e=>hdis k hk (e▸HS.out.dS)),(HC2.out.mono λ_ h _=>.inl h).andThen HCH.out (λk e _=>by rw[e];exact .inr HS.out.dS),_,λi hi=>hi,hfr⟩
   ·have hed:(e2==0)=false:=by simpa using he2
    have HE:=Hh (chg3 (st:=st) (k:=k) (nm:=nm) (v:=vl) HO.out HCOND.out (by rw[HEQ.out.2.2,HEQ.out.2.1];exact H2.out) he2)
    go_wp2_with fail
    go_ret
    rw[HE.out]
    exact⟨rfl,RLeft.same rfl HR2.out HC2.out HS.out hdis⟩
  ·have hcond:st.clo=true\/fl.P<st.nxt+pgs (recd k nm vl).length:=by
    rw[HEQ.out.1,HEQ.out.2.1,HNP.out]
    cases clo
    ·exact .inr (Nat.lt_of_not_le λh=>hcl ⟨rfl,h⟩)
    ·exact .inl rfl
   have HCOND:=Hh hcond
   have HO:=Hh ho
   clear hcond ho
   have hd4:=S1.out
   obtain⟨d40,d41,d42,d43⟩:=hd4
   cases clo
   focus
    have hle:¬nxt+np<=fl.P:=λh=>hcl ⟨rfl,h⟩
    have hleI:¬(nxt:Int)+(np:Int)<=(fl.P:Int):=by omega
    clear hcl
    go_wp2_with fail
    refine wp_region_pl (λ Y=>Y=w1.drew) ((0,0)::(1,0)::(2,0)::(3,0)::(4,0)::(5,0)::(6,0)::(7,0)::(8,0)::(9,0)::(10,0)::(11,0)::(12,0)::(13,0)::(14,0)::(15,0)::(16,0)::(17,0)::(18,0)::(19,0)::(20,0)::(21,0)::(22,0)::[]) (by kernel_rfl) (by kernel_rfl) ?_
    iterate 23 (apply wpP_go;rfl;rfl;exact rfl;(rintro Z rfl;go_simp;exact rfl);intro K hK;go_simp;refine hK _ ?_;clear hK K)
   rotate_left
   focus
    clear hcl
    go_wp2_with fail
    refine wp_region_pl (λ Y=>Y=w1.drew) ((0,0)::(1,0)::(2,0)::(3,0)::(4,0)::(5,0)::(6,0)::(7,0)::(8,0)::(9,0)::(10,0)::(11,0)::(12,0)::(13,0)::(14,0)::(15,0)::(16,0)::(17,0)::(18,0)::(19,0)::(20,0)::(21,0)::(22,0)::[]) (by kernel_rfl) (by kernel_rfl) ?_
    iterate 6 (apply wpP_go;rfl;rfl;exact rfl;(rintro Z rfl;go_simp;exact rfl);intro K hK;go_simp;refine hK _ ?_;clear hK K)
    iterate 16 (apply wpP_not;rfl;rfl;exact rfl;intro K hK;go_simp;refine hK _ ?_;clear hK K)
    iterate 1 (apply wpP_go;rfl;rfl;exact rfl;(rintro Z rfl;go_simp;exact rfl);intro K hK;go_simp;refine hK _ ?_;clear hK K)
   all_goals
    refine wpP_done ?_
    clear d40 d41 d42 d43 S1 S2
    have HW:Hid (Ch D w w1.drew):=HC1.out.drew
    have HRW:=Hh (HR1.out.drew)
    have HVW:Hid (VS w1.drew a cv V):=HV.out.1.ch HW.out (λg e=>(HV.out.2 g e).1)
    have hszW:=HW.out.size
    clear HC1 HR1 HPS1 hcp
    generalize w1.drew=W at *
    have HO0:Hid (OB W W 9 1 (.slice none 0 0) 0 ((allP (recs (V.take 0))).map str)):=OB.nil (Below.refl _ _)
    go_wp2_with fail
    go_loopw [9,10] (λx z wr=>∃(i n:Nat) (v:Value),i<=L/\v=x/\z=.int .i64 (i:Int)/\Hid (sumP (recs (V.take i))=n/\n<=3*i)/\Hid (OB W wr 9 1 v n ((allP (recs (V.take i))).map str))) (λ_ z _=>L-(intOf z).toNat)
    case atStart=>exact⟨0,0,_,by omega,rfl,rfl,⟨by simp[recs,sumP],by omega⟩,HO0⟩
    case round=>
     clear HO0
     obtain⟨i,n,v,hi,hvx,rfl,HN,HOB⟩:=hrel
     subst hvx
     have hn3:=HN.out.2
     by_cases hlt:i<L
     ·have y0:(i:Int)<L:=by omega
      have hiV:i<V.length:=by rw[HL.out];exact hlt
      obtain⟨gw,hgw,hgl,hcell⟩:=(HVW.out.below HOB.out.bel).2.2 (by intro e;rw[e] at hiV;cases hiV)
      obtain⟨d0,d1⟩:=hcell i hiV
      have hhp:=HHV.out (V.getD i ([],[])) (by rw[List.getD_eq_getElem?_getD,List.getElem?_eq_getElem hiV];exact List.getElem_mem hiV)
      have hrt:=recs_take hiV
      obtain⟨pk,hpk⟩:∃p,V.getD i ([],[])=p:=⟨_,rfl⟩
      rw[hpk] at d0 d1 hhp hrt
      obtain⟨ke,hke⟩:∃s:ByteArray,str pk.1=.string s:=⟨_,rfl⟩
      obtain⟨kv,hkv⟩:∃s:ByteArray,str pk.2=.string s:=⟨_,rfl⟩
      have hkel:ke.data.toList=pk.1:=by injection hke with hke;rw[<-hke]
      have hkvl:kv.data.toList=pk.2:=by injection hkv with hkv;rw[<-hkv]
      rw[hke] at d0
      rw[hkv] at d1
      subst hgw
      have hkes:ke.size<=24:=by rw[bsz,hkel];exact hhp.1
      have hkvs:kv.size<=128:=by rw[bsz,hkvl];exact hhp.2
      obtain⟨rb,hrb⟩:∃s:ByteArray,s=⟨(recd 1 ke.data.toList kv.data.toList).toArray⟩:=⟨_,rfl⟩
      have hrbl:rb.data.toList=recd 1 pk.1 pk.2:=by rw[hrb,hkel,hkvl]
      have hrbz:rb.size=5+ke.size+kv.size:=by rw[bsz,hrbl,recd_len,bsz,bsz,hkel,hkvl]
      obtain⟨m,hm⟩:∃m,pgs rb.size=m:=⟨_,rfl⟩
      have hm3:1<=m/\m<=3:=by rw[<-hm,hrbz];unfold pgs;omega
      have HREC2:Hid (∀Z,Calls Tryz.prog 97 #[.int .u8 1,.string ke,.string kv] Z λe w'=>e=.returned (.string rb)/\Below Z.heap.size Z w'):=λ Z=>by
       rw[hrb]
       exact rrecord_any 1 ke kv Z (by omega) (by omega) (by omega)
      have HPG2:Hid (∀Z,Calls Tryz.prog 96 #[.string rb] Z λe w'=>∃g cap,e=.returned (.slice (some ⟨g,0,none⟩) m cap)/\PS w' g 0 cap (pagesR (recd 1 pk.1 pk.2))/\Z.heap.size<=g/\Below Z.heap.size Z w'):=λ Z=>by
       have:=rpages_any rb Z (by omega) (by omega)
       rw[hm,hrbl] at this
       exact this
      have hml:(pagesR (recd 1 pk.1 pk.2)).length=m:=by rw[pagesR_len,<-hrbl,<-hm];rfl
      have HM:=Hh hml
      have HN2:Hid (sumP (recs (V.take (i+1)))=n+m):=by
       show _=_
       rw[hrt,sumP_append,HN.out.1]
       show n+(pgs (recd 1 pk.1 pk.2).length+0)=n+m
       rw[<-pagesR_len,hml,Nat.add_zero]
      have HT:Hid ((allP (recs (V.take (i+1)))).map str=(allP (recs (V.take i))).map str++(pagesR (recd 1 pk.1 pk.2)).map str):=by
       show _=_
       rw[hrt,allP_snoc,List.map_append]
      obtain⟨i2,hi2⟩:∃j,2*i=j:=⟨_,rfl⟩
      have SR:Hid (wr.drew.cell? ⟨gw,i*2,none⟩=some (.string ke)/\wr.drew.cell? ⟨gw,i*2+1,none⟩=some (.string kv)):=⟨d0,d1⟩
      have HBD:Hid (Below W.heap.size W wr.drew):=HOB.out.bel.drew
      have HOBD:=Hh (HOB.out.below ((Below.refl _ wr).drew))
      clear hpk hke hkv hkel hkvl hcell hhp hrt hrb hrbl hrbz hm hml d0 d1 hkes hkvs hi2
      go_wp2_with fail
      refine wp_region_pl (λ Y=>Y.cell? ⟨gw,i*2,none⟩=some (.string ke)/\Y.cell? ⟨gw,i*2+1,none⟩=some (.string kv)) ((0,0)::(1,0)::(2,0)::(3,0)::(4,0)::(5,0)::(6,0)::(7,0)::(8,0)::(9,0)::(10,0)::(11,1)::(12,1)::(13,1)::(14,2)::[]) (by kernel_rfl) (by kernel_rfl) ?_
      iterate 11 (apply wpP_go;rfl;rfl;exact SR.out;(rintro Z ⟨s0,s1⟩;go_simp;exact rfl);intro K hK;go_simp;refine hK _ ?_;clear hK K)
      apply wpP_one
      rfl
      intro K hK
      go_simp
      refine(HREC2.out _).mono ?_
      rintro e V1 ⟨rfl,b1⟩
      have SR1:Hid (V1.cell? ⟨gw,i*2,none⟩=some (.string ke)/\V1.cell? ⟨gw,i*2+1,none⟩=some (.string kv)):=⟨cell_later b1 SR.out.1,cell_later b1 SR.out.2⟩
      have HOB1:=Hh (HOBD.out.below b1)
      refine hK _ _ SR1.out ?_
      clear hK K b1 SR HOBD HREC2
      apply wpP_one
      rfl
      intro K hK
      go_simp
      refine(HPG2.out _).mono ?_
      rintro e V2 ⟨g2,c2,rfl,hp2,hg2,b2⟩
      have SR2:Hid (V2.cell? ⟨gw,i*2,none⟩=some (.string ke)/\V2.cell? ⟨gw,i*2+1,none⟩=some (.string kv)):=⟨cell_later b2 SR1.out.1,cell_later b2 SR1.out.2⟩
      have HOB2:=Hh (HOB1.out.below b2)
      have HP2:=Hh hp2
      refine hK _ _ SR2.out ?_
      clear hK K b2 SR1 HOB1 HPG2 hp2 hg2
      apply wpP_one
      rfl
      intro K hK
      refine step_append_lies V2 rfl _ _ 37 rfl 0 9 iS _ 1 16 Tryz.underlying37 hiS hxS0 hxS1 hxS2 rfl (by omega) v n ((allP (recs (V.take i))).map str) rfl (by exact HOB2.out.row) ⟨g2,0,none⟩ m c2 ((pagesR (recd 1 pk.1 pk.2)).map str) rfl (by rw[List.length_map,HM.out,Nat.mul_one]) (by exact news_ps HP2.out) (one_str _) (by omega) (by simp only[maxLen];omega) (by omega) (Nat.zero_le _) V2.heap.size rfl ?_
      intro g1 cap1 w6 ho hg hat hbel
      have hO2:=HOB2.out.take (m:=m) HOB2.out.bel (by simpa using ho) hg (by
       rcases hat with h|h
       ·exact .inl h
       ·right;have:=HOB2.out.bel.size;omega)
      rw[<-HT.out] at hO2
      have HO6:=Hh hO2
      have SR6:w6.cell? ⟨gw,i*2,none⟩=some (.string ke)/\w6.cell? ⟨gw,i*2+1,none⟩=some (.string kv):=by
       have hgW:gw<W.heap.size:=Nat.lt_of_lt_of_le (HV.out.2 gw rfl).2.2 hszW
       have hgV:gw<V2.heap.size:=Nat.lt_of_lt_of_le hgW HOB2.out.bel.size
       exact⟨((grown_ch hg).cell (p:=⟨gw,i*2,none⟩) hgV (λe=>by have:=HOB2.out.new gw e;omega)).trans SR2.out.1,((grown_ch hg).cell (p:=⟨gw,i*2+1,none⟩) hgV (λe=>by have:=HOB2.out.new gw e;omega)).trans SR2.out.2⟩
      refine hK _ _ SR6 ?_
      clear hK K ho hg hat hbel hO2 SR6 SR2 HOB2
      apply wpP_two
      rfl
      intro K hK
      go_simp
      refine hK _ _ ?_
      clear hK K
      refine wpP_done ?_
      go_wp2_with fail
      go_roundw
      case rel=>exact⟨i+1,n+m,_,by omega,rfl,by go_num,⟨HN2.out,by omega⟩,HO6⟩
      case measure=>simp[intOf];omega
     ·have y0:¬(i:Int)<L:=by omega
      have hiL:i=L:=by omega
      have hVt:V.take i=V:=List.take_of_length_le (by rw[HL.out];omega)
      have hob:=HOB.out
      have hsum:=HN.out.1
      rw[hVt] at hob hsum
      obtain⟨av,ca,rfl,hal,hag⟩:=hob.al
      have HAL:=Hh (And.intro hal hag)
      have HBW:=Hh hob.bel
      have HSUM:=Hh hsum
      have HCW:Hid (Ch D w wr):=HW.out.trans (Ch.of_below HBW.out D)
      have HRW2:=Hh (HRW.out.below HBW.out)
      have HSW:=Hh (HS.out.ch HCW.out λk h1 h2=>hdis k h2 h1)
      have k0:=HSW.out.c0
      have k1:=HRW2.out.c1
      have hpw:IntKind.i64.wrap ((fl.P:Int)-1)=(fl.P:Int)-1:=IntWalk.i64_in _ ⟨by omega,by omega⟩
      have hnca:=hal.le
      rw[allP_len,hsum] at hnca
      have hncap:n<=ca/\ca<=maxLen:=hnca
      clear hob hal hag hsum hVt hnca HOB HN
      by_cases hbig:fl.P<1+n
      ·have hgt:(n:Int) > (fl.P:Int)-1:=by omega
       have HE:Hid (chgF fl st k nm vl=(8,fl,st)):=by
        show _=_
        rw[chg2 HO.out HCOND.out,HVE.out]
        exact cmp1 rfl (by rw[HSUM.out];exact hbig)
       go_wp2_with fail
       go_ret
       rw[HE.out]
       exact⟨rfl,RLeft.same rfl HRW2.out HCW.out HS.out hdis⟩
      ·have hgt:¬(n:Int) > (fl.P:Int)-1:=by omega
       have HE:Hid (chgF fl st k nm vl=cmpF fl st V):=by
        show _=_
        rw[chg2 HO.out HCOND.out,HVE.out]
       have hszr:=HCW.out.size
       have HCM:=Hh (rcompact_any HSW.out HRW2.out hdis HAL.out.1 (λg e hD=>by have:=(HAL.out.2 g e).1;have:=H.out.fin g hD;have:=HW.out.size;omega) HSUM.out (by omega) (HV.out.1.ch HCW.out (λg e=>(HV.out.2 g e).1)) (λg e=>⟨(HV.out.2 g e).1,(HV.out.2 g e).2.1,Nat.lt_of_lt_of_le (HV.out.2 g e).2.2 hszr⟩) HVS.out HHV.out HL.out)
       clear hszr
       go_wp2_with fail
       refine HCM.out.mono ?_
       rintro e w9 ⟨rfl,h9⟩
       have H9:=Hh h9
       clear h9 HCM
       go_wp2_with fail
       go_ret
       rw[HE.out]
       exact⟨rfl,H9.out.1,(HCW.out.mono λ_ h _=>.inl h).trans H9.out.2.1,H9.out.2.2⟩
 ·rw[ho] at c5
  have HE:=Hh (chg1 (st:=st) (k:=k) (nm:=nm) (v:=vl) ho)
  clear ho
  go_enter Tryz.func110,Tryz.ntmps110
  go_wp2_with fail
  go_ret
  rw[HE.out]
  exact⟨rfl,RLeft.same rfl H.out (Ch.refl _ _) HS.out hdis⟩
end
end
section
open Go
section
variable {P:Program}{ops:Array Oper}{Q:Exit->Act->World->Prop}{md:Region.Mode}{S:World->Prop}{N:Nat->Bool}
def clos (md:Region.Mode)(ops:Array Oper)(listed:Array Bool):Prop:=∀(m:Nat) (o:Oper),ops[m]? = some o->listed.getD m false=true->∀e∈o.after,Region.binds md e=true->listed.getD e.on false=true
theorem clos.next {listed:Array Bool}{k:Nat}(h:clos md ops listed)(hk:k∈Region.ready md ops listed):clos md ops (listed.setIfInBounds k true):=λm o ho hm e he hb=>by
 by_cases hmk:k=m
 ·subst hmk
  obtain⟨_,o',ho',hall⟩:=mem_ready.1 hk
  rw[ho] at ho'
  injection ho' with ho'
  subst ho'
  exact getD_set_true (hall e he hb)
 ·rw[getD_set_ne false hmk] at hm
  exact getD_set_true (h m o ho hm e he hb)
inductive Dep (md:Region.Mode)(ops:Array Oper):Nat->Nat->Prop
 | one {j i:Nat} (o:Oper) (e:_):ops[j]? = some o->e∈o.after->Region.binds md e=true->e.on=i->Dep md ops j i
 | more {j i:Nat} (o:Oper) (e:_):ops[j]? = some o->e∈o.after->Region.binds md e=true->Dep md ops e.on i->Dep md ops j i
theorem Dep.listed {listed:Array Bool}(hc:clos md ops listed){j i:Nat}(h:Dep md ops j i):∀oj,ops[j]? = some oj->(∀e∈oj.after,Region.binds md e=true->listed.getD e.on false=true)->listed.getD i false=true:=by
 induction h with
 | one o e ho he hb hon=>
  intro oj hoj hall
  rw[ho] at hoj
  injection hoj with hoj
  subst hoj
  rw[<-hon]
  exact hall e he hb
 | more o e ho he hb hd ih=>
  intro oj hoj hall
  rw[ho] at hoj
  injection hoj with hoj
  subst hoj
  have hl:=hall e he hb
  cases hd with
  | one o2 e2 ho2 he2 hb2 hon2=>exact ih o2 ho2 λe3 he3 hb3=>hc _ _ ho2 hl e3 he3 hb3
  | more o2 e2 ho2 he2 hb2 hd2=>exact ih o2 ho2 λe3 he3 hb3=>hc _ _ ho2 hl e3 he3 hb3
def waitsT (md:Region.Mode)(ops:Array Oper):Nat->Nat->Nat->Bool
 | 0,j,i=>Region.waitsFor md ops j i
 | n+1,j,i=>Region.waitsFor md ops j i||(match ops[j]? with
  | some oj=>oj.after.any λe=>Region.binds md e&&waitsT md ops n e.on i
  | none=>false)
theorem waitsT_spec:∀(n j i:Nat),waitsT md ops n j i=true->Dep md ops j i
 | 0,j,i,h=>by
  obtain⟨oj,hoj,e,he,hb,hon⟩:=Region.waitsFor_spec h
  exact .one oj e hoj he hb hon
 | n+1,j,i,h=>by
  unfold waitsT at h
  rcases Bool.or_eq_true_iff.1 h with h|h
  ·obtain⟨oj,hoj,e,he,hb,hon⟩:=Region.waitsFor_spec h
   exact .one oj e hoj he hb hon
  ·split at h
   ·rename_i oj hj
    obtain⟨e,he,hb⟩:=Array.any_eq_true'.1 h
    rw[Bool.and_eq_true] at hb
    exact .more oj e hj he hb.1 (waitsT_spec n _ _ hb.2)
   ·cases h
theorem wpAnyP_firstT {i:Nat}{oi:Oper}{v:Value}(hi:ops[i]? = some oi)(hsel:∀(j:Nat) (o:Oper) cs b,ops[j]? = some o->o.op≠.select cs b)
  (hQ:∀c a w,¬Q (.panic c) a w) (hN:∀j oj,ops[j]? = some oj->N j=true->Dep md ops j i) :
  ∀(fuel:Nat) (listed:Array Bool) (a:Act) (w:World),clos md ops listed ->
   (∀j oj,ops[j]? = some oj->j≠i->listed.getD j true=false->(∀e∈oj.after,Region.binds md e=true->e.on≠i)->oi.apart ops oj=true) ->
   i∈Region.ready md ops listed->YS P ops S oi v a->S w ->
   wpAnyP P md ops Q S N fuel (listed.setIfInBounds i true) (a.put oi.dst v) w->wpAnyP P md ops Q S N (fuel+1) listed a w:=by
 intro fuel
 induction fuel with
 | zero=>
  intro listed a w _ _ hr hy hS H
  refine⟨λh=>(by rw[h] at hr;cases hr),λj hj=>?_⟩
  by_cases hji:j=i
  ·subst hji;exact hy.wpOp hi hS ⟨.inr hS,H⟩
  ·have:=ready_mono hj hji
   rw[H.1] at this
   cases this
 | succ fuel ih=>
  intro listed a w hcl hfree hr hy hS H
  refine⟨λh=>(by rw[h] at hr;cases hr),λj hj=>?_⟩
  by_cases hji:j=i
  ·subst hji;exact hy.wpOp hi hS ⟨.inr hS,H⟩
  ·have h1:=H.2 j (ready_mono hj hji)
   obtain⟨hjun,oj,hoj,hall⟩:=mem_ready.1 hj
   have hun:listed.getD i false=true->False:=λh=>by
    have h0:=(mem_ready.1 hr).1
    rcases Nat.lt_or_ge i listed.size with h'|h'
    ·simp[h'] at h0 h;rw[h0] at h;cases h
    ·simp[Array.getElem?_eq_none h'] at h
   have hnot:∀e∈oj.after,Region.binds md e=true->e.on≠i:=λe he hb heq=>by
    have h1:=hall e he hb
    rw[heq] at h1
    exact hun h1
   have hNj:N j=false:=by
    cases hNj:N j
    ·rfl
    ·exact absurd ((hN j oj hoj hNj).listed hcl oj hoj hall) (λh=>hun h)
   have h2:=wpOp_putS hoj (hfree j oj hoj hji hjun hnot) (λcs b=>hsel i oi cs b hi) (λcs b=>hsel j oj cs b hoj) hQ hy h1
   have hfree':∀k ok,ops[k]? = some ok->k≠i->(listed.setIfInBounds j true).getD k true=false ->
     (∀e∈ok.after,Region.binds md e=true->e.on≠i)->oi.apart ops ok=true:=λk ok hk hki hun hno=>by
    refine hfree k ok hk hki ?_ hno
    by_cases hjk:j=k
    ·subst hjk;exact hjun
    ·rw[getD_set_ne true hjk] at hun;exact hun
   refine wpOp_mono (λa' w' h3=>?_) h2
   have hS':S w':=by
    rcases h3.2.1 with h4|h4
    ·rw[hNj] at h4;cases h4
    ·exact h4
   refine⟨.inr hS',ih (listed.setIfInBounds j true) a' w' (hcl.next hj) hfree' (ready_mono hr (Ne.symm hji)) h3.1 hS' ?_⟩
   rw[Array.setIfInBounds_comm _ _ hji]
   exact h3.2.2
def noST (md:Region.Mode)(ops:Array Oper)(pl:List (Nat×Nat)):Bool:=
 pl.all λx=>!decide (2<=x.2)||pl.all λy=>!(y.2==0)||waitsT md ops 8 x.1 y.1
def plOT (md:Region.Mode)(ops:Array Oper)(pl:List (Nat×Nat)):Bool:=
 decide (pl.length=ops.size)&&Region.noSelect ops&&noST md ops pl&&plB md ops pl (Array.replicate ops.size false)
theorem noST_spec {pl:List (Nat×Nat)}{i:Nat}(hi:(i,0)∈pl)(hN:noST md ops pl=true)(j:Nat)(h:noS pl j=true):Dep md ops j i:=by
 obtain⟨x,hx,hx2⟩:=List.any_eq_true.1 h
 simp only[Bool.and_eq_true,beq_iff_eq,decide_eq_true_eq] at hx2
 have h1:=List.all_eq_true.1 hN x hx
 simp only[hx2.2,decide_true,Bool.not_true,Bool.false_or] at h1
 have h2:=List.all_eq_true.1 h1 _ hi
 have h3:=waitsT_spec (md:=md) (ops:=ops) _ _ _ (by simpa using h2)
 rw[hx2.1] at h3
 exact h3
theorem wpAnyP_planT (pl0:List (Nat×Nat))(hsel:Region.noSelect ops=true)(hQ:∀c a w,¬Q (.panic c) a w)(hN:noST md ops pl0=true)(pl:List (Nat×Nat)) :
  ∀(listed:Array Bool) (a:Act) (w:World),clos md ops listed->(∀x∈pl,x∈pl0)->plB md ops pl listed=true->wpP P ops Q S pl a w->wpAnyP P md ops Q S (noS pl0) pl.length listed a w:=by
 induction pl with
 | nil=>intro listed a w _ _ hB h;exact⟨by simpa[plB] using hB,h⟩
 | cons x r ih=>
  intro listed a w hcl hm hB h
  obtain⟨k,c⟩:=x
  have hmr:∀x∈r,x∈pl0:=λx hx=>hm x (List.mem_cons_of_mem _ hx)
  have hk:=hm (k,c) (List.mem_cons_self ..)
  match c,hB,h,hk with
  | 0,hB,h,hk=>
   simp only[plB,Bool.and_eq_true] at hB
   obtain⟨⟨hr,hf⟩,hB'⟩:=hB
   obtain⟨o,v,ho,hy,hS,hK⟩:=h
   have hrd:k∈Region.ready md ops listed:=by simpa using hr
   exact wpAnyP_firstT ho (Region.noSelect_spec hsel) hQ (λj oj hj hNj=>noST_spec hk hN j hNj) _ listed a w hcl (Region.free_spec ho hf) hrd hy hS (ih _ _ _ (hcl.next hrd) hmr hB' hK)
  | 1,hB,h,hk=>
   simp only[plB,Bool.and_eq_true,decide_eq_true_eq] at hB
   have hrd:k∈Region.ready md ops listed:=by rw[hB.1];exact List.mem_singleton.2 rfl
   refine⟨λh1=>(by rw[hB.1] at h1;cases h1),λi hi=>?_⟩
   rw[hB.1] at hi
   have hik:i=k:=by simpa using hi
   subst hik
   exact wpOp_mono (λa' w' h'=>⟨.inr h'.1,ih _ a' w' (hcl.next hrd) hmr hB.2 h'.2⟩) h
  | c+2,hB,h,hk=>
   simp only[plB,Bool.and_eq_true,decide_eq_true_eq] at hB
   have hrd:k∈Region.ready md ops listed:=by rw[hB.1];exact List.mem_singleton.2 rfl
   refine⟨λh1=>(by rw[hB.1] at h1;cases h1),λi hi=>?_⟩
   rw[hB.1] at hi
   have hik:i=k:=by simpa using hi
   subst hik
   exact wpOp_mono (λa' w' h'=>⟨.inl (List.any_eq_true.2 ⟨_,hk,by simp⟩),ih _ a' w' (hcl.next hrd) hmr hB.2 h'⟩) h
theorem wp_region_pt {id:Nat}{a:Act}{w:World}{l:List Oper}(S:World->Prop)(pl:List (Nat×Nat))(hm:P.follows .mixedOrders=true)(hB:plOT .any l.toArray pl=true)
  (h:wpP P l.toArray (NoPanic Q) S pl a w.drew):(Code.region id l.toArray true).wp P Q a w:=by
 simp only[plOT,Bool.and_eq_true,decide_eq_true_eq] at hB
 obtain⟨⟨⟨hn,hsel⟩,hN⟩,hB⟩:=hB
 refine wp_region_noPanic (wp_region_any hm (wpAny_of_P (S:=S) (N:=noS pl) _ _ _ _ ?_))
 have hc0:clos .any l.toArray (Array.replicate l.toArray.size false):=λm o _ h=>by
  exfalso
  simp[Array.getElem?_replicate] at h
  split at h<;>simp at h
 have:=wpAnyP_planT (P:=P) (md:=.any) (Q:=NoPanic Q) (S:=S) (ops:=l.toArray) pl hsel (λc a w h=>h) hN pl _ a w.drew hc0 (λ_ h=>h) hB h
 rw[hn] at this
 exact this
end
end
section
theorem OV.lt {w wr:World}{a:Option Addr}{n cap:Nat}{E:Vars}(h:OV w wr (.slice a n cap) E):∀g,a=some ⟨g,0,none⟩->g<wr.heap.size:=λg e=>by
 subst e
 obtain⟨⟨_,h1|⟨g',cap',cur,hv,_,hh,_⟩⟩,_,_⟩:=h
 ·cases h1.1
 ·injection hv with hv;injection hv with hv;injection hv with hv;subst hv;exact heap_lt hh
section
variable {w:World}{D DS:Nat->Prop}{S X:Nat}{st:ST}{y:RLay}{fl:FL}
theorem rset_any (hs:RS w DS S X st)(h:RW w D X y fl)(hdis:∀k,D k->¬DS k)(hb:st.blk<fl.B){ke ve:ByteArray}(hke:ke.size<=1000000)(hve:ve.size<=1000000) :
  Calls Tryz.prog 44 #[fptr S,.string ke,.string ve] w λe w'=>e=.returned (.int .i64 (setF fl st ke.data.toList ve.data.toList).1)/\RLeft w w' D DS (λi=>w.heap.size<=i) S X y (setF fl st ke.data.toList ve.data.toList):=by
 have HF:=Hh (rfits_any 1 ke.size ve.size w (by omega) (by omega))
 have HGT:=Hh (rget_any hs ke)
 have HS:=Hh hs
 have H:=Hh h
 clear hs h
 cases hok:okLens 1 ke.size ve.size
 ·have HE:Hid (setF fl st ke.data.toList ve.data.toList=(1,fl,st)):=by show _=_;unfold setF;rw[if_pos (show okLens 1 ke.data.toList.length ve.data.toList.length=false from hok)]
  rw[hok] at HF
  clear hok
  go_enter Tryz.func44,Tryz.ntmps44
  go_wp2_with fail
  refine HF.out.mono ?_
  rintro e w1 ⟨rfl,rfl⟩
  go_wp2_with fail
  go_ret
  rw[HE.out]
  exact⟨rfl,RLeft.same rfl H.out (Ch.refl _ _) HS.out hdis⟩
 ·rw[hok] at HF
  have HOK:Hid (okLens 1 ke.data.toList.length ve.data.toList.length=true):=hok
  have hks:ke.size<=24/\ve.size<=128:=okLens_le hok
  clear hok
  rcases hg:getV st.V ke.data.toList with _|x
  ·have hgs:getS st.V ke.data.toList=([],6):=by unfold getS;rw[hg]
   rw[hgs] at HGT
   have HE:Hid (setF fl st ke.data.toList ve.data.toList=chgF fl st 1 ke.data.toList ve.data.toList):=by
    show _=_;unfold setF;rw[if_neg (by rw[HOK.out];exact Bool.noConfusion),hg,if_neg (by intro k;cases k)]
   clear hg hgs
   go_enter Tryz.func44,Tryz.ntmps44
   go_wp2_with fail
   refine HF.out.mono ?_
   rintro e w1 ⟨rfl,rfl⟩
   go_wp2_with fail
   refine HGT.out.mono ?_
   rintro e w1 ⟨rfl,rfl⟩
   clear HF HGT
   obtain⟨a,cv,q1,hvs⟩:=HS.out.c1
   have hvl:st.V.length<=1000:=by have:=HS.out.vl;have:=HS.out.hn;omega
   have HBD:Hid (Below w.heap.size w w.drew):=(Below.refl _ w).drew
   have S1:Hid (w.drew.cell? ⟨S,1,none⟩=some (.slice a st.V.length cv)):=q1
   have HVS:=Hh (hvs.below HBD.out)
   have hav:st.V.length<=cv/\cv<=maxLen:=⟨hvs.1,hvs.2.1⟩
   obtain⟨L,hL⟩:∃L,st.V.length=L:=⟨_,rfl⟩
   have HLL:=Hh hL
   rw[hL] at S1 hvl hav
   clear q1 hvs hL
   obtain⟨rb,hrb⟩:∃s:ByteArray,s=⟨(recd 1 ke.data.toList ve.data.toList).toArray⟩:=⟨_,rfl⟩
   have HRB:Hid (rb.data.toList=recd 1 ke.data.toList ve.data.toList):=by rw[hrb];exact rfl
   have HREC:Hid (∀Z,Calls Tryz.prog 97 #[.int .u8 1,.string ke,.string ve] Z λe w'=>e=.returned (.string rb)/\Below Z.heap.size Z w'):=λ Z=>by
    rw[hrb]
    exact rrecord_any 1 ke ve Z (by omega) (by omega) (by omega)
   have hol:=okLens_le HOK.out
   have HLS:Hid (ke.data.toList.length<=24/\(ve.data.toList:Str).length<=128):=hol
   clear hrb hol
   go_wp2_with fail
   refine wp_region_pt (λ Y=>Y.cell? ⟨S,1,none⟩=some (.slice a L cv)) ((0,0)::(1,0)::(2,0)::(4,0)::(5,0)::(6,0)::(7,0)::(8,0)::(9,0)::(3,1)::(10,1)::(11,2)::(12,2)::[]) (by kernel_rfl) (by kernel_rfl) ?_
   iterate 9 (apply wpP_go;rfl;rfl;exact S1.out;(rintro Z s0;go_simp;exact rfl);intro K hK;go_simp;refine hK _ ?_;clear hK K)
   apply wpP_one
   rfl
   intro K hK
   go_simp
   refine(HREC.out _).mono ?_
   rintro e V1 ⟨rfl,b1⟩
   have HB1:Hid (Below w.heap.size w V1):=HBD.out.trans (b1.mono HBD.out.size)
   have HV1:=Hh (HVS.out.below b1)
   refine hK _ _ (cell_later b1 S1.out) ?_
   have S2:Hid (V1.cell? ⟨S,1,none⟩=some (.slice a L cv)):=cell_later b1 S1.out
   clear hK K b1 S1 HBD HVS HREC
   have HWT:=Hh (rwith_any HV1.out HLL.out (by omega) HS.out.srt ke ve)
   apply wpP_one
   rfl
   intro K hK
   go_simp
   refine HWT.out.mono ?_
   rintro e V2 ⟨v2,rfl,hov⟩
   obtain⟨a2,c2,rfl,hv2,hg2⟩:=hov.form
   have b2:=hov.bel
   have HB2:Hid (Below w.heap.size w V2):=HB1.out.trans (b2.mono HB1.out.size)
   refine hK _ _ (cell_later b2 S2.out) ?_
   have S3:Hid (V2.cell? ⟨S,1,none⟩=some (.slice a L cv)):=cell_later b2 S2.out
   have hlt2:∀g,a2=some ⟨g,0,none⟩->g<V2.heap.size:=hov.lt
   have HCH:=Hh (rchange_any (k:=1) (nm:=ke.data.toList) (vl:=ve.data.toList) (HS.out.below HB2.out) (H.out.below HB2.out) hdis hb HRB.out HLS.out hv2 rfl (λg e=>⟨λhD=>by have:=hg2 g e;have:=H.out.fin g hD;have:=HB1.out.size;omega,λhD=>by have:=hg2 g e;have:=HS.out.fin g hD;have:=HB1.out.size;omega,hlt2 g e⟩) rfl)
   have HA2:Hid (∀g,a2=some ⟨g,0,none⟩->w.heap.size<=g):=λg e=>Nat.le_trans HB1.out.size (hg2 g e)
   clear hK K b2 S2 HWT hov hv2 hg2 hlt2 HB1 HV1
   apply wpP_two
   rfl
   intro K hK
   go_simp
   refine HCH.out.mono ?_
   rintro e V3 ⟨rfl,hl⟩
   have HL3:=Hh hl
   refine hK _ _ ?_
   clear hK K hl
   apply wpP_two
   rfl
   intro K hK
   go_simp
   refine hK _ _ ?_
   clear hK K
   refine wpP_done ?_
   go_wp2_with fail
   go_ret
   rw[HE.out]
   obtain⟨l1,l2,D',l3,l4⟩:=HL3.out
   exact⟨rfl,l1,(Ch.of_below HB2.out _).trans l2,D',λi hi=>(l3 i hi).elim .inl (λe=>.inr (HA2.out i e)),l4⟩
  ·have hgs:getS st.V ke.data.toList=(x,0):=by unfold getS;rw[hg]
   rw[hgs] at HGT
   obtain⟨xb,hxb⟩:∃xb:ByteArray,str x=.string xb:=⟨_,rfl⟩
   have hxl:xb.data.toList=x:=by injection hxb with hxb;rw[<-hxb]
   rw[hxb] at HGT
   by_cases hx:x=ve.data.toList
   ·have HE:Hid (setF fl st ke.data.toList ve.data.toList=(0,fl,st)):=by
     show _=_;unfold setF;rw[if_neg (by rw[HOK.out];exact Bool.noConfusion),hg,if_pos (by rw[hx])]
    have hd:(xb.toList==ve.toList)=true:=by rw[ByteArray.toList_eq,ByteArray.toList_eq,hxl,hx];simp
    clear hg hgs hxb hxl hx
    go_enter Tryz.func44,Tryz.ntmps44
    go_wp2_with fail
    refine HF.out.mono ?_
    rintro e w1 ⟨rfl,rfl⟩
    go_wp2_with fail
    refine HGT.out.mono ?_
    rintro e w1 ⟨rfl,rfl⟩
    clear HF HGT
    go_wp2_with fail
    go_ret
    rw[HE.out]
    exact⟨rfl,RLeft.same rfl H.out (Ch.refl _ _) HS.out hdis⟩
   ·have HE:Hid (setF fl st ke.data.toList ve.data.toList=chgF fl st 1 ke.data.toList ve.data.toList):=by
     show _=_;unfold setF;rw[if_neg (by rw[HOK.out];exact Bool.noConfusion),hg,if_neg (by intro k;injection k with k;exact hx k)]
    have hd:(xb.toList==ve.toList)=false:=by rw[ByteArray.toList_eq,ByteArray.toList_eq,hxl];simpa using hx
    clear hg hgs hxb hxl hx
    go_enter Tryz.func44,Tryz.ntmps44
    go_wp2_with fail
    refine HF.out.mono ?_
    rintro e w1 ⟨rfl,rfl⟩
    go_wp2_with fail
    refine HGT.out.mono ?_
    rintro e w1 ⟨rfl,rfl⟩
    clear HF HGT
    obtain⟨a,cv,q1,hvs⟩:=HS.out.c1
    have hvl:st.V.length<=1000:=by have:=HS.out.vl;have:=HS.out.hn;omega
    have HBD:Hid (Below w.heap.size w w.drew):=(Below.refl _ w).drew
    have S1:Hid (w.drew.cell? ⟨S,1,none⟩=some (.slice a st.V.length cv)):=q1
    have HVS:=Hh (hvs.below HBD.out)
    have hav:st.V.length<=cv/\cv<=maxLen:=⟨hvs.1,hvs.2.1⟩
    obtain⟨L,hL⟩:∃L,st.V.length=L:=⟨_,rfl⟩
    have HLL:=Hh hL
    rw[hL] at S1 hvl hav
    clear q1 hvs hL
    obtain⟨rb,hrb⟩:∃s:ByteArray,s=⟨(recd 1 ke.data.toList ve.data.toList).toArray⟩:=⟨_,rfl⟩
    have HRB:Hid (rb.data.toList=recd 1 ke.data.toList ve.data.toList):=by rw[hrb];exact rfl
    have HREC:Hid (∀Z,Calls Tryz.prog 97 #[.int .u8 1,.string ke,.string ve] Z λe w'=>e=.returned (.string rb)/\Below Z.heap.size Z w'):=λ Z=>by
     rw[hrb]
     exact rrecord_any 1 ke ve Z (by omega) (by omega) (by omega)
    have hol:=okLens_le HOK.out
    have HLS:Hid (ke.data.toList.length<=24/\(ve.data.toList:Str).length<=128):=hol
    clear hrb hol
    go_wp2_with fail
    refine wp_region_pt (λ Y=>Y.cell? ⟨S,1,none⟩=some (.slice a L cv)) ((0,0)::(1,0)::(2,0)::(4,0)::(5,0)::(6,0)::(7,0)::(8,0)::(9,0)::(3,1)::(10,1)::(11,2)::(12,2)::[]) (by kernel_rfl) (by kernel_rfl) ?_
    iterate 9 (apply wpP_go;rfl;rfl;exact S1.out;(rintro Z s0;go_simp;exact rfl);intro K hK;go_simp;refine hK _ ?_;clear hK K)
    apply wpP_one
    rfl
    intro K hK
    go_simp
    refine(HREC.out _).mono ?_
    rintro e V1 ⟨rfl,b1⟩
    have HB1:Hid (Below w.heap.size w V1):=HBD.out.trans (b1.mono HBD.out.size)
    have HV1:=Hh (HVS.out.below b1)
    refine hK _ _ (cell_later b1 S1.out) ?_
    have S2:Hid (V1.cell? ⟨S,1,none⟩=some (.slice a L cv)):=cell_later b1 S1.out
    clear hK K b1 S1 HBD HVS HREC
    have HWT:=Hh (rwith_any HV1.out HLL.out (by omega) HS.out.srt ke ve)
    apply wpP_one
    rfl
    intro K hK
    go_simp
    refine HWT.out.mono ?_
    rintro e V2 ⟨v2,rfl,hov⟩
    obtain⟨a2,c2,rfl,hv2,hg2⟩:=hov.form
    have b2:=hov.bel
    have HB2:Hid (Below w.heap.size w V2):=HB1.out.trans (b2.mono HB1.out.size)
    refine hK _ _ (cell_later b2 S2.out) ?_
    have S3:Hid (V2.cell? ⟨S,1,none⟩=some (.slice a L cv)):=cell_later b2 S2.out
    have hlt2:∀g,a2=some ⟨g,0,none⟩->g<V2.heap.size:=hov.lt
    have HCH:=Hh (rchange_any (k:=1) (nm:=ke.data.toList) (vl:=ve.data.toList) (HS.out.below HB2.out) (H.out.below HB2.out) hdis hb HRB.out HLS.out hv2 rfl (λg e=>⟨λhD=>by have:=hg2 g e;have:=H.out.fin g hD;have:=HB1.out.size;omega,λhD=>by have:=hg2 g e;have:=HS.out.fin g hD;have:=HB1.out.size;omega,hlt2 g e⟩) rfl)
    have HA2:Hid (∀g,a2=some ⟨g,0,none⟩->w.heap.size<=g):=λg e=>Nat.le_trans HB1.out.size (hg2 g e)
    clear hK K b2 S2 HWT hov hv2 hg2 hlt2 HB1 HV1
    apply wpP_two
    rfl
    intro K hK
    go_simp
    refine HCH.out.mono ?_
    rintro e V3 ⟨rfl,hl⟩
    have HL3:=Hh hl
    refine hK _ _ ?_
    clear hK K hl
    apply wpP_two
    rfl
    intro K hK
    go_simp
    refine hK _ _ ?_
    clear hK K
    refine wpP_done ?_
    go_wp2_with fail
    go_ret
    rw[HE.out]
    obtain⟨l1,l2,D',l3,l4⟩:=HL3.out
    exact⟨rfl,l1,(Ch.of_below HB2.out _).trans l2,D',λi hi=>(l3 i hi).elim .inl (λe=>.inr (HA2.out i e)),l4⟩
theorem rdel_any (hs:RS w DS S X st)(h:RW w D X y fl)(hdis:∀k,D k->¬DS k)(hb:st.blk<fl.B){ke:ByteArray}(hke:ke.size<=1000000) :
  Calls Tryz.prog 124 #[fptr S,.string ke] w λe w'=>e=.returned (.int .i64 (delF fl st ke.data.toList).1)/\RLeft w w' D DS (λi=>w.heap.size<=i) S X y (delF fl st ke.data.toList):=by
 have HF:=Hh (rfits_any 2 ke.size 0 w (by omega) (by omega))
 have HGT:=Hh (rget_any hs ke)
 have HS:=Hh hs
 have H:=Hh h
 clear hs h
 cases hok:okLens 2 ke.size 0
 ·have HE:Hid (delF fl st ke.data.toList=(1,fl,st)):=by show _=_;unfold delF;rw[if_pos (show okLens 2 ke.data.toList.length 0=false from hok)]
  rw[hok] at HF
  clear hok
  go_enter Tryz.func124,Tryz.ntmps124
  go_wp2_with fail
  refine HF.out.mono ?_
  rintro e w1 ⟨rfl,rfl⟩
  go_wp2_with fail
  go_ret
  rw[HE.out]
  exact⟨rfl,RLeft.same rfl H.out (Ch.refl _ _) HS.out hdis⟩
 ·rw[hok] at HF
  have HOK:Hid (okLens 2 ke.data.toList.length 0=true):=hok
  have hks:ke.size<=24:=(okLens_le hok).1
  clear hok
  rcases hg:getV st.V ke.data.toList with _|x
  ·have hgs:getS st.V ke.data.toList=([],6):=by unfold getS;rw[hg]
   rw[hgs] at HGT
   have HE:Hid (delF fl st ke.data.toList=(6,fl,st)):=by
    show _=_;unfold delF;rw[if_neg (by rw[HOK.out];exact Bool.noConfusion),if_pos hg]
   clear hg hgs
   go_enter Tryz.func124,Tryz.ntmps124
   go_wp2_with fail
   refine HF.out.mono ?_
   rintro e w1 ⟨rfl,rfl⟩
   go_wp2_with fail
   refine HGT.out.mono ?_
   rintro e w1 ⟨rfl,rfl⟩
   clear HF HGT
   go_wp2_with fail
   go_ret
   rw[HE.out]
   exact⟨rfl,RLeft.same rfl H.out (Ch.refl _ _) HS.out hdis⟩
  ·have hgs:getS st.V ke.data.toList=(x,0):=by unfold getS;rw[hg]
   rw[hgs] at HGT
   have HE:Hid (delF fl st ke.data.toList=chgF fl st 2 ke.data.toList []):=by
    show _=_;unfold delF;rw[if_neg (by rw[HOK.out];exact Bool.noConfusion),if_neg (by rw[hg];intro k;cases k)]
   clear hg hgs
   go_enter Tryz.func124,Tryz.ntmps124
   go_wp2_with fail
   refine HF.out.mono ?_
   rintro e w1 ⟨rfl,rfl⟩
   go_wp2_with fail
   refine HGT.out.mono ?_
   rintro e w1 ⟨rfl,rfl⟩
   clear HF HGT
   obtain⟨a,cv,q1,hvs⟩:=HS.out.c1
   have hvl:st.V.length<=1000:=by have:=HS.out.vl;have:=HS.out.hn;omega
   have HBD:Hid (Below w.heap.size w w.drew):=(Below.refl _ w).drew
   have S1:Hid (w.drew.cell? ⟨S,1,none⟩=some (.slice a st.V.length cv)):=q1
   have HVS:=Hh (hvs.below HBD.out)
   have hav:st.V.length<=cv/\cv<=maxLen:=⟨hvs.1,hvs.2.1⟩
   obtain⟨L,hL⟩:∃L,st.V.length=L:=⟨_,rfl⟩
   have HLL:=Hh hL
   rw[hL] at S1 hvl hav
   clear q1 hvs hL
   obtain⟨rb,hrb⟩:∃s:ByteArray,s=⟨(recd 2 ke.data.toList []).toArray⟩:=⟨_,rfl⟩
   have HRB:Hid (rb.data.toList=recd 2 ke.data.toList []):=by rw[hrb];exact rfl
   have HREC:Hid (∀Z,Calls Tryz.prog 97 #[.int .u8 2,.string ke,.string ⟨#[]⟩] Z λe w'=>e=.returned (.string rb)/\Below Z.heap.size Z w'):=λ Z=>by
    rw[hrb]
    exact rrecord_any 2 ke ⟨#[]⟩ Z (by omega) (by omega) (by decide)
   have hol:=okLens_le HOK.out
   have HLS:Hid (ke.data.toList.length<=24/\([]:Str).length<=128):=hol
   clear hrb hol
   go_wp2_with fail
   refine wp_region_pt (λ Y=>Y.cell? ⟨S,1,none⟩=some (.slice a L cv)) ((0,0)::(1,0)::(3,0)::(4,0)::(5,0)::(6,0)::(7,0)::(2,1)::(8,1)::(9,2)::(10,2)::[]) (by kernel_rfl) (by kernel_rfl) ?_
   iterate 7 (apply wpP_go;rfl;rfl;exact S1.out;(rintro Z s0;go_simp;exact rfl);intro K hK;go_simp;refine hK _ ?_;clear hK K)
   apply wpP_one
   rfl
   intro K hK
   go_simp
   refine(HREC.out _).mono ?_
   rintro e V1 ⟨rfl,b1⟩
   have HB1:Hid (Below w.heap.size w V1):=HBD.out.trans (b1.mono HBD.out.size)
   have HV1:=Hh (HVS.out.below b1)
   refine hK _ _ (cell_later b1 S1.out) ?_
   have S2:Hid (V1.cell? ⟨S,1,none⟩=some (.slice a L cv)):=cell_later b1 S1.out
   clear hK K b1 S1 HBD HVS HREC
   have HWT:=Hh (rwithout_any HV1.out HLL.out (by omega) ke)
   apply wpP_one
   rfl
   intro K hK
   go_simp
   refine HWT.out.mono ?_
   rintro e V2 ⟨v2,rfl,hov⟩
   obtain⟨a2,c2,rfl,hv2,hg2⟩:=hov.form
   have b2:=hov.bel
   have HB2:Hid (Below w.heap.size w V2):=HB1.out.trans (b2.mono HB1.out.size)
   refine hK _ _ (cell_later b2 S2.out) ?_
   have S3:Hid (V2.cell? ⟨S,1,none⟩=some (.slice a L cv)):=cell_later b2 S2.out
   have hlt2:∀g,a2=some ⟨g,0,none⟩->g<V2.heap.size:=hov.lt
   have HCH:=Hh (rchange_any (k:=2) (nm:=ke.data.toList) (vl:=[]) (HS.out.below HB2.out) (H.out.below HB2.out) hdis hb HRB.out HLS.out hv2 rfl (λg e=>⟨λhD=>by have:=hg2 g e;have:=H.out.fin g hD;have:=HB1.out.size;omega,λhD=>by have:=hg2 g e;have:=HS.out.fin g hD;have:=HB1.out.size;omega,hlt2 g e⟩) rfl)
   have HA2:Hid (∀g,a2=some ⟨g,0,none⟩->w.heap.size<=g):=λg e=>Nat.le_trans HB1.out.size (hg2 g e)
   clear hK K b2 S2 HWT hov hv2 hg2 hlt2 HB1 HV1
   apply wpP_two
   rfl
   intro K hK
   go_simp
   refine HCH.out.mono ?_
   rintro e V3 ⟨rfl,hl⟩
   have HL3:=Hh hl
   refine hK _ _ ?_
   clear hK K hl
   apply wpP_two
   rfl
   intro K hK
   go_simp
   refine hK _ _ ?_
   clear hK K
   refine wpP_done ?_
   go_wp2_with fail
   go_ret
   rw[HE.out]
   obtain⟨l1,l2,D',l3,l4⟩:=HL3.out
   exact⟨rfl,l1,(Ch.of_below HB2.out _).trans l2,D',λi hi=>(l3 i hi).elim .inl (λe=>.inr (HA2.out i e)),l4⟩
end
end
end Go.Proofs.YtdinbpdpalgohaaGreatDoor
