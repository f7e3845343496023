/- Walks and laws: G H I J L M. Conditions: those that each theorem names. -/
import Derived.Laws.MakeOwn
import Derived.Laws.Bits64b
import Derived.Test.YtdinbpdpalgohaaGreatDoorX1
import Derived.Test.YtdinbpdpalgohaaGreatDoorSi
set_option maxHeartbeats 8000000
set_option maxRecDepth 100000
namespace Go.Proofs.YtdinbpdpalgohaaGreatDoor
open Go.RowKit
section
def tornE (t:Nat)(old:Str):Str:=(List.range old.length).map λi=>old.getD i 0 ||| selB t i
def FL.eras (fl:FL)(b k t:Nat):FL:={ fl with pg:=λc q=>if c=b/\q<k then tornE t (fl.pg c q) else fl.pg c q }
theorem eras_zero (fl:FL)(b t:Nat):fl.eras b 0 t=fl:=by
 unfold FL.eras
 have:(λc q=>if c=b/\q<0 then tornE t (fl.pg c q) else fl.pg c q)=fl.pg:=by funext c q;simp
 rw[this]
theorem eras_put (fl:FL)(b k t:Nat):(fl.eras b k t).put b k (tornE t (fl.pg b k))=fl.eras b (k+1) t:=by
 unfold FL.eras FL.put
 have:up2 (λc q=>if c=b/\q<k then tornE t (fl.pg c q) else fl.pg c q) b k (tornE t (fl.pg b k))=λc q=>if c=b/\q<k+1 then tornE t (fl.pg c q) else fl.pg c q:=by
  funext c q
  unfold up2
  by_cases e:c=b
  ·subst e
   by_cases e2:q=k
   ·subst e2;simp
   ·by_cases e3:q<k
    ·simp[e2,e3];omega
    ·have:¬q<k+1:=by omega
     simp[e2,e3,this]
  ·simp[e]
 rw[this]
def eraseF (fl:FL)(b:Nat):Int×FL:=
 if fl.off=true then (16,fl) else if fl.E<=fl.er b then (15,fl)
 else if (intF (fl.erd b (fl.er b+1))).1=false then (0,(intF (fl.erd b (fl.er b+1))).2.eras b fl.P 18446744073709551615) else (16,(intF (fl.erd b (fl.er b+1))).2.eras b fl.P fl.torn)
theorem tornE_len (t:Nat)(l:Str):(tornE t l).length=l.length:=by simp[tornE]
section
variable {w:World}{D:Nat->Prop}{X:Nat}{y:FLay}{fl:FL}
theorem erase_any (h:FW w D X y fl){b:Nat}(hb:b<fl.B) :
  Calls Tryz.prog 88 #[fptr X,.int .i64 b] w λe w'=>e=.returned (.int .i64 (eraseF fl b).1)/\FW w' D X y (eraseF fl b).2/\Ch D w w':=by
 have c3:=h.c3
 have c4:=h.c4
 have hcb:=h.cb
 have hB:=h.hB
 have hP:=h.hP
 have hcp:=h.cp b hb
 have hbI:(b:Int)<fl.B:=by omega
 have HB:=Hh (isBlock_any h hb)
 have H:=Hh h
 cases ho:fl.off
 ·rw[ho] at c4
  have her:=h.her b hb
  have hE:=h.hE
  have S0:Hid (w.drew.cell? ⟨y.gb,b*2+1,none⟩=some (.int .i64 (fl.er b))/\w.drew.cell? ⟨X,2,none⟩=some (.int .i64 fl.E)):=⟨h.ce hb,h.c2⟩
  clear h
  go_enter Tryz.func88,Tryz.ntmps88
  go_wp2_with fail
  refine HB.out.mono ?_
  rintro e w' ⟨rfl,rfl⟩
  go_wp2_with fail
  refine wp_region_pl (λ Y=>Y.cell? ⟨y.gb,b*2+1,none⟩=some (.int .i64 (fl.er b))/\Y.cell? ⟨X,2,none⟩=some (.int .i64 fl.E)) ((0,0)::(1,0)::(2,0)::(3,0)::(4,0)::(5,0)::(6,0)::(7,0)::(8,0)::(9,0)::[]) (by kernel_rfl) (by kernel_rfl) ?_
  iterate 10 (apply wpP_go;rfl;rfl;exact S0.out;(rintro Z ⟨s0,s1⟩;go_simp;exact rfl);intro K hK;go_simp;refine hK _ ?_;clear hK K)
  refine wpP_done ?_
  have Hd:=Hh H.out.drew
  have Kd:Hid (Ch D w w.drew):=(Ch.refl D w).drew
  clear S0 c3 c4 H HB
  generalize w.drew=V at *
  by_cases hful:fl.E<=fl.er b
  ·have hfI:(fl.E:Int)<=(fl.er b:Int):=by omega
   have HPF:Hid (eraseF fl b=(15,fl)):=by
    show _=_
    unfold eraseF
    rw[if_neg (by rw[ho];simp),if_pos hful]
   have hd1:decide ((fl.er b:Int) ≥ (fl.E:Int))=true:=by simpa using hful
   go_wp2_with fail
   go_ret
   rw[HPF.out]
   exact⟨rfl,Hd.out,Kd.out⟩
  ·have hd1:decide ((fl.er b:Int) ≥ (fl.E:Int))=false:=by simpa using hful
   obtain⟨ev,hev⟩:∃ev,fl.er b=ev:=⟨_,rfl⟩
   have ce:V.cell? ⟨y.gb,b*2+1,none⟩=some (.int .i64 ev):=by rw[<-hev];exact Hd.out.ce hb
   have fe:=Hd.out.blk.frozen (b*2+1)
   have h1:FW (V.setCell ⟨y.gb,b*2+1,none⟩ (.int .i64 ((ev:Int)+1))) D X y (fl.erd b (ev+1)):=by
    have:=Hd.out.setEr (v:=ev+1) hb (by omega)
    exact this
   have HPF:Hid (eraseF fl b=if (intF (fl.erd b (ev+1))).1=false then (0,(intF (fl.erd b (ev+1))).2.eras b fl.P 18446744073709551615) else (16,(intF (fl.erd b (ev+1))).2.eras b fl.P fl.torn)):=by
    show _=_
    unfold eraseF
    rw[if_neg (by rw[ho];simp),if_neg hful,hev]
   have K1:Hid (Ch D w (V.setCell ⟨y.gb,b*2+1,none⟩ (.int .i64 ((ev:Int)+1)))):=Kd.out.setCell (p:=⟨y.gb,b*2+1,none⟩) (λ_=>Hd.out.db) _
   have HI:=Hh (interrupted_any h1)
   obtain⟨sB,sP,sE,sp,se,st⟩:=intF_same (fl.erd b (ev+1))
   have SB:Hid ((intF (fl.erd b (ev+1))).2.B=fl.B):=sB
   have SP:Hid ((intF (fl.erd b (ev+1))).2.P=fl.P):=sP
   have ST:Hid ((intF (fl.erd b (ev+1))).2.torn=fl.torn):=st
   have hevl:ev<=1048576:=by omega
   rw[hev] at hd1 ⊢
   have hevE:(ev:Int)<fl.E:=by omega
   obtain⟨i1,hi1⟩:∃i1,(intF (fl.erd b (ev+1))).1=i1:=⟨_,rfl⟩
   obtain⟨f2,hf2⟩:∃f2,(intF (fl.erd b (ev+1))).2=f2:=⟨_,rfl⟩
   rw[hi1,hf2] at HI HPF
   rw[hf2] at SB SP ST
   clear hf2 hi1 sB sP sE sp se st h1 hev Kd Hd hful her
   cases i1
   ·rw[if_pos rfl] at HPF
    go_wp2_with fail
    refine HI.out.mono ?_
    rintro e w2 ⟨rfl,h2,k2⟩
    have hb2:b<f2.B:=by rw[SB.out];exact hb
    have H2:Hid (FW w2 D X y (f2.eras b 0 18446744073709551615)):=by rw[eras_zero];exact h2
    have K2:Hid (Ch D w w2):=K1.out.trans k2
    have cs:w2.cell? ⟨y.gb,b*2,none⟩=some (.slice (some ⟨y.g b,0,none⟩) fl.P (y.cp b)):=by rw[<-SP.out];exact h2.cs hb2
    have hm0:18446744073709551615<=18446744073709551615:=Nat.le_refl _
    clear h2 k2
    clear HI K1 ce fe
    go_wp2_with fail
    clear cs
    go_loopw [54] (λz wr=>∃k:Nat,k<=fl.P/\z=.int .i64 (k:Int)/\Hid (FW wr D X y (f2.eras b k 18446744073709551615))/\Hid (Ch D w wr)) (λz _=>fl.P-(intOf z).toNat)
    case atStart=>exact⟨0,by omega,rfl,H2,K2⟩
    case round=>
     clear H2 K2
     obtain⟨k,hk,rfl,H2,K2⟩:=hrel
     by_cases hkP:k<fl.P
     ·have y0:(k:Int)<fl.P:=by omega
      have hk2:k<f2.P:=by rw[SP.out];exact hkP
      obtain⟨old,hold⟩:∃old:ByteArray,old=⟨((f2.eras b k 18446744073709551615).pg b k).toArray⟩:=⟨_,rfl⟩
      have epg:(f2.eras b k 18446744073709551615).pg b k=f2.pg b k:=by simp[FL.eras]
      have hol:old.data.toList=f2.pg b k:=by rw[hold,<-epg]
      have hos:old.size=64:=by
       have:=H2.out.len b k hb2 hk2
       rw[hold];simpa[ByteArray.size] using this
      have cg:wr.cell? ⟨y.g b,k,none⟩=some (.string old):=by
       rw[hold];exact H2.out.cg hb2 hk2
      obtain⟨cap,w3,hcv,hc1,hc2,hbt,hbel⟩:=conv_bytes wr old (by omega)
      rw[hos] at hcv hc1 hbt
      have hDg:Hid (¬D wr.heap.size):=λhk=>by have:=H2.out.fin _ hk;omega
      have H3:=Hh (H2.out.below hbel)
      have K3:Hid (Ch D w w3):=K2.out.trans (Ch.of_below hbel _)
      have hgW:w.heap.size<=wr.heap.size:=K2.out.size
      have hg3:wr.heap.size<w3.heap.size:=hbt.lt
      have HOL:=Hh hol
      have HBT0:Hid (∃c:Str,Bt w3 wr.heap.size 64 c/\∀j,j<64->c.getD j 0=if j<0 then old.data.toList.getD j 0 ||| selB 18446744073709551615 j else old.data.toList.getD j 0):=⟨_,hbt,λj hj=>by rw[if_neg (by omega)]⟩
      obtain⟨g,hg⟩:∃g,wr.heap.size=g:=⟨_,rfl⟩
      rw[hg] at hcv HBT0 hgW hDg hg3
      clear hbt hbel hold hol epg H2 K2
      go_wp2_with fail
      clear hcv hg cg
      go_loopw [63] (λz wr=>∃i:Nat,i<=64/\z=.int .i64 (i:Int)/\Hid (∃c:Str,Bt wr g 64 c/\∀j,j<64->c.getD j 0=if j<i then old.data.toList.getD j 0 ||| selB 18446744073709551615 j else old.data.toList.getD j 0)/\Hid (FW wr D X y (f2.eras b k 18446744073709551615))/\Hid (Ch D w wr)) (λz _=>64-(intOf z).toNat)
      case atStart=>exact⟨0,by omega,rfl,HBT0,H3,K3⟩
      case round=>
       clear H3 K3 HBT0
       obtain⟨i,hi,rfl,HBT,H3,K3⟩:=hrel
       by_cases hi7:i<64
       ·have z0:(i:Int)<64:=by omega
        obtain⟨c,hbt,hcj⟩:=HBT.out
        obtain⟨oi,hoi⟩:∃oi:UInt8,oi=old.data.toList.getD i 0:=⟨_,rfl⟩
        have hci:c.getD i 0=oi:=by rw[hcj i hi7,if_neg (by omega),hoi]
        obtain⟨ss,hss⟩:∃ss:UInt8,ss=selB 18446744073709551615 i:=⟨_,rfl⟩
        obtain⟨a3,ha3⟩:∃a:UInt8,a=oi ||| ss:=⟨_,rfl⟩
        have e3:bits .or .u8 (oi.toNat:Int) (ss.toNat:Int)=(a3.toNat:Int):=by rw[ha3];exact b_or _ _
        have cb:=hbt.cell hi7
        have fb:=hbt.frozen hi7
        rw[hci] at cb
        have HNX:Hid (∃c:Str,Bt (wr.setCell ⟨g,i,none⟩ (.int .u8 (a3.toNat:Int))).drew g 64 c/\∀j,j<64->c.getD j 0=if j<i+1 then old.data.toList.getD j 0 ||| selB 18446744073709551615 j else old.data.toList.getD j 0):=by
         refine⟨_,(hbt.ch (w':=wr.drew) ((Ch.refl (λ_=>False) wr).drew) id).set hi7 _,λj hj=>?_⟩
         have hcl:c.length=64:=by obtain⟨_,_,_,h1,_⟩:=hbt;exact h1
         by_cases e:j=i
         ·subst e
          rw[if_pos (by omega),List.getD_eq_getElem?_getD,List.getElem?_set_self (by omega),<-hoi,<-hss]
          exact ha3
         ·rw[List.getD_eq_getElem?_getD,List.getElem?_set_ne (Ne.symm e),<-List.getD_eq_getElem?_getD,hcj j hj]
          by_cases e2:j<i
          ·rw[if_pos e2,if_pos (by omega)]
          ·rw[if_neg e2,if_neg (by omega)]
        have H3n:Hid (FW (wr.setCell ⟨g,i,none⟩ (.int .u8 (a3.toNat:Int))).drew D X y (f2.eras b k 18446744073709551615)):=
         H3.out.ch (((Ch.refl (λk=>k=g) wr).drew).setCell (p:=⟨g,i,none⟩) (λ_=>rfl) _) (λk hk e=>hDg.out (by rw[<-e];exact hk))
        have K3n:Hid (Ch D w (wr.setCell ⟨g,i,none⟩ (.int .u8 (a3.toNat:Int))).drew):=
         (K3.out.drew).setCell (p:=⟨g,i,none⟩) (λh=>by have:g<w.heap.size:=h;omega) _
        have HSEL:Hid (∀Y:World,Calls Tryz.prog 137 #[.int .u64 18446744073709551615,.int .i64 (i:Int)] Y λe w'=>e=.returned (.int .u8 (ss.toNat:Int))/\Y=w'):=λ Y=>by
         have:=selected_any 18446744073709551615 i Y hi7
         have e:((18446744073709551615/2^(8*(i%8))%256:Nat):Int)=(ss.toNat:Int):=by
          rw[hss]
          unfold selB
          rw[u8_of (by omega)]
         rw[e] at this
         exact this
        have S0:Hid (wr.drew.cell? ⟨g,i,none⟩=some (.int .u8 (oi.toNat:Int))):=cb
        have cb':wr.drew.cell? ⟨g,i,none⟩=some (.int .u8 (oi.toNat:Int)):=cb
        have fb':wr.drew.frozen? ⟨g,i,none⟩=false:=fb
        clear hbt hcj hci hoi cb fb HBT H3 K3 ha3 hss
        go_wp2_with fail
        refine wp_region_pl (λ Y=>Y.cell? ⟨g,i,none⟩=some (.int .u8 (oi.toNat:Int))) ((0,0)::(1,0)::(2,0)::(3,0)::(4,0)::(5,0)::(6,0)::(7,0)::(8,0)::(9,2)::[]) (by kernel_rfl) (by kernel_rfl) ?_
        iterate 6 (apply wpP_go;rfl;rfl;exact S0.out;(rintro Z s0;go_simp;exact rfl);intro K hK;go_simp;refine hK _ ?_;clear hK K)
        apply wpP_call
        rfl
        rfl
        exact S0.out
        focus (rintro Z s0;go_simp;exact⟨rfl,rfl⟩)
        focus (intro Z _;exact HSEL.out Z)
        intro K hK
        go_simp
        refine hK _ ?_
        clear hK K
        iterate 2 (apply wpP_go;rfl;rfl;exact S0.out;(rintro Z s0;go_simp;exact rfl);intro K hK;go_simp;refine hK _ ?_;clear hK K)
        apply wpP_two
        rfl
        intro K hK
        go_simp
        refine hK _ _ ?_
        clear hK K
        refine wpP_done ?_
        clear S0 cb' fb' e3 HSEL
        generalize (wr.setCell ⟨g,i,none⟩ (.int .u8 (a3.toNat:Int))).drew=V at *
        go_wp2_with fail
        go_roundw
        case rel=>exact⟨i+1,by omega,by go_num,HNX,H3n,K3n⟩
        case measure=>simp[intOf];omega
       ·have z0:¬(i:Int)<64:=by omega
        obtain⟨c,hbt,hcj⟩:=HBT.out
        have hcl:c.length=64:=by obtain⟨_,_,_,h1,_⟩:=hbt;exact h1
        have hce:c=tornE 18446744073709551615 (f2.pg b k):=by
         have hol:(f2.pg b k).length=64:=by rw[<-HOL.out,Array.length_toList];exact hos
         apply List.ext_getElem
         ·rw[tornE,List.length_map,List.length_range,hol,hcl]
         ·intro j h1 h2
          have hj:j<64:=by omega
          have:=hcj j hj
          rw[if_pos (by omega),HOL.out,List.getD_eq_getElem?_getD,List.getElem?_eq_getElem h1] at this
          simp only[Option.getD_some] at this
          rw[this]
          have h3:(tornE 18446744073709551615 (f2.pg b k))[j]? = some ((f2.pg b k).getD j 0 ||| selB 18446744073709551615 j):=by
           unfold tornE
           rw[List.getElem?_map,List.getElem?_range (by omega)]
           rfl
          rw[List.getElem?_eq_getElem h2] at h3
          exact(Option.some.inj h3).symm
        subst hce
        have hcs:=hbt.str (w:=wr.drew) cap
        obtain⟨new,hnew⟩:∃new:ByteArray,new=⟨(tornE 18446744073709551615 (f2.pg b k)).toArray⟩:=⟨_,rfl⟩
        rw[<-hnew] at hcs
        have h3:=H3.out.drew
        have hcs2:wr.drew.cell? ⟨y.gb,b*2,none⟩=some (.slice (some ⟨y.g b,0,none⟩) fl.P (y.cp b)):=by rw[<-SP.out];exact h3.cs hb2
        have cg:wr.drew.cell? ⟨y.g b,k,none⟩=some (str ((f2.eras b k 18446744073709551615).pg b k)):=h3.cg hb2 hk2
        have fg:=(h3.pag b hb2).frozen k
        have HS:Hid (FW (wr.setCell ⟨y.g b,k,none⟩ (.string new)).drew D X y (f2.eras b (k+1) 18446744073709551615)):=by
         have:=h3.setPg (p:=k) hb2 hk2 (s:=tornE 18446744073709551615 (f2.pg b k)) hcl
         rw[eras_put] at this
         rw[hnew]
         exact this
        have HK:Hid (Ch D w (wr.setCell ⟨y.g b,k,none⟩ (.string new)).drew):=(K3.out.drew).setCell (p:=⟨y.g b,k,none⟩) (λ_=>h3.dg b hb2) _
        have S0:Hid (wr.drew.cell? ⟨y.gb,b*2,none⟩=some (.slice (some ⟨y.g b,0,none⟩) fl.P (y.cp b))/\(convert 99 9 (.slice (some ⟨g,0,none⟩) 64 cap)).run Tryz.prog wr.drew=.ok (.string new) wr.drew):=⟨hcs2,hcs⟩
        clear h3 hbt hcj hnew hcl HBT H3 K3
        go_wp2_with fail
        refine wp_region_pl (λ Y=>Y.cell? ⟨y.gb,b*2,none⟩=some (.slice (some ⟨y.g b,0,none⟩) fl.P (y.cp b))/\(convert 99 9 (.slice (some ⟨g,0,none⟩) 64 cap)).run Tryz.prog Y=.ok (.string new) Y) ((0,0)::(1,0)::(2,0)::(3,0)::(4,0)::(5,0)::(6,0)::(7,0)::(8,2)::[]) (by kernel_rfl) (by kernel_rfl) ?_
        iterate 8 (apply wpP_go;rfl;rfl;exact S0.out;(rintro Z ⟨s0,s1⟩;go_simp;exact rfl);intro K hK;go_simp;refine hK _ ?_;clear hK K)
        apply wpP_two
        rfl
        intro K hK
        go_simp
        refine hK _ _ ?_
        clear hK K
        refine wpP_done ?_
        clear S0 hcs2 cg fg hcs
        generalize (wr.setCell ⟨y.g b,k,none⟩ (.string new)).drew=V at *
        go_wp2_with fail
        exact⟨⟨k+1,by omega,by go_num,HS,HK⟩,by simp[intOf];omega⟩
     ·have y0:¬(k:Int)<fl.P:=by omega
      have ek:k=fl.P:=by omega
      go_wp2_with fail
      go_ret
      rw[HPF.out]
      subst ek
      exact⟨rfl,H2.out,K2.out⟩
   ·rw[if_neg (by simp)] at HPF
    go_wp2_with fail
    refine HI.out.mono ?_
    rintro e w2 ⟨rfl,h2,k2⟩
    have hb2:b<f2.B:=by rw[SB.out];exact hb
    have H2:Hid (FW w2.drew D X y (f2.eras b 0 fl.torn)):=by rw[eras_zero];exact h2.drew
    have K2:Hid (Ch D w w2.drew):=(K1.out.trans k2).drew
    have S1:Hid (w2.drew.cell? ⟨X,7,none⟩=some (.int .u64 (fl.torn:Int))):=by rw[<-ST.out];exact h2.c7
    have hm0:fl.torn<=18446744073709551615:=by rw[<-ST.out];exact h2.ht
    have S2:Hid (∀Y,Y=w2.drew->Y.cell? ⟨y.gb,b*2,none⟩=some (.slice (some ⟨y.g b,0,none⟩) fl.P (y.cp b))):=λ Y e=>by rw[e,<-SP.out];exact h2.cs hb2
    clear h2 k2
    go_wp2_with fail
    refine wp_region_pl (λ Y=>Y.cell? ⟨X,7,none⟩=some (.int .u64 (fl.torn:Int))) ((0,0)::(1,0)::(2,0)::(3,0)::(4,0)::(5,0)::[]) (by kernel_rfl) (by kernel_rfl) ?_
    iterate 6 (apply wpP_go;rfl;rfl;exact S1.out;(rintro Z s0;go_simp;exact rfl);intro K hK;go_simp;refine hK _ ?_;clear hK K)
    refine wpP_done ?_
    have cs:=S2.out _ rfl
    clear S1 S2
    generalize w2.drew=w2 at *
    clear HI K1 ce fe
    go_wp2_with fail
    clear cs
    go_loopw [54] (λz wr=>∃k:Nat,k<=fl.P/\z=.int .i64 (k:Int)/\Hid (FW wr D X y (f2.eras b k fl.torn))/\Hid (Ch D w wr)) (λz _=>fl.P-(intOf z).toNat)
    case atStart=>exact⟨0,by omega,rfl,H2,K2⟩
    case round=>
     clear H2 K2
     obtain⟨k,hk,rfl,H2,K2⟩:=hrel
     by_cases hkP:k<fl.P
     ·have y0:(k:Int)<fl.P:=by omega
      have hk2:k<f2.P:=by rw[SP.out];exact hkP
      obtain⟨old,hold⟩:∃old:ByteArray,old=⟨((f2.eras b k fl.torn).pg b k).toArray⟩:=⟨_,rfl⟩
      have epg:(f2.eras b k fl.torn).pg b k=f2.pg b k:=by simp[FL.eras]
      have hol:old.data.toList=f2.pg b k:=by rw[hold,<-epg]
      have hos:old.size=64:=by
       have:=H2.out.len b k hb2 hk2
       rw[hold];simpa[ByteArray.size] using this
      have cg:wr.cell? ⟨y.g b,k,none⟩=some (.string old):=by
       rw[hold];exact H2.out.cg hb2 hk2
      obtain⟨cap,w3,hcv,hc1,hc2,hbt,hbel⟩:=conv_bytes wr old (by omega)
      rw[hos] at hcv hc1 hbt
      have hDg:Hid (¬D wr.heap.size):=λhk=>by have:=H2.out.fin _ hk;omega
      have H3:=Hh (H2.out.below hbel)
      have K3:Hid (Ch D w w3):=K2.out.trans (Ch.of_below hbel _)
      have hgW:w.heap.size<=wr.heap.size:=K2.out.size
      have hg3:wr.heap.size<w3.heap.size:=hbt.lt
      have HOL:=Hh hol
      have HBT0:Hid (∃c:Str,Bt w3 wr.heap.size 64 c/\∀j,j<64->c.getD j 0=if j<0 then old.data.toList.getD j 0 ||| selB fl.torn j else old.data.toList.getD j 0):=⟨_,hbt,λj hj=>by rw[if_neg (by omega)]⟩
      obtain⟨g,hg⟩:∃g,wr.heap.size=g:=⟨_,rfl⟩
      rw[hg] at hcv HBT0 hgW hDg hg3
      clear hbt hbel hold hol epg H2 K2
      go_wp2_with fail
      clear hcv hg cg
      go_loopw [63] (λz wr=>∃i:Nat,i<=64/\z=.int .i64 (i:Int)/\Hid (∃c:Str,Bt wr g 64 c/\∀j,j<64->c.getD j 0=if j<i then old.data.toList.getD j 0 ||| selB fl.torn j else old.data.toList.getD j 0)/\Hid (FW wr D X y (f2.eras b k fl.torn))/\Hid (Ch D w wr)) (λz _=>64-(intOf z).toNat)
      case atStart=>exact⟨0,by omega,rfl,HBT0,H3,K3⟩
      case round=>
       clear H3 K3 HBT0
       obtain⟨i,hi,rfl,HBT,H3,K3⟩:=hrel
       by_cases hi7:i<64
       ·have z0:(i:Int)<64:=by omega
        obtain⟨c,hbt,hcj⟩:=HBT.out
        obtain⟨oi,hoi⟩:∃oi:UInt8,oi=old.data.toList.getD i 0:=⟨_,rfl⟩
        have hci:c.getD i 0=oi:=by rw[hcj i hi7,if_neg (by omega),hoi]
        obtain⟨ss,hss⟩:∃ss:UInt8,ss=selB fl.torn i:=⟨_,rfl⟩
        obtain⟨a3,ha3⟩:∃a:UInt8,a=oi ||| ss:=⟨_,rfl⟩
        have e3:bits .or .u8 (oi.toNat:Int) (ss.toNat:Int)=(a3.toNat:Int):=by rw[ha3];exact b_or _ _
        have cb:=hbt.cell hi7
        have fb:=hbt.frozen hi7
        rw[hci] at cb
        have HNX:Hid (∃c:Str,Bt (wr.setCell ⟨g,i,none⟩ (.int .u8 (a3.toNat:Int))).drew g 64 c/\∀j,j<64->c.getD j 0=if j<i+1 then old.data.toList.getD j 0 ||| selB fl.torn j else old.data.toList.getD j 0):=by
         refine⟨_,(hbt.ch (w':=wr.drew) ((Ch.refl (λ_=>False) wr).drew) id).set hi7 _,λj hj=>?_⟩
         have hcl:c.length=64:=by obtain⟨_,_,_,h1,_⟩:=hbt;exact h1
         by_cases e:j=i
         ·subst e
          rw[if_pos (by omega),List.getD_eq_getElem?_getD,List.getElem?_set_self (by omega),<-hoi,<-hss]
          exact ha3
         ·rw[List.getD_eq_getElem?_getD,List.getElem?_set_ne (Ne.symm e),<-List.getD_eq_getElem?_getD,hcj j hj]
          by_cases e2:j<i
          ·rw[if_pos e2,if_pos (by omega)]
          ·rw[if_neg e2,if_neg (by omega)]
        have H3n:Hid (FW (wr.setCell ⟨g,i,none⟩ (.int .u8 (a3.toNat:Int))).drew D X y (f2.eras b k fl.torn)):=
         H3.out.ch (((Ch.refl (λk=>k=g) wr).drew).setCell (p:=⟨g,i,none⟩) (λ_=>rfl) _) (λk hk e=>hDg.out (by rw[<-e];exact hk))
        have K3n:Hid (Ch D w (wr.setCell ⟨g,i,none⟩ (.int .u8 (a3.toNat:Int))).drew):=
         (K3.out.drew).setCell (p:=⟨g,i,none⟩) (λh=>by have:g<w.heap.size:=h;omega) _
        have HSEL:Hid (∀Y:World,Calls Tryz.prog 137 #[.int .u64 (fl.torn:Int),.int .i64 (i:Int)] Y λe w'=>e=.returned (.int .u8 (ss.toNat:Int))/\Y=w'):=λ Y=>by
         have:=selected_any fl.torn i Y hi7
         have e:((fl.torn/2^(8*(i%8))%256:Nat):Int)=(ss.toNat:Int):=by
          rw[hss]
          unfold selB
          rw[u8_of (by omega)]
         rw[e] at this
         exact this
        have S0:Hid (wr.drew.cell? ⟨g,i,none⟩=some (.int .u8 (oi.toNat:Int))):=cb
        have cb':wr.drew.cell? ⟨g,i,none⟩=some (.int .u8 (oi.toNat:Int)):=cb
        have fb':wr.drew.frozen? ⟨g,i,none⟩=false:=fb
        clear hbt hcj hci hoi cb fb HBT H3 K3 ha3 hss
        go_wp2_with fail
        refine wp_region_pl (λ Y=>Y.cell? ⟨g,i,none⟩=some (.int .u8 (oi.toNat:Int))) ((0,0)::(1,0)::(2,0)::(3,0)::(4,0)::(5,0)::(6,0)::(7,0)::(8,0)::(9,2)::[]) (by kernel_rfl) (by kernel_rfl) ?_
        iterate 6 (apply wpP_go;rfl;rfl;exact S0.out;(rintro Z s0;go_simp;exact rfl);intro K hK;go_simp;refine hK _ ?_;clear hK K)
        apply wpP_call
        rfl
        rfl
        exact S0.out
        focus (rintro Z s0;go_simp;exact⟨rfl,rfl⟩)
        focus (intro Z _;exact HSEL.out Z)
        intro K hK
        go_simp
        refine hK _ ?_
        clear hK K
        iterate 2 (apply wpP_go;rfl;rfl;exact S0.out;(rintro Z s0;go_simp;exact rfl);intro K hK;go_simp;refine hK _ ?_;clear hK K)
        apply wpP_two
        rfl
        intro K hK
        go_simp
        refine hK _ _ ?_
        clear hK K
        refine wpP_done ?_
        clear S0 cb' fb' e3 HSEL
        generalize (wr.setCell ⟨g,i,none⟩ (.int .u8 (a3.toNat:Int))).drew=V at *
        go_wp2_with fail
        go_roundw
        case rel=>exact⟨i+1,by omega,by go_num,HNX,H3n,K3n⟩
        case measure=>simp[intOf];omega
       ·have z0:¬(i:Int)<64:=by omega
        obtain⟨c,hbt,hcj⟩:=HBT.out
        have hcl:c.length=64:=by obtain⟨_,_,_,h1,_⟩:=hbt;exact h1
        have hce:c=tornE fl.torn (f2.pg b k):=by
         have hol:(f2.pg b k).length=64:=by rw[<-HOL.out,Array.length_toList];exact hos
         apply List.ext_getElem
         ·rw[tornE,List.length_map,List.length_range,hol,hcl]
         ·intro j h1 h2
          have hj:j<64:=by omega
          have:=hcj j hj
          rw[if_pos (by omega),HOL.out,List.getD_eq_getElem?_getD,List.getElem?_eq_getElem h1] at this
          simp only[Option.getD_some] at this
          rw[this]
          have h3:(tornE fl.torn (f2.pg b k))[j]? = some ((f2.pg b k).getD j 0 ||| selB fl.torn j):=by
           unfold tornE
           rw[List.getElem?_map,List.getElem?_range (by omega)]
           rfl
          rw[List.getElem?_eq_getElem h2] at h3
          exact(Option.some.inj h3).symm
        subst hce
        have hcs:=hbt.str (w:=wr.drew) cap
        obtain⟨new,hnew⟩:∃new:ByteArray,new=⟨(tornE fl.torn (f2.pg b k)).toArray⟩:=⟨_,rfl⟩
        rw[<-hnew] at hcs
        have h3:=H3.out.drew
        have hcs2:wr.drew.cell? ⟨y.gb,b*2,none⟩=some (.slice (some ⟨y.g b,0,none⟩) fl.P (y.cp b)):=by rw[<-SP.out];exact h3.cs hb2
        have cg:wr.drew.cell? ⟨y.g b,k,none⟩=some (str ((f2.eras b k fl.torn).pg b k)):=h3.cg hb2 hk2
        have fg:=(h3.pag b hb2).frozen k
        have HS:Hid (FW (wr.setCell ⟨y.g b,k,none⟩ (.string new)).drew D X y (f2.eras b (k+1) fl.torn)):=by
         have:=h3.setPg (p:=k) hb2 hk2 (s:=tornE fl.torn (f2.pg b k)) hcl
         rw[eras_put] at this
         rw[hnew]
         exact this
        have HK:Hid (Ch D w (wr.setCell ⟨y.g b,k,none⟩ (.string new)).drew):=(K3.out.drew).setCell (p:=⟨y.g b,k,none⟩) (λ_=>h3.dg b hb2) _
        have S0:Hid (wr.drew.cell? ⟨y.gb,b*2,none⟩=some (.slice (some ⟨y.g b,0,none⟩) fl.P (y.cp b))/\(convert 99 9 (.slice (some ⟨g,0,none⟩) 64 cap)).run Tryz.prog wr.drew=.ok (.string new) wr.drew):=⟨hcs2,hcs⟩
        clear h3 hbt hcj hnew hcl HBT H3 K3
        go_wp2_with fail
        refine wp_region_pl (λ Y=>Y.cell? ⟨y.gb,b*2,none⟩=some (.slice (some ⟨y.g b,0,none⟩) fl.P (y.cp b))/\(convert 99 9 (.slice (some ⟨g,0,none⟩) 64 cap)).run Tryz.prog Y=.ok (.string new) Y) ((0,0)::(1,0)::(2,0)::(3,0)::(4,0)::(5,0)::(6,0)::(7,0)::(8,2)::[]) (by kernel_rfl) (by kernel_rfl) ?_
        iterate 8 (apply wpP_go;rfl;rfl;exact S0.out;(rintro Z ⟨s0,s1⟩;go_simp;exact rfl);intro K hK;go_simp;refine hK _ ?_;clear hK K)
        apply wpP_two
        rfl
        intro K hK
        go_simp
        refine hK _ _ ?_
        clear hK K
        refine wpP_done ?_
        clear S0 hcs2 cg fg hcs
        generalize (wr.setCell ⟨y.g b,k,none⟩ (.string new)).drew=V at *
        go_wp2_with fail
        exact⟨⟨k+1,by omega,by go_num,HS,HK⟩,by simp[intOf];omega⟩
     ·have y0:¬(k:Int)<fl.P:=by omega
      have ek:k=fl.P:=by omega
      go_wp2_with fail
      go_ret
      rw[HPF.out]
      subst ek
      exact⟨rfl,H2.out,K2.out⟩
 ·rw[ho] at c4
  have HPF:Hid (eraseF fl b=(16,fl)):=by
   show _=_
   unfold eraseF
   rw[if_pos ho]
  clear h
  go_enter Tryz.func88,Tryz.ntmps88
  go_wp2_with fail
  refine HB.out.mono ?_
  rintro e w' ⟨rfl,rfl⟩
  go_wp2_with fail
  go_ret
  rw[HPF.out]
  exact⟨rfl,H.out,Ch.refl _ _⟩
end
end
theorem Ch.setAll {C:Nat->Prop}{a:World}{B:Nat}(hC:B<a.heap.size->C B):∀(vs:List Value) (o:Nat) (w:World),Ch C a w->Ch C a (w.setCells B o vs)
 | [],_,_,h=>h
 | u::r,o,_,h=>Ch.setAll hC r (o+1) _ (h.setCell (p:=⟨B,o,none⟩) hC u)
theorem Rg.fill {B t N:Nat}(u:Value):∀(m k:Nat) (w:World) (v:Nat->Value),Rg w B t N v->k+m<=N->Rg (w.setCells B k (List.replicate m u)) B t N (λi=>if k<=i/\i<k+m then u else v i)
 | 0,k,w,v,h,_=>h.congr λi _=>by rw[if_neg (by omega)]
 | m+1,k,w,v,h,hk=>by
  have:=Rg.fill u m (k+1) _ _ (h.set (i:=k) (by omega) u) (by omega)
  refine Rg.congr this λi _=>?_
  by_cases e:i=k
  ·subst e
   rw[if_neg (by omega),upd_hit,if_pos (by omega)]
  ·rw[upd_miss _ _ e]
   by_cases e2:k<=i/\i<k+(m+1)
   ·rw[if_pos (by omega),if_pos e2]
   ·rw[if_neg (by omega),if_neg e2]
theorem Tryz.infoS:(Tryz.prog.info? 9).map (λi=>(i.zero,i.size,i.bytes))=some (some (.string ⟨#[]⟩),1,16):=by kernel_rfl
theorem Rg.made (w:World)(t n:Nat)(z:Value)(hz:z.cells=#[z]):Rg (w.alloc (.cells (madeCells z.cells n) t)) w.heap.size t n (λ_=>z):=by
 refine⟨_,heap_alloc_new w _,λi hi=>?_⟩
 rw[hz]
 have:i%1=0:=Nat.mod_one i
 simp[madeCells,hi,this]
theorem repeat_any (w:World)(bx:Nat)(s:ByteArray)(n:Nat)(hn:1<=n/\n<=32)(hbx:bx<w.heap.size)(hc:w.cell? ⟨bx,0,none⟩=some (.string s)) :
  Calls Tryz.prog 82 #[.slice (some ⟨bx,0,none⟩) 1 1,.int .i64 n] w λe w'=>∃g,e=.returned (.slice (some ⟨g,0,none⟩) n n)/\w.heap.size<=g/\Rg w' g 9 n (λ_=>.string s)/\Below w.heap.size w w':=by
 obtain⟨i0,hi0,hx0,hx1,hx2⟩:=info_parts Tryz.infoS
 have HM:=Hh (Tryz.bits_Mul 1 n (by omega) (by omega) w)
 have e1:1*n/18446744073709551616=0:=by omega
 have e2:1*n%18446744073709551616=n:=by omega
 rw[e1,e2] at HM
 have hmk:(Instr.makeSlice 37 (.int .i64 (n:Int)) (.int .i64 (n:Int))).run Tryz.prog w=.ok (.slice (some ⟨w.heap.size,0,none⟩) n n) (w.alloc (.cells (madeCells (Value.string ⟨#[]⟩).cells n) 9)):=by
  have:=run_make (P:=Tryz.prog) w 37 9 i0 (.string ⟨#[]⟩) Tryz.underlying37 hi0 hx0 .i64 .i64 (n:Int) (n:Int) (by omega) (by omega) (by rw[hx2];omega) (by omega)
  rw[hx1] at this
  simpa using this
 obtain⟨w1,hw1⟩:∃w1,w.alloc (.cells (madeCells (Value.string ⟨#[]⟩).cells n) 9)=w1:=⟨_,rfl⟩
 have R1:=Rg.made w 9 n (.string ⟨#[]⟩) rfl
 have B1:Below w.heap.size w w1:=by rw[<-hw1];exact(Below.refl _ _).alloc (Nat.le_refl _) _
 rw[hw1] at R1 hmk
 have hcx:w1.cell? ⟨bx,0,none⟩=some (.string s):=(B1.cell (p:=⟨bx,0,none⟩) hbx).trans hc
 obtain⟨g,hg⟩:∃g,w.heap.size=g:=⟨_,rfl⟩
 rw[hg] at R1 hmk
 have hr0:(Builtin.copy_ #[37,37] 3 #[.slice (some ⟨g,0,none⟩) n n,.slice (some ⟨bx,0,none⟩) 1 1]).run Tryz.prog w1=.ok (goInt 1) (w1.setCells g 0 [.string s]):=
  run_copy_cells (P:=Tryz.prog) w1 37 37 3 9 g 0 n n ⟨bx,0,none⟩ 1 1 [.string s] Tryz.underlying37 (by rw[hi0];simp[hx1]) (show 1=Nat.min 1 n from (Nat.min_eq_left (by omega)).symm) (λj v hv=>by
   have hj:j=0:=by have:=(List.getElem?_eq_some_iff.1 hv).1;simpa using this
   subst hj
   simp at hv
   subst hv
   rw[Addr.add_mid]
   exact hcx) (λj hj=>by
   have hj:j=0:=by simpa using hj
   subst hj
   rw[R1.cell (i:=0+0) (by omega)];rfl) (λj hj=>R1.frozen _) (by simp[Value.oneCell'])
 have HR0:Hid (Rg (w1.setCells g 0 [.string s]) g 9 n (λi=>if i<1 then .string s else .string ⟨#[]⟩)):=by
  have:=Rg.fill (.string s) 1 0 w1 _ R1 (by omega)
  exact this.congr λi _=>by
   by_cases e:i<1
   ·rw[if_pos (by omega),if_pos e]
   ·rw[if_neg (by omega),if_neg e]
 have HB0:Hid (Below g w (w1.setCells g 0 [.string s])):=by
  have hb:=B1
  rw[hg] at hb
  exact hb.trans ((Ch.setAll (C:=λk=>k=g) (λ_=>rfl) _ _ _ (Ch.refl _ w1)).below (by have:=hb.size;omega) (λk hk=>by omega))
 clear hcx B1 R1
 go_enter Tryz.func82,Tryz.ntmps82
 go_wp2_with fail
 refine HM.out.mono ?_
 rintro e w2 ⟨rfl,rfl⟩
 go_wp2_with fail
 clear hr0 hmk hw1 HM hc
 generalize w1.setCells g 0 [.string s]=w3 at *
 go_loopw [8] (λz wr=>∃k:Nat,1<=k/\k<=n/\z=.int .i64 (k:Int)/\Hid (Rg wr g 9 n (λi=>if i<k then .string s else .string ⟨#[]⟩))/\Hid (Below g w2 wr)) (λz _=>n-(intOf z).toNat)
 case atStart=>exact⟨1,by omega,by omega,rfl,HR0,HB0⟩
 case round=>
  clear HR0 HB0
  obtain⟨k,hk1,hkn,rfl,HR,HB⟩:=hrel
  by_cases hk:k<n
  ·have y0:(k:Int)<n:=by omega
   obtain⟨m,hm,hm1⟩:∃m:Nat,Nat.min k (n-k)=m/\1<=m:=⟨_,rfl,Nat.le_min.2 ⟨hk1,by omega⟩⟩
   have hmk2:m<=k/\m<=n-k:=by rw[<-hm];exact⟨Nat.min_le_left _ _,Nat.min_le_right _ _⟩
   have hrd:Rg wr.drew g 9 n (λi=>if i<k then .string s else .string ⟨#[]⟩):=HR.out.ch ((Ch.refl (λ_=>False) wr).drew) id
   have hrc:(Builtin.copy_ #[37,37] 3 #[.slice (some ⟨g,k,none⟩) (n-k) (n-k),.slice (some ⟨g,0,none⟩) k n]).run Tryz.prog wr.drew=.ok (goInt m) (wr.drew.setCells g k (List.replicate m (.string s))):=by
    have:=run_copy_cells (P:=Tryz.prog) wr.drew 37 37 3 9 g k (n-k) (n-k) ⟨g,0,none⟩ k n (List.replicate m (.string s)) Tryz.underlying37 (by rw[hi0];simp[hx1]) (by rw[List.length_replicate];exact hm.symm) (λj v hv=>by
     have hj:j<m:=by have:=(List.getElem?_eq_some_iff.1 hv).1;simpa using this
     rw[List.getElem?_replicate,if_pos hj] at hv
     rw[Addr.add_mid,Nat.zero_add,hrd.cell (i:=j) (by omega),if_pos (by omega)]
     exact hv) (λj hj=>by
     rw[List.length_replicate] at hj
     rw[hrd.cell (i:=k+j) (by omega)];rfl) (λj hj=>hrd.frozen _) (by intro v hv;rw[List.eq_of_mem_replicate hv];rfl)
    rw[List.length_replicate] at this
    exact this
   have HR2:Hid (Rg (wr.drew.setCells g k (List.replicate m (.string s))) g 9 n (λi=>if i<k+m then .string s else .string ⟨#[]⟩)):=by
    have:=Rg.fill (.string s) m k wr.drew _ hrd (by omega)
    exact this.congr λi _=>by
     by_cases e:k<=i/\i<k+m
     ·rw[if_pos e,if_pos (by omega)]
     ·rw[if_neg e]
      by_cases e2:i<k
      ·rw[if_pos e2,if_pos (by omega)]
      ·rw[if_neg e2,if_neg (by omega)]
   have HB2:Hid (Below g w2 (wr.drew.setCells g k (List.replicate m (.string s)))):=by
    have hs:=HB.out.size
    exact HB.out.trans ((Ch.setAll (C:=λk=>k=g) (λ_=>rfl) _ _ _ ((Ch.refl _ wr).drew)).below (by omega) (λk hk=>by omega))
   have hnk:¬n=k:=by omega
   have hwr:IntKind.i64.wrap ((k:Int)+(m:Int))=(k:Int)+(m:Int):=IntWalk.i64_in _ ⟨by omega,by omega⟩
   have hg1:goInt (m:Int)=.int .i64 (m:Int):=rfl
   rw[hg1] at hrc
   clear hm hrd HR HB hg1
   go_wp2_with fail
   refine wp_region_pl (λ_=>True) ((0,0)::(1,0)::(2,0)::(3,0)::(4,0)::(5,0)::(6,0)::(7,1)::(8,0)::(9,0)::[]) (by kernel_rfl) (by kernel_rfl) ?_
   iterate 7 (apply wpP_go;rfl;rfl;exact trivial;(rintro Z _;go_simp;exact rfl);intro K hK;go_simp;refine hK _ ?_;clear hK K)
   apply wpP_one
   rfl
   intro K hK
   go_simp
   refine hK _ _ trivial ?_
   clear hK K
   iterate 2 (apply wpP_go;rfl;rfl;exact trivial;(rintro Z _;go_simp;exact rfl);intro K hK;go_simp;refine hK _ ?_;clear hK K)
   refine wpP_done ?_
   clear hrc
   generalize wr.drew.setCells g k (List.replicate m (.string s))=V at *
   go_wp2_with fail
   go_roundw
   case rel=>exact⟨k+m,by omega,by omega,by go_num,HR2,HB2⟩
   case measure=>simp[intOf];omega
  ·have y0:¬(k:Int)<n:=by omega
   have ek:k=n:=by omega
   subst ek
   go_wp2_with fail
   go_ret
   exact⟨g,rfl,by omega,HR.out.congr λi hi=>by rw[if_pos hi],HB.out⟩
def blank:Str:=List.replicate 64 255
def newF (B P E:Nat):FL:=⟨B,P,E,λ_ _=>blank,λ_=>0,false,false,0,0⟩
theorem Tryz.infoB:(Tryz.prog.info? 139).map (λi=>(i.zero,i.size,i.bytes))=some (some (.agg #[.slice none 0 0,.int .i64 0]),2,32):=by kernel_rfl
theorem Rg.made2 (w:World)(t n:Nat)(z:Value)(a b:Value)(hz:z.cells=#[a,b]):Rg (w.alloc (.cells (madeCells z.cells n) t)) w.heap.size t n (λi=>if i%2=0 then a else b):=by
 refine⟨_,heap_alloc_new w _,λi hi=>?_⟩
 rw[hz]
 rcases(by omega:i%2=0\/i%2=1) with h|h
 ·simp[madeCells,hi,h]
 ·simp[madeCells,hi,h]
structure FN (w:World)(w0 Z X gb:Nat)(B P E k:Nat)(g:Nat->Nat):Prop where
 box:Rg w Z 76 3 (λj=>if j=0 then .int .i64 B else if j=1 then .int .i64 P else .int .i64 E)
 top:Rg w X 135 8 (flc (newF B P E) ⟨gb,B,g,λ_=>P⟩)
 blk:Rg w gb 139 (B*2) (λj=>if j%2=0 then (if j/2<k then .slice (some ⟨g (j/2),0,none⟩) P P else .slice none 0 0) else .int .i64 0)
 pag:∀b,b<k->Rg w (g b) 9 P (λ_=>str blank)
 inj:∀b c,b<k->c<k->g b=g c->b=c
 low:w0<=Z/\w0<=X/\w0<=gb/\∀b,b<k->w0<=g b
theorem FN.next {w w':World}{w0 Z X gb B P E k g':Nat}{g:Nat->Nat}(h:FN w w0 Z X gb B P E k g)(hk:k<B)(hb:Below w.heap.size w w')(hg:w.heap.size<=g')(hr:Rg w' g' 9 P (λ_=>str blank)) :
  FN (w'.setCell ⟨gb,k*2,none⟩ (.slice (some ⟨g',0,none⟩) P P)) w0 Z X gb B P E (k+1) (λb=>if b=k then g' else g b):=by
 have c:Ch (λ_=>False) w w':=Ch.of_below hb _
 have hbox:=h.box.ch c id
 have htop:=h.top.ch c id
 have hblk:=h.blk.ch c id
 have hXb:X≠gb:=h.top.ty h.blk (by decide)
 have hZb:Z≠gb:=h.box.ty h.blk (by decide)
 have hgb:gb≠g':=by have:=h.blk.lt;omega
 refine⟨hbox.far (p:=⟨gb,k*2,none⟩) (Ne.symm hZb) _,(htop.far (p:=⟨gb,k*2,none⟩) (Ne.symm hXb) _).congr λj _=>?_,(hblk.set (i:=k*2) (by omega) _).congr λj hj=>?_,λb hbk=>?_,λb c' hb1 hc1 e=>?_,h.low.1,h.low.2.1,h.low.2.2.1,λb hbk=>?_⟩
 ·rfl
 ·by_cases e:j=k*2
  ·subst e
   have e1:k*2%2=0:=by omega
   have e2:k*2/2=k:=by omega
   rw[upd_hit]
   simp[e1,e2]
  ·rw[upd_miss _ _ e]
   by_cases e1:j%2=0
   ·have e2:j/2≠k:=by omega
    rw[if_pos e1,if_pos e1]
    by_cases e3:j/2<k
    ·rw[if_pos e3,if_pos (by omega)];simp[e2]
    ·rw[if_neg e3,if_neg (by omega)]
   ·rw[if_neg e1,if_neg e1]
 ·by_cases e:b=k
  ·subst e
   simp only[if_true]
   exact hr.far (p:=⟨gb,b*2,none⟩) hgb _
  ·simp only[if_neg e]
   have hb':=h.pag b (by omega)
   exact(hb'.ch c id).far (p:=⟨gb,k*2,none⟩) (λe2=>(h.blk.ty hb' (by decide)) e2) _
 ·by_cases e1:b=k<;>by_cases e2:c'=k
  ·omega
  ·simp only[if_pos e1,if_neg e2] at e
   have:=(h.pag c' (by omega)).lt
   omega
  ·simp only[if_neg e1,if_pos e2] at e
   have:=(h.pag b (by omega)).lt
   omega
  ·simp only[if_neg e1,if_neg e2] at e
   exact h.inj b c' (by omega) (by omega) e
 ·by_cases e:b=k
  ·simp only[if_pos e]
   have:=h.low.1
   have:=h.box.lt
   omega
  ·simp only[if_neg e]
   exact h.low.2.2.2 b (by omega)
theorem FN.done {w:World}{w0 Z X gb B P E:Nat}{g:Nat->Nat}(h:FN w w0 Z X gb B P E B g)(hB:1<=B/\B<=32)(hP:1<=P/\P<=32)(hE:E<=1048576):FW w (λk=>w0<=k/\k<w.heap.size) X ⟨gb,B,g,λ_=>P⟩ (newF B P E) where
 top:=h.top
 blk:=h.blk.congr λj hj=>by
  have hj':j<B*2:=hj
  unfold blc
  by_cases e:j%2=0
  ·rw[if_pos e,if_pos e,if_pos (by omega)];rfl
  ·rw[if_neg e,if_neg e];rfl
 pag:=λb hb=>h.pag b hb
 inj:=λb c hb hc e=>h.inj b c hb hc e
 dX:=⟨h.low.2.1,h.top.lt⟩
 db:=⟨h.low.2.2.1,h.blk.lt⟩
 dg:=λb hb=>⟨h.low.2.2.2 b hb,(h.pag b hb).lt⟩
 cb:=⟨Nat.le_refl _,by unfold maxLen;show B<=_;omega⟩
 cp:=λb hb=>⟨Nat.le_refl _,by unfold maxLen;show P<=_;omega⟩
 hB:=hB
 hP:=hP
 hE:=hE
 her:=λb _=>Nat.zero_le _
 hl:=⟨by show -9223372036854775808<=(0:Int);omega,by show(0:Int)<=_;omega⟩
 ht:=Nat.zero_le _
 len:=λb p _ _=>by simp[newF,blank]
 fin:=λk hk=>hk.2
theorem new_any (w:World)(B P E:Nat)(hB:1<=B/\B<=32)(hP:1<=P/\P<=32)(hE:E<=1048576) :
  Calls Tryz.prog 33 #[.agg #[.int .i64 B,.int .i64 P,.int .i64 E]] w λe w'=>∃X y,e=.returned (.tuple #[fptr X,.int .i64 0])/\FW w' (λk=>w.heap.size<=k/\k<w'.heap.size) X y (newF B P E)/\Below w.heap.size w w':=by
 obtain⟨i0,hi0,hx0,hx1,hx2⟩:=info_parts Tryz.infoB
 obtain⟨w1,hw1⟩:∃w1,w.alloc (.cells #[.int .i64 B,.int .i64 P,.int .i64 E] 76)=w1:=⟨_,rfl⟩
 have R1:Row w1 w.heap.size 76 3 (λj=>if j=0 then .int .i64 B else if j=1 then .int .i64 P else .int .i64 E):=by rw[<-hw1];exact Row.ofList w 76 _ _ 3 rfl
 obtain⟨Z,hZ⟩:∃Z,w.heap.size=Z:=⟨_,rfl⟩
 have hz1:w1.heap.size=w.heap.size+1:=by rw[<-hw1];simp
 have B1:Below w.heap.size w w1:=by rw[<-hw1];exact(Below.refl _ _).alloc (Nat.le_refl _) _
 rw[hZ] at R1 hz1
 have b0:w1.cell? ⟨Z,0,none⟩=some (.int .i64 B):=R1.cell (i:=0) (by omega)
 have b1:w1.cell? ⟨Z,1,none⟩=some (.int .i64 P):=R1.cell (i:=1) (by omega)
 have b2:w1.cell? ⟨Z,2,none⟩=some (.int .i64 E):=R1.cell (i:=2) (by omega)
 have hBI:(1:Int)<=B/\(B:Int)<=32:=by omega
 have hPI:(1:Int)<=P/\(P:Int)<=32:=by omega
 have hEI:(E:Int)<=1048576:=by omega
 have S0:Hid (w1.drew.cell? ⟨Z,0,none⟩=some (.int .i64 B)/\w1.drew.cell? ⟨Z,1,none⟩=some (.int .i64 P)/\w1.drew.cell? ⟨Z,2,none⟩=some (.int .i64 E)):=⟨b0,b1,b2⟩
 have hmk:(Instr.makeSlice 133 (.int .i64 (B:Int)) (.int .i64 (B:Int))).run Tryz.prog w1.drew=.ok (.slice (some ⟨w1.heap.size,0,none⟩) B B) (w1.drew.alloc (.cells (madeCells (Value.agg #[.slice none 0 0,.int .i64 0]).cells (B*2)) 139)):=by
  have:=run_make (P:=Tryz.prog) w1.drew 133 139 i0 (.agg #[.slice none 0 0,.int .i64 0]) Tryz.underlying133 hi0 hx0 .i64 .i64 (B:Int) (B:Int) (by omega) (by omega) (by rw[hx2];omega) (by omega)
  rw[hx1] at this
  simpa using this
 obtain⟨w2,hw2⟩:∃w2,w1.drew.alloc (.cells (madeCells (Value.agg #[.slice none 0 0,.int .i64 0]).cells (B*2)) 139)=w2:=⟨_,rfl⟩
 have R2:Rg w2 w1.heap.size 139 (B*2) (λi=>if i%2=0 then .slice none 0 0 else .int .i64 0):=by rw[<-hw2];exact Rg.made2 w1.drew 139 (B*2) _ _ _ rfl
 have B2:Below w1.heap.size w1 w2:=by rw[<-hw2];exact((Below.refl _ _).drew).alloc (Nat.le_refl _) _
 have hz2:w2.heap.size=Z+2:=by rw[<-hw2];simp[hz1]
 rw[hw2] at hmk
 rw[hz1] at R2 hmk
 have S2:Hid (w2.cell? ⟨Z,0,none⟩=some (.int .i64 B)/\w2.cell? ⟨Z,1,none⟩=some (.int .i64 P)/\w2.cell? ⟨Z,2,none⟩=some (.int .i64 E)):=
  ⟨(B2.cell (p:=⟨Z,0,none⟩) (by show Z<_;omega)).trans b0,(B2.cell (p:=⟨Z,1,none⟩) (by show Z<_;omega)).trans b1,(B2.cell (p:=⟨Z,2,none⟩) (by show Z<_;omega)).trans b2⟩
 go_enter Tryz.func33,Tryz.ntmps33
 go_wp2_with fail
 refine wp_region_pl (λ Y=>Y.cell? ⟨Z,0,none⟩=some (.int .i64 B)/\Y.cell? ⟨Z,1,none⟩=some (.int .i64 P)/\Y.cell? ⟨Z,2,none⟩=some (.int .i64 E)) ((0,0)::(1,0)::(2,0)::(3,1)::(4,0)::(5,1)::(6,0)::[]) (by kernel_rfl) (by kernel_rfl) ?_
 iterate 3 (apply wpP_go;rfl;rfl;exact S0.out;(rintro Y ⟨s0,s1,s2⟩;go_simp;exact rfl);intro K hK;go_simp;refine hK _ ?_;clear hK K)
 apply wpP_one
 rfl
 intro K hK
 go_simp
 refine hK _ _ S2.out ?_
 clear hK K
 iterate 1 (apply wpP_go;rfl;rfl;exact S2.out;(rintro Y ⟨s0,s1,s2⟩;go_simp;exact rfl);intro K hK;go_simp;refine hK _ ?_;clear hK K)
 apply wpP_one
 rfl
 intro K hK
 go_simp
 have hz3:(w2.alloc (.cells #[.int .i64 B,.int .i64 P,.int .i64 E,.slice (some ⟨Z+1,0,none⟩) B B,.bool false,.bool false,.int .i64 0,.int .u64 0] 135)).heap.size=Z+3:=by simp[hz2]
 have B3:Below w2.heap.size w2 (w2.alloc (.cells #[.int .i64 B,.int .i64 P,.int .i64 E,.slice (some ⟨Z+1,0,none⟩) B B,.bool false,.bool false,.int .i64 0,.int .u64 0] 135)):=(Below.refl _ _).alloc (Nat.le_refl _) _
 have R3:Row (w2.alloc (.cells #[.int .i64 B,.int .i64 P,.int .i64 E,.slice (some ⟨Z+1,0,none⟩) B B,.bool false,.bool false,.int .i64 0,.int .u64 0] 135)) (Z+2) 135 8 (flc (newF B P E) ⟨Z+1,B,λ_=>0,λ_=>P⟩):=by
  rw[<-hz2]
  exact Row.ofList w2 135 _ _ 8 rfl
 have S3:Hid ((w2.alloc (.cells #[.int .i64 B,.int .i64 P,.int .i64 E,.slice (some ⟨Z+1,0,none⟩) B B,.bool false,.bool false,.int .i64 0,.int .u64 0] 135)).cell? ⟨Z,0,none⟩=some (.int .i64 B)/\(w2.alloc (.cells #[.int .i64 B,.int .i64 P,.int .i64 E,.slice (some ⟨Z+1,0,none⟩) B B,.bool false,.bool false,.int .i64 0,.int .u64 0] 135)).cell? ⟨Z,1,none⟩=some (.int .i64 P)/\(w2.alloc (.cells #[.int .i64 B,.int .i64 P,.int .i64 E,.slice (some ⟨Z+1,0,none⟩) B B,.bool false,.bool false,.int .i64 0,.int .u64 0] 135)).cell? ⟨Z,2,none⟩=some (.int .i64 E)):=
  ⟨(B3.cell (p:=⟨Z,0,none⟩) (by show Z<_;omega)).trans S2.out.1,(B3.cell (p:=⟨Z,1,none⟩) (by show Z<_;omega)).trans S2.out.2.1,(B3.cell (p:=⟨Z,2,none⟩) (by show Z<_;omega)).trans S2.out.2.2⟩
 have row_rg:∀{W:World} {b t N:Nat} {v:Nat->Value},Row W b t N v->Rg W b t N v:=λh=>by obtain⟨cs,h1,_,h2⟩:=h;exact⟨cs,h1,h2⟩
 have HN:Hid (FN (w2.alloc (.cells #[.int .i64 B,.int .i64 P,.int .i64 E,.slice (some ⟨Z+1,0,none⟩) B B,.bool false,.bool false,.int .i64 0,.int .u64 0] 135)) Z Z (Z+2) (Z+1) B P E 0 (λ_=>0)):=by
  refine⟨((row_rg R1).ch (Ch.of_below B2 (λ_=>False)) id).ch (Ch.of_below B3 (λ_=>False)) id,row_rg R3,(R2.ch (Ch.of_below B3 (λ_=>False)) id).congr λj _=>?_,λb hb=>by omega,λb c hb=>by omega,by omega,by omega,by omega,λb hb=>by omega⟩
  by_cases e:j%2=0
  ·rw[if_pos e,if_pos e,if_neg (by omega)]
  ·rw[if_neg e,if_neg e]
 have HB:Hid (Below Z w (w2.alloc (.cells #[.int .i64 B,.int .i64 P,.int .i64 E,.slice (some ⟨Z+1,0,none⟩) B B,.bool false,.bool false,.int .i64 0,.int .u64 0] 135))):=by
  have:=bthen B1 (bthen B2 B3)
  rw[hZ] at this
  exact this
 refine hK _ _ S3.out ?_
 clear hK K
 clear R1 R2 R3 B1 B2 B3 b0 b1 b2 hmk hw1 hw2
 iterate 1 (apply wpP_go;rfl;rfl;exact S3.out;(rintro Y ⟨s0,s1,s2⟩;go_simp;exact rfl);intro K hK;go_simp;refine hK _ ?_;clear hK K)
 refine wpP_done ?_
 clear S0 S2 S3
 generalize w2.alloc (.cells #[.int .i64 B,.int .i64 P,.int .i64 E,.slice (some ⟨Z+1,0,none⟩) B B,.bool false,.bool false,.int .i64 0,.int .u64 0] 135)=w3 at *
 obtain⟨er,her,hes⟩:∃er:ByteArray,er=⟨(Lib.repeatL (⟨#[255]⟩:ByteArray).data.toList 64).toArray⟩/\Value.string er=str blank:=⟨_,rfl,by rfl⟩
 have HRP:=Hh (Tryz.strings_Repeat ⟨#[255]⟩ 64 w3 (by omega) (by show 1*64<=_;omega))
 rw[<-her] at HRP
 have HES:=Hh hes
 clear her hes
 go_wp2_with fail
 refine HRP.out.mono ?_
 rintro e w4 ⟨rfl,b4⟩
 have HN4:Hid (∃g,FN w4 Z Z (Z+2) (Z+1) B P E 0 g):=by
  have c:Ch (λ_=>False) w3 w4:=Ch.of_below b4 _
  have h:=HN.out
  exact⟨_,h.box.ch c id,h.top.ch c id,h.blk.ch c id,λb hb=>by omega,λb c hb=>by omega,h.low⟩
 have HB4:Hid (Below Z w w4):=HB.out.trans (b4.mono (by omega))
 have x3:w4.cell? ⟨Z+2,3,none⟩=some (.slice (some ⟨Z+1,0,none⟩) B B):=by
  obtain⟨g,h⟩:=HN4.out
  exact h.top.cell (i:=3) (by omega)
 clear HN HB b4 HRP hz3
 go_wp2_with fail
 clear x3
 go_loopw [45] (λz wr=>∃k:Nat,k<=B/\z=.int .i64 (k:Int)/\Hid (∃g,FN wr Z Z (Z+2) (Z+1) B P E k g)/\Hid (Below Z w wr)) (λz _=>B-(intOf z).toNat)
 case atStart=>exact⟨0,by omega,rfl,HN4,HB4⟩
 case round=>
  clear HN4 HB4
  obtain⟨k,hk,rfl,HN,HB⟩:=hrel
  by_cases hkB:k<B
  ·have y0:(k:Int)<B:=by omega
   obtain⟨g,hn⟩:=HN.out
   have S0:Hid (wr.drew.cell? ⟨Z+2,3,none⟩=some (.slice (some ⟨Z+1,0,none⟩) B B)/\wr.drew.cell? ⟨Z,1,none⟩=some (.int .i64 P)):=⟨hn.top.cell (i:=3) (by omega),hn.box.cell (i:=1) (by omega)⟩
   obtain⟨w5,hw5⟩:∃w5,(wr.alloc (.cells #[.string er] 9)).drew=w5:=⟨_,rfl⟩
   have B5:Below wr.heap.size wr w5:=by rw[<-hw5];exact((Below.refl _ _).alloc (Nat.le_refl _) _).drew
   have hz5:w5.heap.size=wr.heap.size+1:=by rw[<-hw5];simp
   have c5:w5.cell? ⟨wr.heap.size,0,none⟩=some (.string er):=by rw[<-hw5];exact cell_of_row _ _ 0 _ _ _ (heap_alloc_new wr _)
   have hX:=hn.top.lt
   have hZl:=hn.box.lt
   have S5:Hid (w5.cell? ⟨Z+2,3,none⟩=some (.slice (some ⟨Z+1,0,none⟩) B B)/\w5.cell? ⟨Z,1,none⟩=some (.int .i64 P)):=
    ⟨(B5.cell (p:=⟨Z+2,3,none⟩) hX).trans S0.out.1,(B5.cell (p:=⟨Z,1,none⟩) hZl).trans S0.out.2⟩
   have HRp:=Hh (repeat_any w5 wr.heap.size er P hP (by omega) c5)
   have HNh:=Hh hn
   have HB5:=Hh B5
   clear hn HN B5 c5
   go_wp2_with fail
   refine wp_region_pl (λ Y=>Y.cell? ⟨Z+2,3,none⟩=some (.slice (some ⟨Z+1,0,none⟩) B B)/\Y.cell? ⟨Z,1,none⟩=some (.int .i64 P)) ((0,0)::(1,0)::(2,0)::(3,0)::(4,0)::(5,0)::(7,0)::(8,0)::(6,1)::(9,1)::(10,0)::(11,0)::(12,1)::[]) (by kernel_rfl) (by kernel_rfl) ?_
   iterate 8 (apply wpP_go;rfl;rfl;exact S0.out;(rintro Y ⟨s0,s1⟩;go_simp;exact rfl);intro K hK;go_simp;refine hK _ ?_;clear hK K)
   apply wpP_one
   rfl
   intro K hK
   go_simp
   refine hK _ _ S5.out ?_
   clear hK K
   apply wpP_one
   rfl
   intro K hK
   go_simp
   refine HRp.out.mono ?_
   rintro e w6 ⟨g',rfl,hg',hr6,b6⟩
   have b56:Below wr.heap.size wr w6:=bthen HB5.out b6
   have S6:w6.cell? ⟨Z+2,3,none⟩=some (.slice (some ⟨Z+1,0,none⟩) B B)/\w6.cell? ⟨Z,1,none⟩=some (.int .i64 P):=
    ⟨(b6.cell (p:=⟨Z+2,3,none⟩) (by show Z+2<_;omega)).trans S5.out.1,(b6.cell (p:=⟨Z,1,none⟩) (by show Z<_;omega)).trans S5.out.2⟩
   refine hK _ _ S6 ?_
   clear hK K
   have S6h:=Hh S6
   iterate 2 (apply wpP_go;rfl;rfl;exact S6h.out;(rintro Y ⟨s0,s1⟩;go_simp;exact rfl);intro K hK;go_simp;refine hK _ ?_;clear hK K)
   have hblk:=HNh.out.blk.ch (Ch.of_below b56 (λ_=>False)) id
   have ck:w6.cell? ⟨Z+1,k*2,none⟩=some (.slice none 0 0):=by
    rw[hblk.cell (i:=k*2) (by omega)]
    have e1:k*2%2=0:=by omega
    have e2:k*2/2=k:=by omega
    simp[e1,e2]
   have fk:w6.frozen? ⟨Z+1,k*2,none⟩=false:=hblk.frozen _
   have HN6:Hid (∃g,FN (w6.setCell ⟨Z+1,k*2,none⟩ (.slice (some ⟨g',0,none⟩) P P)) Z Z (Z+2) (Z+1) B P E (k+1) g):=
    ⟨_,HNh.out.next hkB b56 (by omega) (by rw[HES.out] at hr6;exact hr6)⟩
   have HB6:Hid (Below Z w (w6.setCell ⟨Z+1,k*2,none⟩ (.slice (some ⟨g',0,none⟩) P P))):=
    (HB.out.trans (b56.mono (by omega))).setCell (p:=⟨Z+1,k*2,none⟩) (by show Z<=Z+1;omega) _
   have S7:Hid ((w6.setCell ⟨Z+1,k*2,none⟩ (.slice (some ⟨g',0,none⟩) P P)).cell? ⟨Z+2,3,none⟩=some (.slice (some ⟨Z+1,0,none⟩) B B)/\(w6.setCell ⟨Z+1,k*2,none⟩ (.slice (some ⟨g',0,none⟩) P P)).cell? ⟨Z,1,none⟩=some (.int .i64 P)):=by
    obtain⟨g,h⟩:=HN6.out
    exact⟨h.top.cell (i:=3) (by omega),h.box.cell (i:=1) (by omega)⟩
   clear hblk hr6 b6 b56 S6 S6h HNh HB
   apply wpP_one
   rfl
   intro K hK
   go_simp
   refine hK _ _ S7.out ?_
   clear hK K
   refine wpP_done ?_
   clear S0 S5 S7 ck fk
   generalize w6.setCell ⟨Z+1,k*2,none⟩ (.slice (some ⟨g',0,none⟩) P P)=V at *
   go_wp2_with fail
   go_roundw
   case rel=>exact⟨k+1,by omega,by go_num,HN6,HB6⟩
   case measure=>simp[intOf];omega
  ·have y0:¬(k:Int)<B:=by omega
   have ek:k=B:=by omega
   obtain⟨g,hn⟩:=HN.out
   rw[ek] at hn
   have HD:=Hh (hn.done hB hP hE)
   clear hn HN
   go_wp2_with fail
   go_ret2
   exact⟨Z+2,rfl,⟨_,HD.out⟩,HB.out⟩
section
def PS (w:World)(g o cap:Nat)(ps:List Str):Prop:=g<w.heap.size/\ps.length<=cap/\cap<=maxLen/\∀j,j<ps.length->w.cell? ⟨g,o+j,none⟩=some (str (ps.getD j []))
theorem PS.below {w w':World}{g o cap:Nat}{ps:List Str}(h:PS w g o cap ps)(b:Below w.heap.size w w'):PS w' g o cap ps:=
 ⟨Nat.lt_of_lt_of_le h.1 b.size,h.2.1,h.2.2.1,λj hj=>(b.cell (p:=⟨g,o+j,none⟩) h.1).trans (h.2.2.2 j hj)⟩
theorem PS.ch {C:Nat->Prop}{w w':World}{g o cap:Nat}{ps:List Str}(h:PS w g o cap ps)(b:Ch C w w')(hg:¬C g):PS w' g o cap ps:=
 ⟨Nat.lt_of_lt_of_le h.1 b.size,h.2.1,h.2.2.1,λj hj=>(b.cell ⟨g,o+j,none⟩ h.1 hg).trans (h.2.2.2 j hj)⟩
theorem PS.drop {w:World}{g o cap:Nat}{ps:List Str}(h:PS w g o cap ps){k:Nat}(hk:k<=ps.length):PS w g (o+k) (cap-k) (ps.drop k):=by
 obtain⟨h1,h2,h3,h4⟩:=h
 refine⟨h1,by rw[List.length_drop];omega,by omega,λj hj=>?_⟩
 rw[List.length_drop] at hj
 rw[Nat.add_assoc,h4 (k+j) (by omega),List.getD_eq_getElem?_getD,List.getD_eq_getElem?_getD,List.getElem?_drop]
theorem PS.take {w:World}{g o cap:Nat}{ps:List Str}(h:PS w g o cap ps){k:Nat}(hk:k<=ps.length):PS w g o cap (ps.take k):=by
 obtain⟨h1,h2,h3,h4⟩:=h
 refine⟨h1,by rw[List.length_take];omega,h3,λj hj=>?_⟩
 rw[List.length_take] at hj
 rw[h4 j (by omega),List.getD_eq_getElem?_getD,List.getD_eq_getElem?_getD,List.getElem?_take_of_lt (by omega)]
def blankP (ps:List Str):Bool:=ps.all λp=>zeros p==0
theorem isBlank_any {w:World}{g o cap n:Nat}{ps:List Str}(h:PS w g o cap ps)(hn:ps.length=n)(hl:∀p∈ps,p.length<=1000)(hps:n<=1000) :
  Calls Tryz.prog 87 #[.slice (some ⟨g,o,none⟩) n cap] w λe w'=>e=.returned (.bool (blankP ps))/\w=w':=by
 obtain⟨_,_,_,hc⟩:=h
 have HC:=Hh hc
 have HL:=Hh hl
 have HN:=Hh hn
 clear hc hl hn
 go_enter Tryz.func87,Tryz.ntmps87
 go_wp2_with fail
 go_loop [7] (λz=>∃i:Nat,i<=n/\z=.int .i64 (i:Int)/\Hid (∀j,j<i->zeros (ps.getD j [])=0)) (λz=>n-(intOf z).toNat)
 case atStart=>exact⟨0,by omega,rfl,λj hj=>by omega⟩
 case round=>
  obtain⟨i,hi,rfl,HJ⟩:=hrel
  by_cases hin:i<n
  ·have y0:(i:Int)<n:=by omega
   have hil:i<ps.length:=by have:=HN.out;omega
   have hgd:ps.getD i []=ps[i]:=by rw[List.getD_eq_getElem?_getD,List.getElem?_eq_getElem hil];rfl
   have hlen:=HL.out ps[i] (List.getElem_mem hil)
   have hc:=HC.out i (by have:=HN.out;omega)
   obtain⟨s,hs⟩:∃s:ByteArray,s=⟨(ps.getD i []).toArray⟩:=⟨_,rfl⟩
   have hsl:s.data.toList=ps.getD i []:=by rw[hs]
   rw[show str (ps.getD i [])=.string s by rw[hs]] at hc
   have hss:s.size<=1000000:=by rw[hs,hgd];show(ps[i].toArray).size<=_;simp;omega
   have HZ:=Hh (zeroBits_any s w hss)
   have hzb:=zeros_le (ps.getD i [])
   rw[hgd] at hzb
   by_cases hz:zeros (ps.getD i [])=0
   ·rw[hsl,hz] at HZ
    have HJ2:Hid (∀j,j<i+1->zeros (ps.getD j [])=0):=λj hj=>by
     rcases(by omega:j<i\/j=i) with h1|h1
     ·exact HJ.out j h1
     ·rw[h1];exact hz
    clear hsl hs hgd hz HJ hss
    go_wp2_with fail
    refine HZ.out.mono ?_
    rintro e w' ⟨rfl,rfl⟩
    go_wp2_with fail
    go_round
    case rel=>exact⟨i+1,by omega,by go_num,HJ2⟩
    case measure=>simp[intOf];omega
   ·have HF:Hid (blankP ps=false):=by
     show _=_
     unfold blankP
     rw[List.all_eq_false]
     exact⟨ps[i],List.getElem_mem hil,by rw[<-hgd];simpa using hz⟩
    rw[hsl] at HZ
    obtain⟨z,hzz⟩:∃z,zeros (ps.getD i [])=z:=⟨_,rfl⟩
    rw[hzz] at HZ hz
    have hzI:((z:Nat):Int)≠0:=by omega
    have hzd:((z:Int)==0)=false:=by simpa using hzI
    clear hsl hs hgd HJ hss hzb hzz
    go_wp2_with fail
    refine HZ.out.mono ?_
    rintro e w' ⟨rfl,rfl⟩
    go_wp2_with fail
    go_ret
    rw[HF.out]
    exact⟨rfl,rfl⟩
  ·have y0:¬(i:Int)<n:=by omega
   have HF:Hid (blankP ps=true):=by
    show _=_
    unfold blankP
    rw[List.all_eq_true]
    intro x hx
    obtain⟨j,hj,rfl⟩:=List.getElem_of_mem hx
    have:=HJ.out j (by have:=HN.out;omega)
    rw[List.getD_eq_getElem?_getD,List.getElem?_eq_getElem hj] at this
    simpa using this
   go_wp2_with fail
   go_ret
   rw[HF.out]
   exact⟨rfl,rfl⟩
theorem field_B (a b c:Value)(w:World):(Instr.field 76 (.agg #[a,b,c]) 0).run Tryz.prog w=.ok a w:=by kernel_rfl
theorem field_P (a b c:Value)(w:World):(Instr.field 76 (.agg #[a,b,c]) 1).run Tryz.prog w=.ok b w:=by kernel_rfl
section
variable {w:World}{D:Nat->Prop}{X:Nat}{y:FLay}{fl:FL}
theorem usable_any (h:FW w D X y fl):Calls Tryz.prog 84 #[fptr X] w λe w'=>e=.returned (.bool (decide (2<=fl.B)&&decide (2<=fl.P)))/\Below w.heap.size w w':=by
 have HS:=Hh (shape_any h)
 have hB:=h.hB
 have hP:=h.hP
 clear h
 go_enter Tryz.func84,Tryz.ntmps84
 go_wp2_with fail
 refine HS.out.mono ?_
 rintro e w1 ⟨rfl,b1⟩
 have B1:=Hh b1
 clear b1 HS
 go_wp2_with fail
 all_goals
  go_ret
  refine⟨?_,B1.out.alloc B1.out.size _⟩
  show Ending.returned (Value.bool _)=Ending.returned (Value.bool _)
  congr 2
  rw[Bool.eq_iff_iff]
  simp at *
  omega
def pgsF (fl:FL)(b:Nat):List Str:=(List.range fl.P).map (fl.pg b)
theorem pgsF_len (fl:FL)(b:Nat):(pgsF fl b).length=fl.P:=by simp[pgsF]
theorem pgsF_get (fl:FL)(b j:Nat)(h:j<fl.P):(pgsF fl b).getD j []=fl.pg b j:=by
 unfold pgsF
 rw[List.getD_eq_getElem?_getD,List.getElem?_map,List.getElem?_range h]
 rfl
theorem readBlock_any (h:FW w D X y fl){b:Nat}(hb:b<fl.B):Calls Tryz.prog 86 #[fptr X,.int .i64 b] w λe w'=>Below w.heap.size w w' /\
  ((fl.off=true/\e=.returned (.tuple #[.slice none 0 0,.int .i64 16]))\/(fl.off=false/\∃g,e=.returned (.tuple #[.slice (some ⟨g,0,none⟩) fl.P fl.P,.int .i64 0])/\w.heap.size<=g/\PS w' g 0 fl.P (pgsF fl b))):=by
 obtain⟨i0,hi0,hx0,hx1,hx2⟩:=info_parts Tryz.infoS
 have HS:=Hh (shape_any h)
 have hP:=h.hP
 have H:=Hh h
 clear h
 go_enter Tryz.func86,Tryz.ntmps86
 go_wp2_with fail
 refine HS.out.mono ?_
 rintro e w1 ⟨rfl,b1⟩
 have hfp:=field_P (.int .i64 fl.B) (.int .i64 fl.P) (.int .i64 fl.E) w1
 have hmk:(Instr.makeSlice 37 (.int .i64 (fl.P:Int)) (.int .i64 (fl.P:Int))).run Tryz.prog w1=.ok (.slice (some ⟨w1.heap.size,0,none⟩) fl.P fl.P) (w1.alloc (.cells (madeCells (Value.string ⟨#[]⟩).cells fl.P) 9)):=by
  have:=run_make (P:=Tryz.prog) w1 37 9 i0 (.string ⟨#[]⟩) Tryz.underlying37 hi0 hx0 .i64 .i64 (fl.P:Int) (fl.P:Int) (by omega) (by omega) (by rw[hx2];omega) (by omega)
  rw[hx1] at this
  simpa using this
 have R1:=Rg.made w1 9 fl.P (.string ⟨#[]⟩) rfl
 have B1:Below w.heap.size w (w1.alloc (.cells (madeCells (Value.string ⟨#[]⟩).cells fl.P) 9)):=b1.alloc b1.size _
 have hgl:=b1.size
 obtain⟨w2,hw2⟩:∃w2,w1.alloc (.cells (madeCells (Value.string ⟨#[]⟩).cells fl.P) 9)=w2:=⟨_,rfl⟩
 obtain⟨g,hg⟩:∃g,w1.heap.size=g:=⟨_,rfl⟩
 rw[hw2,hg] at hmk R1
 rw[hw2] at B1
 rw[hg] at hgl
 have HR:Hid (Rg w2 g 9 fl.P (λj=>if j<0 then str (fl.pg b j) else str [])):=R1.congr λj _=>by rw[if_neg (by omega)]
 have HB:=Hh B1
 clear R1 B1 b1 hw2 hg
 go_wp2_with fail
 clear hmk HS hfp
 go_loopw [16] (λz wr=>∃k:Nat,k<=fl.P/\z=.int .i64 (k:Int)/\Hid (0<k->fl.off=false)/\Hid (Rg wr g 9 fl.P (λj=>if j<k then str (fl.pg b j) else str []))/\Hid (Below w.heap.size w wr)) (λz _=>fl.P-(intOf z).toNat)
 case atStart=>exact⟨0,by omega,rfl,λh=>by omega,HR,HB⟩
 case round=>
  clear HR HB
  obtain⟨k,hk,rfl,HO,HR,HB⟩:=hrel
  by_cases hkP:k<fl.P
  ·have y0:(k:Int)<fl.P:=by omega
   have HRd:=Hh (read_any (H.out.below HB.out) hb hkP)
   unfold readF at HRd
   rcases ho:fl.off with _|_
   ·rw[ho,if_neg (by simp)] at HRd
    have ck:wr.cell? ⟨g,k,none⟩=some (str []):=by rw[HR.out.cell hkP,if_neg (by omega)]
    have fk:=HR.out.frozen k
    have HR2:Hid (Rg (wr.setCell ⟨g,k,none⟩ (str (fl.pg b k))) g 9 fl.P (λj=>if j<k+1 then str (fl.pg b j) else str [])):=(HR.out.set hkP _).congr λj hj=>by
     by_cases e:j=k
     ·subst e;rw[upd_hit,if_pos (by omega)]
     ·rw[upd_miss _ _ e]
      by_cases e2:j<k
      ·rw[if_pos e2,if_pos (by omega)]
      ·rw[if_neg e2,if_neg (by omega)]
    have HB2:Hid (Below w.heap.size w (wr.setCell ⟨g,k,none⟩ (str (fl.pg b k)))):=HB.out.setCell (p:=⟨g,k,none⟩) hgl _
    obtain⟨pv,hpv⟩:∃pv:ByteArray,str (fl.pg b k)=.string pv:=⟨_,rfl⟩
    have HRe:Hid (Calls Tryz.prog 133 #[fptr X,.int .i64 b,.int .i64 k] wr λe w'=>e=.returned (.tuple #[.string pv,.int .i64 0])/\wr=w'):=by rw[<-hpv];exact HRd
    rw[hpv] at HR2 HB2
    clear hpv HR HB HRd HO
    go_wp2_with fail
    refine HRe.out.mono ?_
    rintro e w' ⟨rfl,rfl⟩
    go_wp2_with fail
    go_roundw
    case rel=>exact⟨k+1,by omega,by go_num,(λ_=>trivial),HR2,HB2⟩
    case measure=>simp[intOf];omega
   ·rw[ho,if_pos rfl] at HRd
    go_wp2_with fail
    refine HRd.out.mono ?_
    rintro e w' ⟨rfl,rfl⟩
    go_wp2_with fail
    go_ret2
    exact⟨HB.out,.inl ⟨ho,rfl⟩⟩
  ·have y0:¬(k:Int)<fl.P:=by omega
   have ek:k=fl.P:=by omega
   have HPS:Hid (PS wr g 0 fl.P (pgsF fl b)):=by
    refine⟨HR.out.lt,by rw[pgsF_len];exact Nat.le_refl _,by unfold maxLen;omega,λj hj=>?_⟩
    rw[pgsF_len] at hj
    rw[Nat.zero_add,HR.out.cell hj,if_pos (by omega),pgsF_get fl b j hj]
   have HOF:Hid (fl.off=false):=HO.out (by omega)
   go_wp2_with fail
   go_ret2
   exact⟨HB.out,.inr ⟨HOF.out,g,rfl,hgl,HPS.out⟩⟩
end
end
def numB (l:Str):Nat:=l.foldl (λn b=>n*256+b.toNat) 0
theorem numB_snoc (l:Str)(b:UInt8):numB (l++[b])=numB l*256+b.toNat:=by simp[numB]
theorem numB_go:∀(l:Str) (a:Nat),l.foldl (λn b=>n*256+b.toNat) a<(a+1)*256^l.length
 | [],a=>by simp
 | b::l,a=>by
  have h1:=numB_go l (a*256+b.toNat)
  have hb:=b.toNat_lt
  have h2:(a*256+b.toNat+1)*256^l.length<=((a+1)*256)*256^l.length:=Nat.mul_le_mul_right _ (by omega)
  have h3:(a+1)*256^(b::l).length=((a+1)*256)*256^l.length:=by
   rw[List.length_cons,Nat.pow_succ,Nat.mul_comm (256^l.length) 256,Nat.mul_assoc]
  rw[h3]
  exact Nat.lt_of_lt_of_le h1 h2
theorem numB_lt (l:Str):numB l<256^l.length:=by
 have:=numB_go l 0
 rw[Nat.zero_add,Nat.one_mul] at this
 exact this
theorem or_low (x b:Nat)(hb:b<256):x*256 ||| b=x*256+b:=by
 have:=Nat.two_pow_add_eq_or_of_lt (i:=8) hb x
 rw[show 2^8*x=x*256 by omega] at this
 exact this.symm
theorem number_any (s:ByteArray)(w:World)(hs:s.size=8) :
  Calls Tryz.prog 100 #[.string s] w λe w'=>e=.returned (.int .u64 (numB s.data.toList:Nat))/\w=w':=by
 have hsz:s.data.toList.length=8:=by rw[Array.length_toList];exact hs
 go_enter Tryz.func100,Tryz.ntmps100
 go_wp2_with fail
 go_loop [3,7] (λx z=>∃i:Nat,i<=8/\z=.int .i64 (i:Int)/\x=.int .u64 (numB (s.data.toList.take i):Nat)) (λ_ z=>8-(intOf z).toNat)
 case atStart=>exact⟨0,by omega,rfl,rfl⟩
 case round=>
  obtain⟨i,hi,rfl,rfl⟩:=hrel
  by_cases hlt:i<8
  ·have y0:(i:Int)<8:=by omega
   obtain⟨x,hx⟩:∃x,numB (s.data.toList.take i)=x:=⟨_,rfl⟩
   have hxl:x<72057594037927936:=by
    have h1:=numB_lt (s.data.toList.take i)
    rw[hx,List.length_take,hsz] at h1
    have h2:256^(min i 8)<=256^7:=Nat.pow_le_pow_right (by omega) (by omega)
    omega
   have hb:(s[i]'(by omega)).toNat<256:=(s[i]'(by omega)).toNat_lt
   have hn:numB (s.data.toList.take (i+1))=x*256+(s[i]'(by omega)).toNat:=by
    rw[List.take_succ_eq_append_getElem (by omega),numB_snoc,hx]
    rfl
   have HN:=Hh hn
   have ho:bits .or .u64 ((x:Int)*256) ((s[i]'(by omega)).toNat:Int)=((x*256+(s[i]'(by omega)).toNat:Nat):Int):=by
    have:=bits_or_u64_nat (x*256) (s[i]'(by omega)).toNat (by omega) (by omega)
    rw[or_low _ _ hb] at this
    rw[<-this]
    rfl
   rw[hx]
   clear hn hx
   go_wp2_with fail
   exact⟨⟨i+1,by omega,by go_num,by rw[HN.out];simp⟩,by simp[intOf];omega⟩
  ·have y0:¬(i:Int)<8:=by omega
   have e:s.data.toList.take i=s.data.toList:=List.take_of_length_le (by omega)
   rw[e]
   go_wp2_with fail
   go_ret
   exact⟨rfl,rfl⟩
theorem Rg.bt {w:World}{g n:Nat}{l:Str}(h:Rg w g 5 n (λi=>.int .u8 ((l.getD i 0).toNat:Int)))(hl:l.length=n):Bt w g n l:=by
 obtain⟨cs,hh,h2⟩:=h
 exact⟨cs,(0,0),hh,hl,h2,λi _=>by simp⟩
def be8 (n:Nat):Str:=(List.range 8).map λj=>UInt8.ofNat (n/2^(8*(7-j))%256)
def hdr (n:Nat):Str:=recd 3 [] (be8 n)
theorem Tryz.infoU:(Tryz.prog.info? 5).map (λi=>(i.zero,i.size,i.bytes))=some (some (.int .u8 0),1,1):=by kernel_rfl
theorem header_any (n:Nat)(w:World) :
  Calls Tryz.prog 91 #[.int .u64 n] w λe w'=>e=.returned (str (hdr n))/\Below w.heap.size w w':=by
 obtain⟨i0,hi0,hx0,hx1,hx2⟩:=info_parts Tryz.infoU
 have hmk:(Instr.makeSlice 99 (.int .i64 8) (.int .i64 8)).run Tryz.prog w=.ok (.slice (some ⟨w.heap.size,0,none⟩) 8 8) (w.alloc (.cells (madeCells (Value.int .u8 0).cells 8) 5)):=by
  have:=run_make (P:=Tryz.prog) w 99 5 i0 (.int .u8 0) Tryz.underlying99 hi0 hx0 .i64 .i64 8 8 (by omega) (by omega) (by rw[hx2];omega) (by omega)
  rw[hx1] at this
  simpa using this
 have R1:Bt (w.alloc (.cells (madeCells (Value.int .u8 0).cells 8) 5)) w.heap.size 8 (List.replicate 8 0):=Rg.bt ((Rg.made w 5 8 (.int .u8 0) rfl).congr λi hi=>by
  rw[List.getD_eq_getElem?_getD,List.getElem?_replicate,if_pos hi];rfl) (by simp)
 have B1:Below w.heap.size w (w.alloc (.cells (madeCells (Value.int .u8 0).cells 8) 5)):=(Below.refl _ _).alloc (Nat.le_refl _) _
 obtain⟨w1,hw1⟩:∃w1,w.alloc (.cells (madeCells (Value.int .u8 0).cells 8) 5)=w1:=⟨_,rfl⟩
 obtain⟨g,hg⟩:∃g,w.heap.size=g:=⟨_,rfl⟩
 rw[hw1] at R1 B1 hmk
 rw[hg] at R1 hmk
 have HB:=Hh B1
 have HR:Hid (∃c:Str,Bt w1 g 8 c/\∀j,j<8->c.getD j 0=if 8<=j+0 then UInt8.ofNat (n/2^(8*(7-j))%256) else 0):=⟨_,R1,λj hj=>by
  rw[if_neg (by omega),List.getD_eq_getElem?_getD,List.getElem?_replicate,if_pos hj];rfl⟩
 clear R1 B1 hw1
 go_enter Tryz.func91,Tryz.ntmps91
 go_wp2_with fail
 clear hmk
 go_loopw [8] (λz wr=>∃i:Nat,i<=8/\z=.int .i64 (i:Int)/\Hid (∃c:Str,Bt wr g 8 c/\∀j,j<8->c.getD j 0=if 8<=j+i then UInt8.ofNat (n/2^(8*(7-j))%256) else 0)/\Hid (Below w.heap.size w wr)) (λz _=>8-(intOf z).toNat)
 case atStart=>exact⟨0,by omega,rfl,HR,HB⟩
 case round=>
  clear HR HB
  obtain⟨i,hi,rfl,HR,HB⟩:=hrel
  by_cases hlt:i<8
  ·have y0:(i:Int)<8:=by omega
   obtain⟨c,hbt,hcj⟩:=HR.out
   have hk7:7-i<8:=by omega
   have cb:=hbt.cell hk7
   have fb:=hbt.frozen hk7
   obtain⟨u,hu⟩:∃u:UInt8,u=UInt8.ofNat (n/2^(8*i)%256):=⟨_,rfl⟩
   have hue:((n:Int)/2^(8*i)%256)=(u.toNat:Int):=by
    rw[hu,u8_of (by omega)]
    simp
   have HR2:Hid (∃c:Str,Bt (wr.setCell ⟨g,7-i,none⟩ (.int .u8 ((n:Int)/2^(8*i)%256))) g 8 c/\∀j,j<8->c.getD j 0=if 8<=j+(i+1) then UInt8.ofNat (n/2^(8*(7-j))%256) else 0):=by
    rw[hue]
    refine⟨_,hbt.set hk7 u,λj hj=>?_⟩
    have hcl:c.length=8:=by obtain⟨_,_,_,h1,_⟩:=hbt;exact h1
    by_cases e:j=7-i
    ·subst e
     rw[if_pos (by omega),List.getD_eq_getElem?_getD,List.getElem?_set_self (by omega),hu]
     have:7-(7-i)=i:=by omega
     rw[this];rfl
    ·rw[List.getD_eq_getElem?_getD,List.getElem?_set_ne (Ne.symm e),<-List.getD_eq_getElem?_getD,hcj j hj]
     by_cases e2:8<=j+i
     ·rw[if_pos e2,if_pos (by omega)]
     ·rw[if_neg e2,if_neg (by omega)]
   have HB2:Hid (Below w.heap.size w (wr.setCell ⟨g,7-i,none⟩ (.int .u8 ((n:Int)/2^(8*i)%256)))):=HB.out.setCell (p:=⟨g,7-i,none⟩) (by show w.heap.size<=g;omega) _
   clear hcj hbt HR HB hu hue
   go_wp2_with fail
   exact⟨⟨i+1,by omega,by go_num,HR2,HB2⟩,by simp[intOf];omega⟩
  ·have y0:¬(i:Int)<8:=by omega
   obtain⟨c,hbt,hcj⟩:=HR.out
   have hcl:c.length=8:=by obtain⟨_,_,_,h1,_⟩:=hbt;exact h1
   have hce:c=be8 n:=by
    apply List.ext_getElem
    ·rw[be8,List.length_map,List.length_range,hcl]
    ·intro j h1 h2
     have:=hcj j (by omega)
     rw[if_pos (by omega),List.getD_eq_getElem?_getD,List.getElem?_eq_getElem h1] at this
     simp only[Option.getD_some] at this
     rw[this]
     have h3:(be8 n)[j]? = some (UInt8.ofNat (n/2^(8*(7-j))%256)):=by
      unfold be8
      rw[List.getElem?_map,List.getElem?_range (by omega)]
      rfl
     rw[List.getElem?_eq_getElem h2] at h3
     exact(Option.some.inj h3).symm
   have hcs:=hbt.str 8
   obtain⟨v,hv⟩:∃v:ByteArray,v=⟨c.toArray⟩:=⟨_,rfl⟩
   rw[<-hv] at hcs
   have hvs:v.size=8:=by rw[hv];show c.toArray.size=8;simpa using hcl
   have HE:=Hh (encode_any 3 ⟨#[]⟩ v wr (by omega) (by decide) (by omega))
   have HV:Hid (v.data.toList=be8 n):=by rw[hv];exact hce
   clear hcj hbt HR hv hce hcl
   go_wp2_with fail
   refine HE.out.mono ?_
   rintro e w' ⟨rfl,b'⟩
   have HB2:Hid (Below w.heap.size w w'):=bthen HB.out b'
   clear b'
   go_wp2_with fail
   go_ret
   refine⟨?_,HB2.out⟩
   unfold hdr
   rw[<-HV.out]
   rfl
section
def pad (d:Str):Str:=d++List.replicate (pgs d.length*64-d.length) 255
def chunks (n:Nat)(d:Str):List Str:=(List.range n).map λi=>(d.drop (64*i)).take 64
def pagesR (d:Str):List Str:=chunks (pgs d.length) (pad d)
def wrL:FL->Nat->Nat->List Str->Int×FL
 | fl,_,_,[]=>(0,fl)
 | fl,b,p,c::r=>if (progF fl b p c).1=0 then wrL (progF fl b p c).2 b (p+1) r else progF fl b p c
theorem pgs_le (n:Nat):n<=pgs n*64:=by unfold pgs;omega
theorem pad_len (d:Str):(pad d).length=pgs d.length*64:=by
 have:=pgs_le d.length
 simp[pad];omega
theorem progF_same (fl:FL)(b p:Nat)(s:Str):(progF fl b p s).2.B=fl.B/\(progF fl b p s).2.P=fl.P:=by
 have h:=intF_same fl
 unfold progF
 split
 ·exact⟨rfl,rfl⟩
 ·split
  ·exact⟨rfl,rfl⟩
  ·split
   ·exact⟨h.1,h.2.1⟩
   ·exact⟨h.1,h.2.1⟩
theorem ext_toList (t:ByteArray)(a e:Nat):(t.extract a e).data.toList=(t.data.toList.drop a).take (e-a):=by
 rw[ByteArray.data_extract,Array.toList_extract,List.extract_eq_take_drop]
theorem ext_end (t:ByteArray)(a:Nat):(t.extract a t.size).data.toList=t.data.toList.drop a:=by
 rw[ext_toList,List.take_of_length_le]
 rw[List.length_drop,Array.length_toList]
 exact Nat.le_refl _
theorem ext_size (t:ByteArray)(a e:Nat)(h:e<=t.size):(t.extract a e).size=e-a:=by
 rw[ByteArray.size_extract];omega
theorem not_empty {t:ByteArray}(h:0<t.size):(!t.toList.isEmpty)=true:=by
 rw[ByteArray.toList_eq]
 rcases h2:t.data.toList with _|⟨a,b⟩
 ·have:t.data.toList.length=0:=by rw[h2];rfl
  rw[Array.length_toList] at this
  have:t.size=0:=this
  omega
 ·rfl
theorem is_empty {t:ByteArray}(h:t.size=0):(!t.toList.isEmpty)=false:=by
 rw[ByteArray.toList_eq]
 have:t.data.toList.length=0:=by rw[Array.length_toList];exact h
 rw[List.eq_nil_of_length_eq_zero this];rfl
theorem repeatL_byte (x:UInt8):∀c,Lib.repeatL [x] c=List.replicate c x
 | 0=>rfl
 | c+1=>by rw[Lib.repeatL,repeatL_byte x c,List.replicate_succ];rfl
theorem chunks_drop (n k:Nat)(d:Str)(h:k<n):(chunks n d).drop k=(d.drop (64*k)).take 64::(chunks n d).drop (k+1):=by
 have hl:k<(chunks n d).length:=by simpa[chunks] using h
 rw[List.drop_eq_getElem_cons hl]
 congr 1
 simp[chunks]
section
variable {w:World}{D:Nat->Prop}{X:Nat}{y:FLay}{fl:FL}
theorem write_any (h:FW w D X y fl){b p:Nat}(hb:b<fl.B){d:ByteArray}(hd:d.size<=1000)(hp:p+pgs d.size<=fl.P) :
  Calls Tryz.prog 90 #[fptr X,.int .i64 b,.int .i64 p,.string d] w λe w'=>e=.returned (.int .i64 (wrL fl b p (pagesR d.data.toList)).1)/\FW w' D X y (wrL fl b p (pagesR d.data.toList)).2/\Ch D w w':=by
 obtain⟨n,hn⟩:∃n,pgs d.size=n:=⟨_,rfl⟩
 have hpl:=pgs_le d.size
 have hP:=h.hP
 rw[hn] at hp hpl
 have HPG:=Hh (pagesOf_any d.size w (by omega))
 rw[hn] at HPG
 have hrl:(⟨#[255]⟩:ByteArray).size*(n*64-d.size)<=140737488355328:=by show 1*_<=_;omega
 have HRP:=Hh (Tryz.strings_Repeat ⟨#[255]⟩ (n*64-d.size) w (by omega) hrl)
 obtain⟨rp,hrp⟩:∃rp:ByteArray,rp=⟨(Lib.repeatL (⟨#[255]⟩:ByteArray).data.toList (n*64-d.size)).toArray⟩:=⟨_,rfl⟩
 rw[<-hrp] at HRP
 have hcast:(n:Int)*64-(d.size:Int)=((n*64-d.size:Nat):Int):=by omega
 have hnl:n<=32:=by omega
 have H:=Hh h
 clear h
 go_enter Tryz.func90,Tryz.ntmps90
 go_wp2_with fail
 refine HPG.out.mono ?_
 rintro e w1 ⟨rfl,rfl⟩
 go_wp2_with fail
 refine HRP.out.mono ?_
 rintro e w2 ⟨rfl,b2⟩
 have hrs:rp.size=n*64-d.size:=by
  rw[hrp]
  show(Lib.repeatL [255] (n*64-d.size)).toArray.size=_
  rw[repeatL_byte];simp
 have hq:¬9223372036854775807<d.size+(n*64-d.size):=by omega
 obtain⟨da,hda⟩:∃da:ByteArray,d++rp=da:=⟨_,rfl⟩
 have hdl:da.data.toList=pad d.data.toList:=by
  rw[<-hda,ByteArray.data_append,Array.toList_append]
  unfold pad
  rw[Array.length_toList,show d.data.size=d.size from rfl,hn,hrp]
  show _++(Lib.repeatL [255] (n*64-d.size)).toArray.toList=_
  rw[repeatL_byte]
 have hds:da.size=n*64:=by
  rw[<-hda,ByteArray.size_append,hrs];omega
 have H2:=Hh (H.out.below b2)
 have K2:Hid (Ch D w w2):=Ch.of_below b2 _
 have hpg:pagesR d.data.toList=chunks n da.data.toList:=by
  unfold pagesR
  rw[hdl,Array.length_toList,show d.data.size=d.size from rfl,hn]
 have HPL:=Hh hpg
 clear hpg hdl b2 HRP HPG H hrp
 go_wp2_with fail
 clear hrs hda
 obtain⟨dl,hdl⟩:∃dl,da.data.toList=dl:=⟨_,rfl⟩
 rw[hdl] at HPL
 have hdll:dl.length=n*64:=by rw[<-hdl,Array.length_toList];exact hds
 have HLL:=Hh hdll
 have HW0:Hid (∃f,FW w2 D X y f/\f.B=fl.B/\f.P=fl.P/\wrL fl b p (chunks n dl)=wrL f b (p+0) ((chunks n dl).drop 0)):=⟨fl,H2.out,rfl,rfl,rfl⟩
 clear H2 hdll
 go_loopw [2,3] (λt2 t3 wr=>∃(k:Nat) (dk:ByteArray),k<=n/\t2=.int .i64 ((p+k:Nat):Int)/\t3=.string dk/\dk.size=(n-k)*64/\Hid (dk.data.toList=dl.drop (64*k))/\Hid (∃f,FW wr D X y f/\f.B=fl.B/\f.P=fl.P/\wrL fl b p (chunks n dl)=wrL f b (p+k) ((chunks n dl).drop k))/\Hid (Ch D w wr)) (λt2 _ _=>p+n-(intOf t2).toNat)
 case atStart=>exact⟨0,da,by omega,rfl,rfl,by omega,by rw[hdl];rfl,HW0,K2⟩
 case round=>
  clear HW0 K2
  obtain⟨k,dk,hk,rfl,rfl,hdk,HDK,HW,HC⟩:=hrel
  by_cases hkn:k<n
  ·have hd0:64<=dk.size:=by
    rw[hdk]
    have:1<=n-k:=by omega
    omega
   have hE:=not_empty (t:=dk) (by omega)
   obtain⟨f,hf,fB,fP,hwr⟩:=HW.out
   have hx1:=ext_toList dk 0 64
   have hx2:=ext_end dk 64
   have hs1:=ext_size dk 0 64 hd0
   have hs2:=ext_size dk 64 dk.size (Nat.le_refl _)
   have HPR:=Hh (program_any hf (b:=b) (p:=p+k) (by omega) (by omega) (d:=dk.extract 0 64) hs1)
   rw[hx1,HDK.out] at HPR
   have hch:=chunks_drop n k dl hkn
   rw[hch] at hwr
   have hc0:((dl.drop (64*k)).drop 0).take (64-0)=(dl.drop (64*k)).take 64:=rfl
   rw[hc0] at HPR
   have hsame:=progF_same f b (p+k) ((dl.drop (64*k)).take 64)
   by_cases hr:(progF f b (p+k) ((dl.drop (64*k)).take 64)).1=0
   ·have HW2:Hid (∀V,FW V D X y (progF f b (p+k) ((dl.drop (64*k)).take 64)).2->∃f,FW V D X y f/\f.B=fl.B/\f.P=fl.P/\wrL fl b p (chunks n dl)=wrL f b (p+(k+1)) ((chunks n dl).drop (k+1))):=λ V hV=>
     ⟨_,hV,by rw[hsame.1,fB],by rw[hsame.2,fP],by rw[hwr,wrL,if_pos hr];rfl⟩
    rw[hr] at HPR
    have HD2:Hid ((dk.extract 64 ((n-k)*64)).data.toList=dl.drop (64*(k+1))):=by
     show _=_
     rw[<-hdk,hx2,HDK.out,List.drop_drop]
     rfl
    have hs3:(dk.extract 64 ((n-k)*64)).size=(n-(k+1))*64:=by rw[<-hdk,hs2,hdk];omega
    generalize (progF f b (p+k) ((dl.drop (64*k)).take 64)).2=f2 at *
    clear hx1 hx2 hs1 hs2 hch hwr hc0 hsame hr hf HW HDK
    go_wp2_with fail
    refine HPR.out.mono ?_
    rintro e w4 ⟨rfl,h4,k4⟩
    have HW4:=Hh (HW2.out w4 h4)
    have HC4:Hid (Ch D w w4):=HC.out.trans k4
    clear h4 k4 HPR HC HW2
    go_wp2_with fail
    exact⟨⟨k+1,_,by omega,by go_num,rfl,hs3,HD2,HW4,HC4⟩,by simp[intOf];omega⟩
   ·have HW2:Hid (wrL fl b p (chunks n dl)=progF f b (p+k) ((dl.drop (64*k)).take 64)):=by
     show _=_
     rw[hwr,wrL,if_neg hr]
    obtain⟨r,hrr⟩:∃r,(progF f b (p+k) ((dl.drop (64*k)).take 64)).1=r:=⟨_,rfl⟩
    rw[hrr] at HPR hr
    have hrd:(r==0)=false:=by simpa using hr
    have HRR:=Hh hrr
    clear hx1 hx2 hs1 hs2 hch hwr hc0 hsame hf HW HDK hrr
    go_wp2_with fail
    refine HPR.out.mono ?_
    rintro e w4 ⟨rfl,h4,k4⟩
    have H4:=Hh h4
    have HC4:Hid (Ch D w w4):=HC.out.trans k4
    clear h4 k4 HPR HC
    go_wp2_with fail
    go_ret
    rw[HPL.out,HW2.out,HRR.out]
    exact⟨rfl,H4.out,HC4.out⟩
  ·have hd0:dk.size=0:=by
    have:n-k=0:=by omega
    rw[hdk,this]
   have hE:=is_empty hd0
   have ek:k=n:=by omega
   have HF:Hid (FW wr D X y (wrL fl b p (pagesR d.data.toList)).2/\(wrL fl b p (pagesR d.data.toList)).1=0):=by
    obtain⟨f,hf,fB,fP,hwr⟩:=HW.out
    have:(chunks n dl).drop k=[]:=by rw[ek];exact List.drop_of_length_le (by simp[chunks])
    rw[this,wrL] at hwr
    show _/\_
    rw[HPL.out,hwr]
    exact⟨hf,rfl⟩
   go_wp2_with fail
   go_ret
   rw[HF.out.2]
   exact⟨rfl,HF.out.1,HC.out⟩
end
end
end Go.Proofs.YtdinbpdpalgohaaGreatDoor
