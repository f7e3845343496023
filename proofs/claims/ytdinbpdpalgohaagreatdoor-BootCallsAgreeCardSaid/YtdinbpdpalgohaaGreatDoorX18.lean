/- Walks and laws: DJ DE DF CA CB CC BU CF Pw. Conditions: those that each theorem names. -/
import Derived.ProofKit
import Derived.OpenShut
import Derived.ShutString
import Derived.ChangeOld
import Derived.ChangeMaps5
import Derived.Below
import Derived.Deep.Slices
import Derived.Deep.Fields
import Derived.Deep.DeepHandedRow
import Derived.Lib.LaidTab
import Derived.Deep.MidRow
import Derived.Test.YtdinbpdpalgohaaGreatDoorX17
import Derived.Test.YtdinbpdpalgohaaGreatDoorX15
import Derived.Test.YtdinbpdpalgohaaGreatDoorX7
import Derived.Test.YtdinbpdpalgohaaGreatDoorCards
import Derived.Test.YtdinbpdpalgohaaGreatDoorTie
import Derived.Test.YtdinbpdpalgohaaGreatDoorX16
import Derived.Test.YtdinbpdpalgohaaGreatDoorX1
set_option maxHeartbeats 4000000
set_option maxRecDepth 100000
namespace Go.Proofs.YtdinbpdpalgohaaGreatDoor
open Go.RowKit
section
theorem chgF_V {fl:FL}{st:ST}{k:Nat}{n v:Str}(h:(chgF fl st k n v).1=0):(chgF fl st k n v).2.2.V=chgV st.V k n v:=by
 unfold chgF at h ⊢
 split at h
 ·cases h
 ·rename_i h1
  rw[if_neg h1]
  split at h
  ·rename_i h2
   rw[if_pos h2]
   unfold cmpF at h ⊢
   split at h
   ·cases h
   ·rename_i h3
    rw[if_neg h3]
    split at h
    ·cases h
    ·rename_i h4
     rw[if_neg h4]
     split at h
     ·rename_i h5;exact absurd h h5
     ·rename_i h5
      rw[if_neg h5]
      split at h
      ·rename_i h6;exact absurd h h6
      ·rename_i h6
       rw[if_neg h6]
       split at h
       ·rename_i h7;exact absurd h h7
       ·rename_i h7
        rw[if_neg h7]
  ·rename_i h2
   rw[if_neg h2]
   split at h
   ·rename_i h3;exact absurd h h3
   ·rename_i h3
    rw[if_neg h3]
theorem delB_V {b:BM}{k:Str}(h:(delB b k).1=0):(delB b k).2.st.V=delV b.st.V k:=by
 have h':(delF b.fl b.st k).1=0:=h
 show(delF b.fl b.st k).2.2.V=_
 unfold delF at h' ⊢
 split at h'
 ·cases h'
 ·rename_i h1
  rw[if_neg h1]
  split at h'
  ·cases h'
  ·rename_i h2
   rw[if_neg h2]
   exact chgF_V h'
def nxI (V:Vars):Int:=match nxtV V with
 | [x]=>x
 | _=>-1
theorem nxI_one {V:Vars}:(∃x:Nat,x<16/\nxtV V=[(x:Int)]/\nxI V=x)\/(nxtV V=[]/\nxI V=-1):=by
 rcases hn:nxtV V with _|⟨x,r⟩
 ·exact .inr ⟨rfl,by unfold nxI;rw[hn]⟩
 ·have hl:=nxtV_len V
  rw[hn] at hl
  have hr:r=[]:=List.eq_nil_of_length_eq_zero (by simpa using hl)
  subst hr
  have hi:=isId_iff.1 (nxtV_id (V:=V) x (by rw[hn];exact List.mem_cons_self ..))
  exact .inl ⟨x.toNat,by omega,by rw[show((x.toNat:Nat):Int)=x by omega],by unfold nxI;rw[hn];show x=_;omega⟩
theorem nxI_none {V:Vars}(h:getV V nmN=none):nxI V=-1:=by
 unfold nxI nxtV;rw[h]
theorem nxI_byte {V:Vars}{b:UInt8}(h:getV V nmN=some [b]):nxI V=if isId b.toNat=true then (b.toNat:Int) else -1:=by
 unfold nxI nxtV
 rw[h]
 by_cases hq:isId (b.toNat:Int)=true
 ·simp only[hq,if_true]
 ·simp only[hq]
  rfl
theorem nxI_other {V:Vars}{v:Str}(h:getV V nmN=some v)(hl:v.length≠1):nxI V=-1:=by
 unfold nxI nxtV
 rw[h]
 match v,hl with
 | [],_=>rfl
 | [_],hl=>exact absurd rfl hl
 | _::_::_,_=>rfl
theorem cndV_cdI (V:Vars):cndV V=cdI (nxtV V) (ordV V) (ordV V).length:=by
 unfold cndV cdI
 rw[List.take_length]
theorem RdI.cellP {w:World}{g o n c i:Nat}{l:List Int}{x:Int}(h:RdI w (.slice (some ⟨g,o,none⟩) n c) l)(hi:l[i]? = some x):w.cell? ⟨g,o+i,none⟩=some (.int .i64 x):=by
 obtain⟨a',c',e,_,_,_,h4⟩:=h
 obtain⟨g',o',ea,hx⟩:=h4 (by intro q;rw[q] at hi;cases hi)
 injection e with e1
 rw[ea] at e1
 injection e1 with e1
 injection e1 with e1 e2
 subst e1 e2
 exact hx i x hi
theorem cdI_next {V:Vars}{ord:List Int}{i:Nat}(hi:i<ord.length)(hid:0<=ord[i]):cdI (nxtV V) ord (i+1)=if ord[i]=nxI V then cdI (nxtV V) ord i else cdI (nxtV V) ord i++[ord[i]]:=by
 unfold cdI
 rw[List.take_succ_eq_append_getElem hi,List.filter_append]
 rcases nxI_one (V:=V) with ⟨x,hx,hn,hI⟩|⟨hn,hI⟩
 ·rw[hn,hI]
  by_cases e:ord[i]=(x:Int)
  ·rw[if_pos e,e];simp
  ·rw[if_neg e];simp[e]
 ·rw[hn,hI,if_neg (by omega)]
  simp
section
variable {w w':World}{N M S L n:Nat}{O:Nat->Prop}{b:BM}
theorem rbegin_any (h:QW w N O M S L n b)(hb:b.st.blk<b.fl.B):Calls Tryz.prog 72 #[fptr M] w (QMR w N O M S L (n+1) (beginB b)):=by
 have c0:=h.c0
 have hgt:=h.get ⟨#[78,101,120,116]⟩
 rw[show(⟨#[78,101,120,116]⟩:ByteArray).data.toList=nmN from rfl] at hgt
 obtain⟨vb,hvb⟩:∃vb:ByteArray,str (getS b.st.V nmN).1=.string vb:=⟨_,rfl⟩
 have HVB:Hid (vb.data.toList=(getS b.st.V nmN).1):=by
  show _=_
  unfold str at hvb
  injection hvb with hvb
  rw[<-hvb]
 obtain⟨cd,hcd⟩:∃cd,(getS b.st.V nmN).2=cd:=⟨_,rfl⟩
 have HCD:=Hh hcd
 rw[hvb,hcd] at hgt
 have HG:=Hh hgt
 have HW:=Hh h
 have hvz:vb.size<=128:=by rw[bsz,HVB.out];exact h.glen nmN
 have hdel:=h.delB hb (ke:=⟨#[78,101,120,116]⟩) (k:=nmN) (by decide) rfl
 obtain⟨res,hres⟩:∃r,beginB b=r:=⟨_,rfl⟩
 have HRES:=Hh hres
 rw[hres]
 obtain⟨de,hde⟩:∃e,(delB b nmN).1=e:=⟨_,rfl⟩
 obtain⟨bd,hbd⟩:∃e,(delB b nmN).2=e:=⟨_,rfl⟩
 have hdp:delB b nmN=(de,bd):=by rw[<-hde,<-hbd]
 rw[hdp] at hdel
 have HDP:=Hh hdp
 have HDL:=Hh hdel
 clear hgt h hvb hcd hdel hres hde hbd hdp
 go_enter Tryz.func72,Tryz.ntmps72
 go_wp2_with fail
 refine HG.out.mono ?_
 rintro e w' ⟨rfl,rfl⟩
 clear HG
 go_upto_if 18 with fail
 go_cut [3] (λx wc=>∃b1,x=.int .i64 (nxI b.st.V)/\Hid (QLeft w wc N O M S L (n+1) b1)/\Hid (ordV b1.st.V=ordV b.st.V/\res=(0,{ b1 with cand:=cndV b.st.V,log:=[],last:=-1 })))
 case first=>
  rcases hg:getV b.st.V nmN with _|v
  ·have e1:cd=6:=by rw[<-HCD.out];unfold getS;rw[hg]
   have HNX:Hid (nxI b.st.V=-1):=nxI_none hg
   have HBR:Hid (res=(0,{ b with cand:=cndV b.st.V,log:=[],last:=-1 })):=by
    show _=_
    rw[<-HRES.out,beginB_none hg]
   subst e1
   clear hg HCD HVB HDL
   go_wp2_with fail
   go_meet
   exact⟨b,by rw[HNX.out],Hh (QLeft.same (HW.out.mono (Nat.le_succ _)) (Ch.refl _ _)),rfl,HBR.out⟩
  have HGV:=Hh hg
  have e1:cd=0:=by rw[<-HCD.out];unfold getS;rw[hg]
  have e2:vb.data.toList=v:=by rw[HVB.out];unfold getS;rw[hg]
  subst e1
  clear hg HCD HVB
  by_cases hl:v.length=1
  ·match v,hl with
   | [x0],_=>
    have hz1:vb.size=1:=by rw[bsz,e2];rfl
    have hiv:0<vb.size:=by omega
    obtain⟨x,hx⟩:∃x,(vb[0]'hiv).toNat=x:=⟨_,rfl⟩
    have hx2:x0.toNat=x:=by rw[<-hx,ba_at,e2];rfl
    have hxb:x<256:=by rw[<-hx2];exact x0.toNat_lt
    have hwx:IntKind.i64.wrap (x:Int)=(x:Int):=IntWalk.i64_in _ ⟨by omega,by omega⟩
    have hnb:=nxI_byte HGV.out
    rw[hx2] at hnb
    have HID:=Hh (rid_any (x:Int) w)
    by_cases hid:isId (x:Int)=true
    ·rw[if_pos hid] at hnb
     rw[hid] at HID
     have HNX:=Hh hnb
     clear hnb hid hx2 e2
     go_wp2_with fail
     refine HID.out.mono ?_
     rintro e w4 ⟨rfl,rfl⟩
     go_wp2_with fail
     refine HDL.out.mono ?_
     rintro e w5 ⟨rfl,hl5⟩
     have HL5:=Hh hl5
     clear hl5 HDL
     by_cases hd0:de=0
     ·have HBR:Hid (res=(0,{ bd with cand:=cndV b.st.V,log:=[],last:=-1 })):=by
       show _=_
       rw[<-HRES.out,beginB_ok HGV.out (by rw[HDP.out];exact hd0),HDP.out]
      have HOV:Hid (ordV bd.st.V=ordV b.st.V):=by
       have e1:=delB_V (b:=b) (k:=nmN) (by rw[HDP.out];exact hd0)
       rw[HDP.out] at e1
       show ordV bd.st.V=_
       rw[e1,ordV_congr (get_del_ne ne_ON)]
      subst hd0
      go_wp2_with fail
      go_meet
      exact⟨bd,by rw[HNX.out],HL5,HOV.out,HBR.out⟩
     ·have hdb:(de != 0)=true:=by rw[bne_iff_ne];exact hd0
      have HBR:Hid (res=(de,bd)):=by
       show _=_
       rw[<-HRES.out,beginB_bad HGV.out (by rw[HDP.out];exact hd0),HDP.out]
      go_wp2_with fail
      go_ret
      rw[HBR.out]
      exact⟨rfl,HL5.out⟩
    ·have hid2:isId (x:Int)=false:=by simpa using hid
     rw[if_neg hid] at hnb
     rw[hid2] at HID
     have HNX:=Hh hnb
     clear hnb hid hid2 hx2 e2
     go_wp2_with fail
     refine HID.out.mono ?_
     rintro e w4 ⟨rfl,rfl⟩
     go_wp2_with fail
     refine HDL.out.mono ?_
     rintro e w5 ⟨rfl,hl5⟩
     have HL5:=Hh hl5
     clear hl5 HDL
     by_cases hd0:de=0
     ·have HBR:Hid (res=(0,{ bd with cand:=cndV b.st.V,log:=[],last:=-1 })):=by
       show _=_
       rw[<-HRES.out,beginB_ok HGV.out (by rw[HDP.out];exact hd0),HDP.out]
      have HOV:Hid (ordV bd.st.V=ordV b.st.V):=by
       have e1:=delB_V (b:=b) (k:=nmN) (by rw[HDP.out];exact hd0)
       rw[HDP.out] at e1
       show ordV bd.st.V=_
       rw[e1,ordV_congr (get_del_ne ne_ON)]
      subst hd0
      go_wp2_with fail
      go_meet
      exact⟨bd,by rw[HNX.out],HL5,HOV.out,HBR.out⟩
     ·have hdb:(de != 0)=true:=by rw[bne_iff_ne];exact hd0
      have HBR:Hid (res=(de,bd)):=by
       show _=_
       rw[<-HRES.out,beginB_bad HGV.out (by rw[HDP.out];exact hd0),HDP.out]
      go_wp2_with fail
      go_ret
      rw[HBR.out]
      exact⟨rfl,HL5.out⟩
  ·have HNX:=Hh (nxI_other HGV.out hl)
   have hz1:¬(vb.size:Int)=1:=by rw[bsz,e2];omega
   clear hl e2
   go_wp2_with fail
   refine HDL.out.mono ?_
   rintro e w5 ⟨rfl,hl5⟩
   have HL5:=Hh hl5
   clear hl5 HDL
   by_cases hd0:de=0
   ·have HBR:Hid (res=(0,{ bd with cand:=cndV b.st.V,log:=[],last:=-1 })):=by
     show _=_
     rw[<-HRES.out,beginB_ok HGV.out (by rw[HDP.out];exact hd0),HDP.out]
    have HOV:Hid (ordV bd.st.V=ordV b.st.V):=by
     have e1:=delB_V (b:=b) (k:=nmN) (by rw[HDP.out];exact hd0)
     rw[HDP.out] at e1
     show ordV bd.st.V=_
     rw[e1,ordV_congr (get_del_ne ne_ON)]
    subst hd0
    go_wp2_with fail
    go_meet
    exact⟨bd,by rw[HNX.out],HL5,HOV.out,HBR.out⟩
   ·have hdb:(de != 0)=true:=by rw[bne_iff_ne];exact hd0
    have HBR:Hid (res=(de,bd)):=by
     show _=_
     rw[<-HRES.out,beginB_bad HGV.out (by rw[HDP.out];exact hd0),HDP.out]
    go_wp2_with fail
    go_ret
    rw[HBR.out]
    exact⟨rfl,HL5.out⟩
 case rest=>
  obtain⟨b1,rfl,HQL,HBO⟩:=hcut
  obtain⟨O1,q1,q2,q3⟩:=HQL.out
  have HOM:Hid (O M):=HW.out.OM
  have HPS:Hid (0<w.heap.size):=HW.out.pos
  have HO1:Hid (∀k,O1 k->O k\/w.heap.size<=k):=q1
  obtain⟨vc0,c2,_,_⟩:=q2.c2
  obtain⟨vl0,c3,_,_⟩:=q2.c3
  have c4:=q2.c4
  have f2:=q2.frz 2
  have f3:=q2.frz 3
  have f4:=q2.frz 4
  have hsz:wc.heap.size=wc.heap.size:=rfl
  have hq3:=((q2.setCand (u:=.slice none 0 0) (RdI.nil _) (λ_ _ g hg=>(by cases hg))).takeLog (u:=.slice none 0 0) (l':=[]) ⟨rfl,.inl ⟨rfl,rfl⟩⟩ (λg hg=>(by cases hg))).setLast (-1)
  obtain⟨vcn,hq4⟩:=hq3.hole
  have hcn:vcn=.slice none 0 0:=by
   have h1:=hq4.c2
   rw[World.cell?_setCell_other _ _ _ _ (by simp),World.cell?_setCell_other _ _ _ _ (by simp),World.cell?_setCell_same _ _ _ c2] at h1
   injection h1 with h1
   exact h1.symm
  subst hcn
  obtain⟨b2,hb2⟩:∃b2:BM,({ b1 with cand:=[],log:=[],last:=-1 }:BM)=b2:=⟨_,rfl⟩
  obtain⟨O3,hO3⟩:∃O3:Nat->Prop,(λk=>O1 k\/(Value.slice none 0 0).ownBlock=some k)=O3:=⟨_,rfl⟩
  have HQ4:Hid (QH (((wc.setCell ⟨M,2,none⟩ (.slice none 0 0)).setCell ⟨M,3,none⟩ (.slice none 0 0)).setCell ⟨M,4,none⟩ (.int .i64 (-1))) N O3 M S L (n+1) b2 (.slice none 0 0)):=by
   show QH _ _ _ _ _ _ _ _ _
   rw[<-hb2,<-hO3]
   exact hq4
  have HOO:Hid (∀k,O3 k->O k\/w.heap.size<=k):=λk hk=>by
   rw[<-hO3] at hk
   rcases hk with hk|hk
   ·exact HO1.out k hk
   ·cases hk
  have HC4:Hid (Ch O w (((wc.setCell ⟨M,2,none⟩ (.slice none 0 0)).setCell ⟨M,3,none⟩ (.slice none 0 0)).setCell ⟨M,4,none⟩ (.int .i64 (-1)))):=((q3.setCell (p:=⟨M,2,none⟩) (λ_=>HOM.out) _).setCell (p:=⟨M,3,none⟩) (λ_=>HOM.out) _).setCell (p:=⟨M,4,none⟩) (λ_=>HOM.out) _
  have HB2:Hid (ordV b2.st.V=ordV b.st.V/\res=(0,{ b2 with cand:=cndV b.st.V })):=by
   rw[<-hb2]
   exact HBO.out
  clear q1 q2 q3 hq3 hq4 hb2 hO3 HQL HBO HO1 hsz HW HVB HCD HDP HDL HRES
  obtain⟨i0,hi0,hz0,hz1,hz2⟩:=info_parts Tryz.infoInt
  obtain⟨nx,hnv⟩:∃q,nxI b.st.V=q:=⟨_,rfl⟩
  have HNV:=Hh hnv
  rw[hnv]
  clear hnv
  go_upto_if 49 with fail
  clear c2 c3 c4 f2 f3 f4
  generalize ((wc.setCell ⟨M,2,none⟩ (.slice none 0 0)).setCell ⟨M,3,none⟩ (.slice none 0 0)).setCell ⟨M,4,none⟩ (.int .i64 (-1))=w4 at *
  have HSZ:Hid (w.heap.size<=w4.heap.size):=HC4.out.size
  have HO3:Hid (∀k,O3 k->N<=k/\k<w4.heap.size):=HQ4.out.oN
  go_cut [] (λwx=>∃vc,Hid (QH wx N O3 M S L (n+1) b2 vc)/\Hid (OwI wx w4.heap.size vc (nxtV b.st.V))/\Hid (Ch O w wx)/\Hid (w4.heap.size<=wx.heap.size))
  case first=>
   rcases nxI_one (V:=b.st.V) with ⟨x,hx16,hnx,hI⟩|⟨hnx,hI⟩
   ·have hxe:nx=(x:Int):=by rw[<-HNV.out];exact hI
    have hx0:nx ≥ 0:=by omega
    have HNX:Hid (nxtV b.st.V=[nx]):=by show _=_;rw[hxe];exact hnx
    clear hxe
    have c2:=HQ4.out.c2
    have HC1:Hid ((w4.alloc (.cells #[.int .i64 nx] 3)).ownsRow w4.heap.size 3 1 (.slice none 0 0) 0 (ints [])):=⟨rfl,.inl ⟨rfl,rfl⟩⟩
    have HN1:Hid (∀j u,(ints [nx])[j]? = some u->(w4.alloc (.cells #[.int .i64 nx] 3)).cell? ((⟨w4.heap.size,0,none⟩:Addr).add j)=some u):=World.news_of_block (heap_alloc_new w4 _) |> λh=>h
    clear hnx hI
    go_wp2_with (at_builtin;refine wpList_append_lies _ rfl _ _ 36 rfl w4.heap.size 3 i0 _ 1 8 Tryz.underlying36 hi0 hz0 hz1 hz2 (by kernel_rfl) (by omega) _ 0 (ints []) rfl (by exact HC1.out) ⟨w4.heap.size,0,none⟩ 1 1 (ints [nx]) rfl rfl (by exact HN1.out) (ints_one _) (by omega) (by simp only[maxLen];omega) (by omega) (by simp) (w4.heap.size+1) (by simp) ?_)
    intro g2 cap2 w5 hown5 hgrow5 hat5 hlt5
    have hc5:Ch (λ_=>False) w4 w5:=((Ch.refl (λ_=>False) w4).alloc _).trans (Ch.of_grown hgrow5 (λk hk _=>(by cases hk)))
    have HQ5:=Hh (HQ4.out.ch hc5 (λ_ h=>h.elim))
    have c25:=HQ5.out.c2
    have f25:=HQ5.out.frz 2
    have HQ6:=Hh (HQ5.out.set (.slice (some ⟨g2,0,none⟩) (0+1) cap2))
    have hMg:g2≠M:=λe=>by
     have h1:=(HO3.out M HQ5.out.OM).2
     rcases hat5 with h|h
     ·cases h
     ·omega
    have HO6:Hid (OwI (w5.setCell ⟨M,2,none⟩ (.slice (some ⟨g2,0,none⟩) (0+1) cap2)) w4.heap.size (.slice (some ⟨g2,0,none⟩) (0+1) cap2) (nxtV b.st.V)):=by
     rw[HNX.out]
     exact ownN_ch hown5 ((Ch.refl (λk=>k=M) w5).setCell (p:=⟨M,2,none⟩) (λ_=>rfl) _) (λk hk q=>by
      have e:g2=k:=by simpa[Value.ownBlock] using hk
      exact hMg (e.trans q))
    have HC6:Hid (Ch O w (w5.setCell ⟨M,2,none⟩ (.slice (some ⟨g2,0,none⟩) (0+1) cap2))):=(HC4.out.trans (hc5.mono (λ_ h _=>h.elim))).setCell (p:=⟨M,2,none⟩) (λ_=>HOM.out) _
    have HS6:Hid (w4.heap.size<=(w5.setCell ⟨M,2,none⟩ (.slice (some ⟨g2,0,none⟩) (0+1) cap2)).heap.size):=((Ch.refl (λk=>k=M) w5).setCell (p:=⟨M,2,none⟩) (λ_=>rfl) _).size |> λq=>Nat.le_trans hc5.size q
    clear hown5 hgrow5 hat5 hlt5 hc5 HC1 HN1 c2
    go_wp2_with fail
    go_meet
    exact⟨_,HQ6,HO6,HC6,HS6⟩
   ·have hx0:¬nx ≥ 0:=by rw[<-HNV.out,hI];omega
    have HNX:=Hh hnx
    clear hnx hI
    go_wp2_with fail
    go_meet
    exact⟨_,HQ4,by rw[HNX.out];exact⟨rfl,.inl ⟨rfl,rfl⟩⟩,HC4,Nat.le_refl _⟩
  case rest=>
   clear HQ4 HC4
   obtain⟨vc,HQ,HOW,HC,HS4⟩:=hcut
   have HQW:=Hh (HQ.out.fill HOW.out.rd (λg hg=>⟨λq=>by have:=(HO3.out g q).2;have:=(HOW.out.lt g hg).1;omega,by have:=(HOW.out.lt g hg).1;have:=HQ.out.N_le;have:=HO3.out M HQ.out.OM;omega⟩))
   have hor:=rorder_any HQW.out
   rw[show ordV ({ b2 with cand:=nxtV b.st.V }:BM).st.V=ordV b.st.V from HB2.out.1] at hor
   have HOR:=Hh hor
   have HOI:=Hh (ordV_ok b.st.V)
   have HRE:Hid (res=(0,{ b2 with cand:=cdI (nxtV b.st.V) (ordV b.st.V) (ordV b.st.V).length })):=by
    show _=_
    rw[HB2.out.2,cndV_cdI]
   obtain⟨V,hV⟩:∃V,b.st.V=V:=⟨_,rfl⟩
   rw[hV] at HOW HOR HOI HRE HNV
   clear hor HQW HB2 hV
   obtain⟨ord,hord⟩:∃q,ordV V=q:=⟨_,rfl⟩
   rw[hord] at HOR HOI HRE
   clear hord
   go_wp2_with fail
   refine HOR.out.mono ?_
   rintro e w5 ⟨v5,rfl,hv5,hvg,bb5⟩
   obtain⟨oa,oc,rfl,hoc,hocm⟩:=hv5.shape
   have HQ5:=Hh (HQ.out.below bb5)
   have HOW5:=Hh (HOW.out.below bb5)
   have HC5:Hid (Ch O w w5):=HC.out.trans (Ch.of_below bb5 O)
   have HRO:=Hh hv5
   have HDJ:Hid (∀k,vc.ownBlock=some k->(Value.slice oa ord.length oc).ownBlock≠some k):=λk hk q=>by
    have h1:=(HOW.out.lt k hk).2
    have h2:=hvg k q
    omega
   have HOB:Hid (∀k,(Value.slice oa ord.length oc).ownBlock=some k->w4.heap.size<=k):=λk hk=>Nat.le_trans HS4.out (hvg k hk)
   have HS5:Hid (w4.heap.size<=w5.heap.size):=Nat.le_trans HS4.out bb5.size
   obtain⟨m,hm⟩:∃q,ord.length=q:=⟨_,rfl⟩
   have HM:=Hh hm
   rw[hm] at HRO HDJ hoc HRE HOB ⊢
   have hm16:m<=16:=by rw[<-hm];exact okO_len HOI.out
   have HST:Hid (OwI w5 w4.heap.size vc (cdI (nxtV V) ord 0)):=by
    have e:cdI (nxtV V) ord 0=nxtV V:=by unfold cdI;simp
    show OwI _ _ _ _
    rw[e];exact HOW5.out
   clear hv5 hvg bb5 HOR HQ HOW HC hm HOW5
   go_wp2_with fail
   go_loopw [8] (λz wr=>∃(i:Nat) (vc:Value),i<=m/\z=.int .i64 (i:Int)/\Hid (QH wr N O3 M S L (n+1) b2 vc)/\Hid (OwI wr w4.heap.size vc (cdI (nxtV V) ord i))/\Hid (RdI wr (.slice oa m oc) ord)/\Hid (∀k,vc.ownBlock=some k->(Value.slice oa m oc).ownBlock≠some k)/\Hid (Ch O w wr)/\Hid (w4.heap.size<=wr.heap.size)) (λz _=>m-(intOf z).toNat)
   case atStart=>exact⟨0,vc,by omega,rfl,HQ5,HST,HRO,HDJ,HC5,HS5⟩
   case round=>
    clear HQ5 HST HRO HDJ HC5 HS5
    obtain⟨i,vc,hi,rfl,HQ,HOW,HRO,HDJ,HC,HS⟩:=hrel
    by_cases hlt:i<m
    ·have y0:(i:Int)<m:=by omega
     have hil:i<ord.length:=by rw[HM.out];exact hlt
     obtain⟨g,o,c',e,_,_,hc⟩:=HRO.out.cellAt hil
     rw[HM.out] at e
     injection e with e1 _ e3
     subst e1 e3
     have hid:=isId_iff.1 (okO_id HOI.out _ (List.getElem_mem hil))
     have HCN:=Hh (cdI_next (V:=V) hil hid.1)
     obtain⟨xi,hxi⟩:∃q,ord[i]=q:=⟨_,rfl⟩
     have HXI0:Hid (ord[i]? = some xi):=by show _=_;rw[<-hxi];exact List.getElem?_eq_getElem hil
     rw[hxi] at HCN hc
     clear hid hxi
     rw[HNV.out] at HCN
     by_cases hxn:xi=nx
     ·have HO2:Hid (OwI wr w4.heap.size vc (cdI (nxtV V) ord (i+1))):=by
       show OwI _ _ _ _
       rw[HCN.out,if_pos hxn];exact HOW.out
      subst hxn
      clear HOW HCN
      go_wp2_with fail
      go_roundw
      case rel=>exact⟨i+1,vc,by omega,by go_num,HQ,HO2,HRO,HDJ,HC,HS⟩
      case measure=>simp[intOf];omega
     ·have hxb:(xi != nx)=true:=by rw[bne_iff_ne];exact hxn
      have HCE:Hid (cdI (nxtV V) ord (i+1)=cdI (nxtV V) ord i++[xi]):=by
       show _=_
       rw[HCN.out,if_neg hxn]
      obtain⟨cd,hcd0⟩:∃q,cdI (nxtV V) ord i=q:=⟨_,rfl⟩
      have HCD0:=Hh hcd0
      rw[hcd0] at HCE HOW
      clear hcd0
      obtain⟨xa,xc,rfl⟩:=Ms.own_len HOW.out
      obtain⟨ln,hln⟩:∃q,cd.length=q:=⟨_,rfl⟩
      have HLN:=Hh hln
      rw[hln] at HQ HDJ
      have hcl:cd.length<=17:=by
       have h1:=cdI_len (nxtV V) ord i
       rw[HCD0.out] at h1
       have h2:=nxtV_len V
       have h3:=HM.out
       omega
      have HOW1:Hid (wr.drew.ownsRow w4.heap.size 3 1 (.slice xa ln xc) ln (ints cd)):=by
       have h9:=HOW.out.below ((Below.refl _ wr).drew)
       unfold OwI at h9
       rw[HLN.out] at h9
       exact h9
      have HQ1:=Hh (HQ.out.below ((Below.refl _ wr).drew))
      have HRO1:=Hh (HRO.out.below ((Below.refl _ wr).drew))
      have HC1:Hid (Ch O w wr.drew):=HC.out.drew
      have HS1:Hid (w4.heap.size<=wr.drew.heap.size):=HS.out
      have HXI:Hid (ord[i]? = some xi):=HXI0
      have S1:Hid (wr.drew.cell? ⟨M,2,none⟩=some (.slice xa ln xc)/\wr.drew.cell? ⟨g,o+i,none⟩=some (.int .i64 xi)):=⟨HQ1.out.c2,hc⟩
      have hln17:ln<=17:=by omega
      clear HQ HOW HRO HC HS hcl hln hxn HCN
      go_wp2_with fail
      clear hc
      refine wp_region_pl (λ Y=>Y.cell? ⟨M,2,none⟩=some (.slice xa ln xc)/\Y.cell? ⟨g,o+i,none⟩=some (.int .i64 xi)) ((0,0)::(1,0)::(2,0)::(3,0)::(4,0)::(5,0)::(6,0)::(7,0)::(8,0)::(9,1)::(10,1)::(11,1)::(12,1)::(13,2)::[]) (by kernel_rfl) (by kernel_rfl) ?_
      generalize wr.drew=w1 at *
      iterate 9 (apply wpP_go;rfl;rfl;exact S1.out;(rintro Y ⟨s0,s1⟩;go_simp;exact rfl);intro K hK;go_simp;refine hK _ ?_;clear hK K)
      have HB2:Hid (Below w1.heap.size w1 (w1.alloc (.cells #[.int .i64 xi] 3))):=(Below.refl _ _).alloc (Nat.le_refl _) _
      have HQ2:=Hh (HQ1.out.below HB2.out)
      have HRO2:=Hh (HRO1.out.below HB2.out)
      have S2:Hid ((w1.alloc (.cells #[.int .i64 xi] 3)).cell? ⟨M,2,none⟩=some (.slice xa ln xc)/\(w1.alloc (.cells #[.int .i64 xi] 3)).cell? ⟨g,o+i,none⟩=some (.int .i64 xi)):=⟨HQ2.out.c2,HRO2.out.cellP HXI.out⟩
      have HV2:Hid ((w1.alloc (.cells #[.int .i64 xi] 3)).ownsRow w4.heap.size 3 1 (.slice xa ln xc) ln (ints cd)):=ownN_ch HOW1.out ((Ch.refl (λ_=>False) w1).alloc _) (λ_ _ h=>h)
      have HN2:Hid (∀j u,(ints [xi])[j]? = some u->(w1.alloc (.cells #[.int .i64 xi] 3)).cell? ((⟨w1.heap.size,0,none⟩:Addr).add j)=some u):=World.news_of_block (heap_alloc_new w1 _) |> λh=>h
      apply wpP_one
      rfl
      intro K hK
      go_simp
      refine hK _ _ S2.out ?_
      clear hK K
      apply wpP_one
      rfl
      intro K hK
      refine step_append_lies _ (by rfl) _ _ _ (by rfl) w4.heap.size 3 i0 _ 1 8 Tryz.underlying36 hi0 hz0 hz1 hz2 (by kernel_rfl) (by omega) (.slice xa ln xc) ln (ints cd) (by rfl) HV2.out ⟨w1.heap.size,0,none⟩ 1 1 (ints [xi]) (by rfl) (by rfl) HN2.out (ints_one _) (by omega) (by simp only[maxLen];omega) (by omega) (by simp;have:=HS1.out;omega) (w1.heap.size+1) (by simp) ?_
      intro g2 cap2 w5 hown5 hgrow5 hat5 hlt5
      have hbl:∀k,(Value.slice xa ln xc).ownBlock=some k->w4.heap.size<=k/\k<w1.heap.size:=λk hk=>HOW1.out.lt k hk
      have hg5:Ch (λk=>(Value.slice xa ln xc).ownBlock=some k) (w1.alloc (.cells #[.int .i64 xi] 3)) w5:=Ch.of_grown hgrow5 (λk hk _=>hk)
      have HQ5:=Hh (HQ2.out.ch hg5 (λk hk=>⟨λq=>by have:=(HO3.out k q).2;have:=(hbl k hk).1;omega,by have:=(hbl k hk).1;have:=HPS.out;have:=HSZ.out;omega⟩))
      have HRO5:=Hh (HRO2.out.ch hg5 (λk hk q=>HDJ.out k q hk))
      have hc5:Ch O w w5:=(HC1.out.trans ((Ch.refl O w1).alloc _)).andThen hg5 (λk hk hl=>by have:=(hbl k hk).1;have:=HSZ.out;omega)
      have S5:Hid (w5.cell? ⟨M,2,none⟩=some (.slice xa ln xc)/\w5.cell? ⟨g,o+i,none⟩=some (.int .i64 xi)):=⟨HQ5.out.c2,HRO5.out.cellP HXI.out⟩
      have f25:=HQ5.out.frz 2
      have HS5:Hid (w4.heap.size<=w5.heap.size):=Nat.le_trans HS1.out (Nat.le_trans (by simp) hg5.size)
      have hMg:g2≠M:=λe=>by
       have h1:=(HO3.out M HQ5.out.OM).2
       rcases hat5 with h|h
       ·have:=(hbl g2 h).1;omega
       ·have:=HS1.out;omega
      have HDJ5:Hid (∀k,(Value.slice (some ⟨g2,0,none⟩) (ln+1) cap2).ownBlock=some k->(Value.slice (some ⟨g,o,none⟩) m oc).ownBlock≠some k):=λk hk q=>by
       have e:g2=k:=by simpa[Value.ownBlock] using hk
       have e2:g=k:=by simpa[Value.ownBlock] using q
       rcases hat5 with h|h
       ·exact HDJ.out g2 h (by rw[e,<-e2];rfl)
       ·have:g<w1.heap.size:=by obtain⟨_,_,_,_,_,h3,_⟩:=HRO1.out;exact h3 g rfl
        omega
      have HQ6:=Hh (HQ5.out.set (.slice (some ⟨g2,0,none⟩) (ln+1) cap2))
      have cM:Ch (λk=>k=M) w5 (w5.setCell ⟨M,2,none⟩ (.slice (some ⟨g2,0,none⟩) (ln+1) cap2)):=(Ch.refl (λk=>k=M) w5).setCell (p:=⟨M,2,none⟩) (λ_=>rfl) _
      have HO6:Hid (OwI (w5.setCell ⟨M,2,none⟩ (.slice (some ⟨g2,0,none⟩) (ln+1) cap2)) w4.heap.size (.slice (some ⟨g2,0,none⟩) (ln+1) cap2) (cdI (nxtV V) ord (i+1))):=by
       rw[HCE.out]
       show World.ownsRow _ _ _ _ _ _ _
       rw[ints_snoc,List.length_append,HLN.out]
       exact ownN_ch hown5 cM (λk hk q=>by
        have e:g2=k:=by simpa[Value.ownBlock] using hk
        exact hMg (e.trans q))
      have HRO6:=Hh (HRO5.out.ch cM (λk hk q=>by have h1:=HOB.out k hk;have h2:=(HO3.out M HQ5.out.OM).2;omega))
      have HC6:Hid (Ch O w (w5.setCell ⟨M,2,none⟩ (.slice (some ⟨g2,0,none⟩) (ln+1) cap2))):=hc5.setCell (p:=⟨M,2,none⟩) (λ_=>HOM.out) _
      have HS6:Hid (w4.heap.size<=(w5.setCell ⟨M,2,none⟩ (.slice (some ⟨g2,0,none⟩) (ln+1) cap2)).heap.size):=Nat.le_trans HS5.out cM.size
      go_simp
      refine hK _ _ S5.out ?_
      clear hK K
      iterate 2 (apply wpP_one;rfl;intro K hK;go_simp;refine hK _ _ S5.out ?_;clear hK K)
      have c25:=S5.out.1
      apply wpP_two
      rfl
      intro K hK
      go_simp
      refine hK _ _ ?_
      clear hK K
      refine wpP_done ?_
      clear S1 S2 S5 f25 c25 HQ1 HRO1 HC1 HS1 HOW1 HB2 HQ2 HRO2 HV2 HN2 hown5 hgrow5 hat5 hlt5 hbl hg5 hc5 HQ5 HRO5 HS5 cM
      generalize w5.setCell ⟨M,2,none⟩ (.slice (some ⟨g2,0,none⟩) (ln+1) cap2)=w6 at *
      go_wp2_with fail
      go_roundw
      case rel=>exact⟨i+1,_,by omega,by go_num,HQ6,HO6,HRO6,HDJ5,HC6,HS6⟩
      case measure=>simp[intOf];omega
    ·have ei:i=m:=by omega
     subst ei
     have y0:¬(i:Int)<i:=by omega
     have hf:=HQ.out.fill HOW.out.rd (λg hg=>⟨λq=>by have:=(HO3.out g q).2;have:=(HOW.out.lt g hg).1;omega,by have:=(HOW.out.lt g hg).1;have:=HQ.out.N_le;have:=HO3.out M HQ.out.OM;omega⟩)
     have HF:Hid (QLeft w wr N O M S L (n+1) { b2 with cand:=cdI (nxtV V) ord i }):=⟨_,λk hk=>by
      rcases hk with hk|hk
      ·exact HOO.out k hk
      ·right;have:=(HOW.out.lt k hk).1;have:=HSZ.out;omega,hf,HC.out⟩
     clear hf HQ HOW HRO HDJ HC HS
     go_wp2_with fail
     go_ret
     rw[HRE.out]
     exact⟨rfl,HF.out⟩
end
end
section
attribute [local go_sem ↓] Ms.alloc26 Ms.load26n Ms.store26n slice47
attribute [local go_sem] Ms.set_new Ms.stN_b8 slcD cs32
theorem denV_get (V:Vars):denV V=if (getS V nmD).1.length%32=0/\(getS V nmD).1.length<=128 then chunk (getS V nmD).1 else []:=by
 unfold denV getS
 rcases getV V nmD with _|v
 ·rfl
 ·rfl
def dfill (d:Str)(i j:Nat):Value:=if j<i then .int .u8 ((d.getD j 0).toNat:Int) else .int .u8 0
theorem dfill_set {w:World}{D t i:Nat}{d:Str}(h:Row w D t 32 (dfill d i))(hi:i<32):Row (w.setCell ⟨D,i,none⟩ (.int .u8 ((d.getD i 0).toNat:Int))) D t 32 (dfill d (i+1)):=
 (h.set hi _).congr λj hj=>by
  unfold dfill
  by_cases e:j=i
  ·subst e;rw[upd_hit,if_pos (by omega)]
  ·rw[upd_miss _ _ e]
   by_cases h1:j<i
   ·rw[if_pos h1,if_pos (by omega)]
   ·rw[if_neg h1,if_neg (by omega)]
section
variable {w w':World}{N M S L n:Nat}{O:Nat->Prop}{b:BM}
theorem rdenied_any (h:QW w N O M S L n b):Calls Tryz.prog 77 #[fptr M] w (NewD w (denV b.st.V)):=by
 have c0:=h.c0
 have hgt:=h.get ⟨#[68,101,110,105,101,100]⟩
 rw[show(⟨#[68,101,110,105,101,100]⟩:ByteArray).data.toList=nmD from rfl] at hgt
 have hvl:=h.glen nmD
 rw[denV_get]
 generalize (getS b.st.V nmD).2=ec at *
 generalize (getS b.st.V nmD).1=v at *
 obtain⟨vb,hvb⟩:∃vb:ByteArray,str v=.string vb:=⟨_,rfl⟩
 have HVB:Hid (vb.data.toList=v):=by
  show _=_
  unfold str at hvb
  injection hvb with hvb
  rw[<-hvb]
 rw[hvb] at hgt
 have HG:=Hh hgt
 obtain⟨k,hk⟩:∃k,vb.size=k:=⟨_,rfl⟩
 have HVL:Hid (v.length=k):=by show _=_;rw[<-HVB.out,<-bsz];exact hk
 have hk128:k<=128:=by have:=HVL.out;omega
 have HO0:Hid (w.ownsRow w.heap.size 31 32 (.slice none 0 0) 0 (bys' ((chunk v).take 0).flatten)):=⟨rfl,.inl ⟨rfl,rfl⟩⟩
 have HB0:Hid (Below w.heap.size w w):=Below.refl _ _
 obtain⟨i0,hi0,hz0,hz1,hz2⟩:=info_parts Tryz.infoDg
 obtain⟨res,hres⟩:∃res,(if v.length%32=0/\v.length<=128 then chunk v else [])=res:=⟨_,rfl⟩
 have HRES:=Hh hres
 rw[hres]
 clear hvb hvl hgt h hres
 go_enter Tryz.func77,Tryz.ntmps77
 go_wp2_with fail
 refine HG.out.mono ?_
 rintro e w' ⟨rfl,rfl⟩
 clear HG c0
 go_wp2_with fail
 go_loopw [5,6] (λx z wr=>∃m:Nat,m*32<=k/\z=.int .i64 ((m*32:Nat):Int)/\Hid (wr.ownsRow w.heap.size 31 32 x m (bys' ((chunk v).take m).flatten))/\Hid (Below w.heap.size w wr)) (λ_ z _=>k-(intOf z).toNat)
 case atStart=>exact⟨0,by omega,rfl,HO0,HB0⟩
 case round=>
  clear HO0 HB0
  obtain⟨m,hm,rfl,HO,HB⟩:=hrel
  obtain⟨xa,xc,rfl⟩:=Ms.own_len HO.out
  obtain⟨A,hA⟩:∃A,m*32=A:=⟨_,rfl⟩
  have HAE:=Hh hA
  rw[hA] at hm ⊢
  by_cases hlt:A+32<=k
  ·have y0:(A:Int)+32<=k:=by omega
   have hAk:A<=128:=by omega
   obtain⟨d,hd⟩:∃d,(v.drop (m*32)).take 32=d:=⟨_,rfl⟩
   have HD32:Hid (d.length=32):=by show _=_;rw[<-hd,List.length_take,List.length_drop,HVL.out];omega
   have HDG:Hid (∀j,j<32->d.getD j 0=v.getD (A+j) 0):=λj hj=>by
    rw[<-hd,List.getD_eq_getElem?_getD,List.getD_eq_getElem?_getD,List.getElem?_take_of_lt hj,List.getElem?_drop,hA]
   have HCH:Hid ((chunk v).take (m+1)=(chunk v).take m++[d]):=by
    show _=_
    have hml:m<(chunk v).length:=by rw[chunk_len,HVL.out];omega
    have e:(chunk v)[m]=(v.drop (m*32)).take 32:=by simp[chunk]
    rw[List.take_succ_eq_append_getElem hml,<-hd,e]
   have hal:Below wr.heap.size wr (wr.alloc (.cells (Ms.arr 32 Ms.zb) 31)):=(Below.refl _ _).alloc (Nat.le_refl _) _
   have HR0:Hid (Row (wr.alloc (.cells (Ms.arr 32 Ms.zb) 31)) wr.heap.size 31 32 (dfill d 0)):=Row.ofList wr 31 _ _ 32 rfl
   have HO1:Hid ((wr.alloc (.cells (Ms.arr 32 Ms.zb) 31)).ownsRow w.heap.size 31 32 (.slice xa m xc) m (bys' ((chunk v).take m).flatten)):=ownN_ch HO.out ((Ch.refl (λ_=>False) wr).alloc _) (λ_ _ h=>h)
   have HB1:Hid (Below w.heap.size w (wr.alloc (.cells (Ms.arr 32 Ms.zb) 31))):=HB.out.trans (hal.mono HB.out.size)
   have HLT:Hid (∀g,(Value.slice xa m xc).ownBlock=some g->g≠wr.heap.size):=λg hg q=>by have:=(HO.out.lt g hg).2;omega
   have hWw:w.heap.size<=wr.heap.size:=HB.out.size
   clear hal HO HB hd hA
   go_wp2_with fail
   generalize wr.alloc (.cells (Ms.arr 32 Ms.zb) 31)=w1 at *
   generalize wr.heap.size=D at *
   go_loopw [8] (λz wq=>∃i:Nat,i<=32/\z=.int .i64 (i:Int)/\Hid (Row wq D 31 32 (dfill d i))/\Hid (wq.ownsRow w.heap.size 31 32 (.slice xa m xc) m (bys' ((chunk v).take m).flatten))/\Hid (Below w.heap.size w wq)) (λz _=>32-(intOf z).toNat)
   case atStart=>exact⟨0,by omega,rfl,HR0,HO1,HB1⟩
   case round=>
    clear HR0 HO1 HB1
    obtain⟨i,hi,rfl,HR,HO,HB⟩:=hrel
    by_cases hi32:i<32
    ·have y1:(i:Int)<32:=by omega
     obtain⟨q,hq⟩:∃q,A+i=q:=⟨_,rfl⟩
     have hiv:q<vb.size:=by omega
     obtain⟨x,hx⟩:∃x,(vb[q]'hiv).toNat=x:=⟨_,rfl⟩
     have hx2:(d.getD i 0).toNat=x:=by rw[HDG.out i hi32,hq,<-hx,ba_at,HVB.out]
     have hs1:(A:Int)+(i:Int)=(q:Int):=by omega
     have hs2:(q:Int)<k:=by omega
     have hq128:q<=128:=by omega
     have r2:=dfill_set HR.out hi32
     rw[hx2] at r2
     have HR2:=Hh r2
     have cb:=HR.out.cell hi32
     have fb:=HR.out.frozen i
     have HB2:Hid (Below w.heap.size w (wr.setCell ⟨D,i,none⟩ (.int .u8 (x:Int)))):=HB.out.setCell (p:=⟨D,i,none⟩) hWw _
     have HO2:Hid ((wr.setCell ⟨D,i,none⟩ (.int .u8 (x:Int))).ownsRow w.heap.size 31 32 (.slice xa m xc) m (bys' ((chunk v).take m).flatten)):=ownN_ch HO.out ((Ch.refl (λk=>k=D) wr).setCell (p:=⟨D,i,none⟩) (λ_=>rfl) _) (λg hg q=>HLT.out g hg q)
     clear HR HO HB r2 hx2 hq
     go_wp2_with fail
     go_roundw
     case rel=>exact⟨i+1,by omega,by go_num,HR2,HO2,HB2⟩
     case measure=>simp[intOf];omega
    ·have y1:¬(i:Int)<32:=by omega
     have ei:i=32:=by omega
     subst ei
     have HRD:Hid (Row wr D 31 32 (Ms.b8 (dgF d))):=HR.out.congr λj hj=>by
      unfold dfill
      rw[if_pos hj]
      rfl
     have hld:=ld26 HRD.out
     have HNW:Hid (∀j u,(bys' d)[j]? = some u->(wr.alloc (.cells (Ms.arr 32 (Ms.b8 (dgF d))) 31)).cell? ((⟨wr.heap.size,0,none⟩:Addr).add j)=some u):=World.news_of_block (heap_alloc_new wr _) |> λh=>by rw[<-dg_bys HD32.out];exact h
     have HOA:Hid ((wr.alloc (.cells (Ms.arr 32 (Ms.b8 (dgF d))) 31)).ownsRow w.heap.size 31 32 (.slice xa m xc) m (bys' ((chunk v).take m).flatten)):=ownN_ch HO.out ((Ch.refl (λ_=>False) wr).alloc _) (λ_ _ h=>h)
     have HB3:Hid (Below w.heap.size w (wr.alloc (.cells (Ms.arr 32 (Ms.b8 (dgF d))) 31))):=HB.out.alloc HB.out.size _
     have hsw:w.heap.size<=wr.heap.size:=HB.out.size
     have hdl:=HD32.out
     have hm4:m<=4:=by have:=HAE.out;omega
     have HFL:Hid (bys' ((chunk v).take (m+1)).flatten=bys' ((chunk v).take m).flatten++bys' d):=by
      show _=_
      rw[HCH.out,List.flatten_append,List.flatten_cons,List.flatten_nil,List.append_nil,bys'_app]
     clear HR HO HB HRD
     go_wp2_with (at_builtin;refine wpList_append_lies _ rfl _ _ 47 rfl w.heap.size 31 i0 _ 32 32 Tryz.underlying47 hi0 hz0 hz1 hz2 (by kernel_rfl) (by omega) _ m (bys' ((chunk v).take m).flatten) rfl (by exact HOA.out) ⟨wr.heap.size,0,none⟩ 1 1 (bys' d) rfl (by rw[bys'_len,hdl]) (by exact HNW.out) (bys'_one d) (by omega) (by simp only[maxLen];omega) (by omega) (by simp;omega) (wr.heap.size+1) (by simp) ?_)
     intro g2 cap2 w6 hown6 hgrow6 hat6 hlt6
     have HB6:Hid (Below w.heap.size w w6):=Below.grown HB3.out hgrow6 (by simp;omega) (λk hk=>(HOA.out.lt k hk).1)
     have HO6:Hid (w6.ownsRow w.heap.size 31 32 (.slice (some ⟨g2,0,none⟩) (m+1) cap2) (m+1) (bys' ((chunk v).take (m+1)).flatten)):=by
      rw[HFL.out]
      exact hown6
     have hA2:(m+1)*32<=k:=by have:=HAE.out;omega
     have hA3:(A:Int)+32=(((m+1)*32:Nat):Int):=by have:=HAE.out;omega
     clear hown6 hgrow6 hat6 hlt6 HOA HNW HB3 HFL HCH hld
     go_wp2_with fail
     go_roundw
     case rel=>exact⟨m+1,hA2,by rw[show((m:Int)+1)*32=(((m+1)*32:Nat):Int) by omega],HO6,HB6⟩
     case measure=>simp[intOf];omega
  ·have y0:¬(A:Int)+32<=k:=by omega
   have hme:k/32=m:=by have:=HAE.out;omega
   have htk:(chunk v).take m=chunk v:=List.take_of_length_le (by rw[chunk_len,HVL.out];omega)
   have HOW:Hid (wr.ownsRow w.heap.size 31 32 (.slice xa m xc) m (bys' (chunk v).flatten)):=by
    have h9:=HO.out
    rw[htk] at h9
    exact h9
   have hm4:¬(m:Int) > 4:=by have:=HAE.out;omega
   clear HO htk
   by_cases hr:k%32=0
   ·have hrI:((k:Int).tmod 32)=0:=by rw[show(32:Int)=((32:Nat):Int) from rfl,<-Int.ofNat_tmod,hr];rfl
    have HRE:Hid (res=chunk v):=by
     show _=_
     rw[<-HRES.out,if_pos ⟨by rw[HVL.out];exact hr,by rw[HVL.out];omega⟩]
    have HCL:Hid ((chunk v).length=m):=by show _=_;rw[chunk_len,HVL.out];exact hme
    go_wp2_with fail
    go_ret
    rw[HRE.out]
    exact⟨_,rfl,⟨by rw[HCL.out];exact HOW.out,λd hd=>chunk_32 d hd,by rw[HCL.out];omega⟩,HB.out⟩
   ·obtain⟨r,hr2⟩:∃r,k%32=r:=⟨_,rfl⟩
    have hrI:((k:Int).tmod 32)=(r:Int):=by rw[show(32:Int)=((32:Nat):Int) from rfl,<-Int.ofNat_tmod,hr2]
    have hr0:¬(r:Int)=0:=by omega
    have HRE:Hid (res=[]):=by
     show _=_
     rw[<-HRES.out,if_neg (λq=>hr (by rw[HVL.out] at q;exact q.1))]
    clear hr2 hr
    go_wp2_with fail
    go_ret
    rw[HRE.out]
    exact NewD.nil HB.out
end
end
section
attribute [local go_sem ↓] Ms.alloc26 Ms.load26n Ms.store26n slice47
attribute [local go_sem] Ms.set_new Ms.stN_b8 slcD cs32
theorem conv_row {Y:World}{g t c:Nat}{d:Str}(h:Row Y g t 32 (Ms.b8 (dgF d)))(hd:d.length=32):(convert 99 9 (.slice (some ⟨g,0,none⟩) 32 c)).run Tryz.prog Y=.ok (.string ⟨d.toArray⟩) Y:=
 conv_at (λj hj=>by rw[Nat.zero_add];exact h.cell hj) hd
theorem RdD.cellsAt {w:World}{v:Value}{l:List Str}(h:RdD w v l){i:Nat}(hi:i<l.length):∃g o c,v=.slice (some ⟨g,o,none⟩) l.length c/\l.length<=c/\c<=maxLen/\∀j,j<32->w.cell? ⟨g,o+i*32+j,none⟩=some (.int .u8 ((l[i].getD j 0).toNat:Int)):=by
 obtain⟨a,c,rfl,h1,h2,h3,h4⟩:=h
 obtain⟨g,o,rfl,hx⟩:=h4 (by intro e;rw[e] at hi;cases hi)
 exact⟨g,o,c,rfl,h1,h2,hx i _ (List.getElem?_eq_getElem hi)⟩
section
variable {w w':World}{N M S L n:Nat}{O:Nat->Prop}{b:BM}
theorem rdeny_any (h:QW w N O M S L n b)(hb:b.st.blk<b.fl.B){d:Str}(hd:d.length=32):Calls Tryz.prog 71 #[fptr M,.agg (Ms.arr 32 (Ms.b8 (dgF d)))] w (QMR w N O M S L (n+1) (denyB b d)):=by
 have HON:Hid (¬O w.heap.size):=λq=>by have:=(h.oN _ q).2;omega
 have hal:Below w.heap.size w (w.alloc (.cells (Ms.arr 32 (Ms.b8 (dgF d))) 31)):=(Below.refl _ _).alloc (Nat.le_refl _) _
 have HW1:=Hh (h.below hal)
 have HR1:Hid (Row (w.alloc (.cells (Ms.arr 32 (Ms.b8 (dgF d))) 31)) w.heap.size 31 32 (Ms.b8 (dgF d))):=dg_row w d
 have HB1:=Hh hal
 have HD:=Hh hd
 clear hal h hd
 obtain⟨res,hres⟩:∃r,denyB b d=r:=⟨_,rfl⟩
 rw[hres]
 unfold denyB at hres
 have HRES:=Hh hres
 clear hres
 go_enter Tryz.func71,Tryz.ntmps71
 go_upto_region 1 with fail
 generalize w.alloc (.cells (Ms.arr 32 (Ms.b8 (dgF d))) 31)=w1 at *
 have hE1:w.heap.size<w1.heap.size:=HR1.out.lt
 obtain⟨E,hE⟩:∃E,w.heap.size=E:=⟨_,rfl⟩
 have HE:=Hh hE
 rw[hE] at HR1 HON ⊢
 clear hE
 have HDN:=Hh (rdenied_any HW1.out)
 generalize denV b.st.V=dn at *
 go_wp2_with fail
 refine HDN.out.mono ?_
 rintro e w2 ⟨v2,rfl,ho2,b2⟩
 have HRD:=Hh ho2.rd
 have HD32:Hid (∀d∈dn,d.length=32):=ho2.2.1
 have hl1000:dn.length<=1000:=ho2.2.2
 obtain⟨va,vc,rfl,hvc,hvcm⟩:=ho2.rd.shape
 have HW2:=Hh (HW1.out.below b2)
 have HR2:=Hh (HR1.out.below b2 HR1.out.lt)
 have HB2:Hid (Below w.heap.size w w2):=HB1.out.trans (b2.mono HB1.out.size)
 clear ho2 b2 HDN HW1 HR1 HB1
 obtain⟨n2,hn2⟩:∃q,dn.length=q:=⟨_,rfl⟩
 have HLN:=Hh hn2
 rw[hn2] at HRD hvc hl1000 ⊢
 clear hn2
 have hsb:∃sb:ByteArray,(⟨#[]⟩:ByteArray)=sb/\sb.data.toList=((dn.take 0).flatten:Str):=⟨_,rfl,rfl⟩
 go_wp2_with fail
 go_loopw [6,7] (λx z wr=>∃(i:Nat) (sb:ByteArray),i<=n2/\x=.string sb/\z=.int .i64 (i:Int)/\Hid (sb.data.toList=(dn.take i).flatten)/\Hid (d∉dn.take i)/\Hid (QW wr N O M S L n b)/\Hid (RdD wr (.slice va n2 vc) dn)/\Hid (Row wr E 31 32 (Ms.b8 (dgF d)))/\Hid (Below w.heap.size w wr)) (λ_ z _=>n2-(intOf z).toNat)
 case atStart=>exact⟨0,⟨#[]⟩,by omega,rfl,rfl,rfl,(λh=>(by cases h)),HW2,HRD,HR2,HB2⟩
 case round=>
  clear hsb HW2 HRD HR2 HB2
  obtain⟨i,sb,hi,rfl,rfl,HS,HN,HW,HRD,HR,HB⟩:=hrel
  by_cases hlt:i<n2
  ·have y0:(i:Int)<n2:=by omega
   have hil:i<dn.length:=by rw[HLN.out];exact hlt
   obtain⟨g,o,c',e,_,_,hc⟩:=HRD.out.cellsAt hil
   rw[HLN.out] at e
   injection e with e1 _ e3
   subst e1 e3
   obtain⟨g',o',c',e,_,_,hld⟩:=HRD.out.at hil
   rw[HLN.out] at e
   injection e with e1 _ e3
   injection e1 with e1
   injection e1 with e1 e2
   subst e1 e2 e3
   have HDL:=Hh (HD32.out _ (List.getElem_mem hil))
   have HTK:=Hh (List.take_succ_eq_append_getElem hil)
   have HM:=Hh (List.getElem_mem hil)
   have hldE:=ld26 HR.out
   have hgl:o+i*32+0=o+i*32:=rfl
   generalize dn[i]=dj at *
   obtain⟨cj,hcj⟩:∃q,Ms.arr 32 (Ms.b8 (dgF dj))=q:=⟨_,rfl⟩
   have heq:∀Y,(binOp .eql 31 (.agg cj) (.agg (Ms.arr 32 (Ms.b8 (dgF d))))).run Tryz.prog Y=.ok (.bool (decide (dj=d))) Y:=λ Y=>by rw[<-hcj];exact eqDg HDL.out HD.out Y
   rw[hcj] at hld
   have S1:Hid (Ms.ldN 32 wr.drew (.pointer (some ⟨g,o+i*32,none⟩))=some cj/\Ms.ldN 32 wr.drew (.pointer (some ⟨E,0,none⟩))=some (Ms.arr 32 (Ms.b8 (dgF d)))):=⟨by rw[Ms.ldN_drew];exact hld,by rw[Ms.ldN_drew];exact hldE⟩
   have HCJ:=Hh hcj
   have HWn:=Hh (HW.out.below ((Below.refl _ wr).drew))
   have HRDn:=Hh (HRD.out.below ((Below.refl _ wr).drew))
   have HRn:Hid (Row wr.drew E 31 32 (Ms.b8 (dgF d))):=HR.out.drew
   have HBn:Hid (Below w.heap.size w wr.drew):=HB.out.drew
   have HCn:Hid (∀j,j<32->wr.drew.cell? ⟨g,o+i*32+j,none⟩=some (.int .u8 ((dj.getD j 0).toNat:Int))):=hc
   clear hld hldE hcj hgl hc HW HRD HR HB
   by_cases hdd:dj=d
   ·have hdd1:decide (dj=d)=true:=decide_eq_true hdd
    have HRE:Hid (res=(0,b)):=by
     show _=_
     rw[<-HRES.out,if_pos (by rw[<-hdd];exact HM.out)]
    rw[hdd1] at heq
    clear hdd hdd1 HN HTK
    go_wp2_with fail
    refine wp_region_pl (λ Y=>Ms.ldN 32 Y (.pointer (some ⟨g,o+i*32,none⟩))=some cj/\Ms.ldN 32 Y (.pointer (some ⟨E,0,none⟩))=some (Ms.arr 32 (Ms.b8 (dgF d)))) ((0,0)::(1,0)::(2,0)::(3,0)::(4,0)::(5,0)::[]) (by kernel_rfl) (by kernel_rfl) ?_
    generalize wr.drew=wn at *
    iterate 6 (apply wpP_go;rfl;rfl;exact S1.out;(rintro Y ⟨s0,s1⟩;go_simp;exact rfl);intro K hK;go_simp;refine hK _ ?_;clear hK K)
    refine wpP_done ?_
    clear S1 heq
    go_wp2_with fail
    go_ret
    rw[HRE.out]
    exact⟨rfl,QLeft.same (HWn.out.mono (Nat.le_succ _)) (Ch.of_below HBn.out _)⟩
   ·have hdd1:decide (dj=d)=false:=decide_eq_false hdd
    have HN2:Hid (d∉dn.take (i+1)):=by
     show _∉_
     rw[HTK.out]
     intro q
     rcases List.mem_append.1 q with q|q
     ·exact HN.out q
     ·exact hdd (List.mem_singleton.1 q).symm
    rw[hdd1] at heq
    clear hdd hdd1 HN
    go_wp2_with fail
    refine wp_region_pl (λ Y=>Ms.ldN 32 Y (.pointer (some ⟨g,o+i*32,none⟩))=some cj/\Ms.ldN 32 Y (.pointer (some ⟨E,0,none⟩))=some (Ms.arr 32 (Ms.b8 (dgF d)))) ((0,0)::(1,0)::(2,0)::(3,0)::(4,0)::(5,0)::[]) (by kernel_rfl) (by kernel_rfl) ?_
    generalize wr.drew=wn at *
    iterate 6 (apply wpP_go;rfl;rfl;exact S1.out;(rintro Y ⟨s0,s1⟩;go_simp;exact rfl);intro K hK;go_simp;refine hK _ ?_;clear hK K)
    refine wpP_done ?_
    clear S1 heq
    have cv:=conv_at (c:=32) HCn.out HDL.out
    obtain⟨ds,hds⟩:∃q:ByteArray,(⟨dj.toArray⟩:ByteArray)=q:=⟨_,rfl⟩
    rw[hds] at cv
    have HDS:Hid (ds.data.toList=dj):=by
     show _=_
     rw[<-hds]
    have HS2:Hid ((sb++ds).data.toList=(dn.take (i+1)).flatten):=by
     show _=_
     rw[ByteArray.data_append,Array.toList_append,HS.out,HDS.out,HTK.out]
     simp
    have hsz:¬9223372036854775807<sb.size+ds.size:=by
     have e1:sb.size=(dn.take i).flatten.length:=by rw[bsz,HS.out]
     have e2:ds.size=32:=by rw[bsz,HDS.out];exact HDL.out
     have e3:=flat32 (dn.take i) (λx hx=>HD32.out x (List.mem_of_mem_take hx))
     rw[List.length_take] at e3
     omega
    clear hds HS HTK HCn HDS
    go_wp2_with fail
    go_roundw
    case rel=>exact⟨i+1,sb++ds,by omega,rfl,by go_num,HS2,HN2,HWn,HRDn,HRn,HBn⟩
    case measure=>simp[intOf];omega
  ·have y0:¬(i:Int)<n2:=by omega
   have hin:i=n2:=by omega
   subst hin
   have htk:dn.take i=dn:=List.take_of_length_le (by rw[HLN.out];omega)
   have HN2:Hid (d∉dn):=by have:=HN.out;rw[htk] at this;exact this
   have HS2:Hid (sb.data.toList=dn.flatten):=by have:=HS.out;rw[htk] at this;exact this
   clear htk HN HS
   by_cases h4:4<=i
   ·have h4I:(i:Int) ≥ 4:=by omega
    have HRE:Hid (res=(8,b)):=by
     show _=_
     rw[<-HRES.out,if_neg HN2.out,if_pos (by rw[HLN.out];exact h4)]
    go_wp2_with fail
    go_ret
    rw[HRE.out]
    exact⟨rfl,QLeft.same (HW.out.mono (Nat.le_succ _)) (Ch.of_below HB.out _)⟩
   ·have h4I:¬(i:Int) ≥ 4:=by omega
    obtain⟨fl,hfl⟩:∃q,(dn++[d]).flatten=q:=⟨_,rfl⟩
    have HFL:=Hh hfl
    have HRE:Hid (res=setB b nmD fl):=by
     show _=_
     rw[<-HRES.out,if_neg HN2.out,if_neg (by rw[HLN.out];exact h4),hfl]
    clear hfl
    obtain⟨ds,hds⟩:∃q:ByteArray,(⟨d.toArray⟩:ByteArray)=q:=⟨_,rfl⟩
    have HDS:Hid (ds.data.toList=d):=by
     show _=_
     rw[<-hds]
    have HQ:=Hh hds
    have HSZ:Hid (sb.size=i*32/\ds.size=32):=by
     have e3:=flat32 dn HD32.out
     exact⟨by rw[bsz,HS2.out,e3,HLN.out],by rw[bsz,HDS.out];exact HD.out⟩
    have hsz:¬9223372036854775807<sb.size+ds.size:=by have:=HSZ.out;omega
    have HWd:=Hh (HW.out.below ((Below.refl _ wr).drew))
    have HBd:Hid (Below w.heap.size w wr.drew):=HB.out.drew
    have S1:Hid (wr.drew.cell? ⟨M,0,none⟩=some (fptr S)/\Row wr.drew E 31 32 (Ms.b8 (dgF d))):=⟨HWd.out.c0,HR.out.drew⟩
    have HST:=Hh (HWd.out.setB hb (ke:=⟨#[68,101,110,105,101,100]⟩) (va:=sb++ds) (k:=nmD) (v:=fl) (by decide) (by rw[ByteArray.size_append];have:=HSZ.out;omega) rfl (by rw[ByteArray.data_append,Array.toList_append,HS2.out,HDS.out,<-HFL.out];simp))
    clear hds HW HB HR HS2 HDS HSZ
    go_wp2_with fail
    refine wp_region_pl (λ Y=>Y.cell? ⟨M,0,none⟩=some (fptr S)/\Row Y E 31 32 (Ms.b8 (dgF d))) ((0,0)::(1,0)::(2,0)::(3,0)::(4,0)::(5,0)::(6,0)::(7,0)::(8,1)::(9,0)::[]) (by kernel_rfl) (by kernel_rfl) ?_
    generalize wr.drew=wn at *
    iterate 8 (apply wpP_go;rfl;rfl;exact S1.out;(rintro Y ⟨m0,r0⟩;have cv:=conv_row (c:=32) r0 HD.out;rw[HQ.out] at cv;go_simp;exact rfl);intro K hK;go_simp;refine hK _ ?_;clear hK K)
    apply wpP_one
    rfl
    intro K hK
    go_simp
    refine HST.out.mono ?_
    rintro e w5 ⟨rfl,hl⟩
    have HLf:=Hh hl
    have S4:Hid (w5.cell? ⟨M,0,none⟩=some (fptr S)/\Row w5 E 31 32 (Ms.b8 (dgF d))):=by
     obtain⟨O',_,q2,q3⟩:=hl
     exact⟨q2.c0,S1.out.2.ch q3 HON.out⟩
    refine hK _ _ S4.out ?_
    clear hK K hl S1 HST
    iterate 1 (apply wpP_go;rfl;rfl;exact S4.out;(rintro Y ⟨m0,r0⟩;go_simp;exact rfl);intro K hK;go_simp;refine hK _ ?_;clear hK K)
    refine wpP_done ?_
    clear S4
    go_wp2_with fail
    go_ret
    rw[HRE.out]
    exact⟨rfl,HLf.out.after HBd.out⟩
end
end
section
open Go.ChangeShapes Go.WideShapes Go.ChangeAt Go.RowKit Go.Deep
theorem own:ownKnob Tryz.prog.godebug=none:=by kernel_rfl
theorem laidOut:laidOutB Tryz.prog=true:=by kernel_rfl
theorem gTab : Tryz.prog.globalNamed "platformfw/measure.rounds" = some 0 := by kernel_rfl
theorem gTabType:(Tryz.prog.globals[0]?).map (·.type)=some 184:=by kernel_rfl
theorem cellsTab:Tryz.prog.cellsOf 184=64:=by kernel_rfl
theorem cellsU32:Tryz.prog.cellsOf 110=1:=by kernel_rfl
theorem rnd_of {W : World}(h : laidMetH Tryz.prog [("platformfw/measure.rounds", Rows.laid_platformfw_measure_rounds)] W) : Ms.Rnd W := by
 have ht : Lib.TabIs Tryz.prog W "platformfw/measure.rounds" .u32 Ms.rcs := Lib.tabIs_of_head (rest := []) gTab gTabType Tryz.underlying184 Tryz.underlying110 cellsU32 cellsTab h
 intro i hi
 exact ht.cell gTab i (by simpa[Ms.rcs] using hi)
theorem rnd_pos {W:World}(h:Ms.Rnd W):0<W.heap.size:=World.block_lt_of_cell? W ⟨0,0,none⟩ (h 0 (by omega))
noncomputable def laidWorld (os:Os):World:=
 { World.holding Tryz.prog os ⟨#[],#[],[]⟩ with heap:=(World.holding Tryz.prog os ⟨#[],#[],[]⟩).heap.modify 0 fun
   | .cells _ t frozen=>.cells (Ms.rcs.map λn=>Value.int .u32 n).toArray t frozen
   | o=>o }
end
section
open Go.RowKit Go.ChangeShapes Go.WideShapes Go.ChangeAt Go.Deep
section
variable {H:Type}{enc:TypeId×Value->H}{w:World}{base:Nat}{spare:Nat->Bool}{held:Bool}
theorem open_list {α:Type}{t e n0:Nat}(hu:Tryz.prog.underlying t=some (.slice e))(hc:Tryz.prog.cellsOf e=n0)(hn0:0<n0)(cf:α->List Value)(wf:α->Prop)(hcf:∀x,(cf x).length=n0)
  (hop:∀{fuel:Nat} {cs:List Value} {x:DataW H×List MemPlace},DataW.trod enc Tryz.prog w base spare held fuel e cs=some x->∃c:α,wf c/\cs=cf c)
  {fuel:Nat} {cs:List Value} {x:DataW H×List MemPlace} (h:DataW.trod enc Tryz.prog w base spare held fuel t cs=some x) :
  ∃(A:Option Addr) (len cap:Nat) (l:List α),cs=[.slice A len cap]/\l.length=len/\len<=cap/\cap<=maxLen/\(∀c∈l,wf c)/\(l≠[]->∃b o,A=some ⟨b,o,none⟩/\b<w.heap.size/\∀i c,l[i]? = some c->w.rangeAt b (o+i*n0) (cf c)):=by
 rcases open_slice hu h with ⟨rfl,_⟩|⟨a,len,cap,m,n,D,Pl,hcs,hb,hl,hm,hmm,hx,hi⟩
 ·exact⟨none,0,0,[],rfl,rfl,Nat.le_refl _,Nat.zero_le _,(λc h=>by cases h),λh=>absurd rfl h⟩
 ·rw[hc] at hi
  have hlm:len<=m:=by rw[hmm];split<;>omega
  have hex:∀i:Nat,i<len->∃c:α,wf c/\∀j,j<n0->w.cell? (a.add (i*n0+j))=(cf c)[j]? := by
   intro i hlt
   obtain⟨cs',hc',ht⟩:=hi i (by omega)
   obtain⟨c,hwf,rfl⟩:=hop ht
   obtain⟨_,_,hat⟩:=World.cells?_some hc'
   exact⟨c,hwf,λj hj=>by have:=hat j hj;rw[add_add] at this;exact this⟩
  have hl':∃l:List α,l.length=len/\∀i c,l[i]? = some c->wf c/\∀j,j<n0->w.cell? (a.add (i*n0+j))=(cf c)[j]? := by
   clear hx hmm hcs h hi
   revert hex
   generalize len=k at hlm hl ⊢
   intro hex
   have:∀q,q<=k->∃l:List α,l.length=q/\∀i c,l[i]? = some c->wf c/\∀j,j<n0->w.cell? (a.add (i*n0+j))=(cf c)[j]? := by
    intro q
    induction q with
    | zero=>intro _;exact⟨[],rfl,λi c h=>by simp at h⟩
    | succ q ih=>
     intro hq
     obtain⟨l,hl,hp⟩:=ih (by omega)
     obtain⟨c,hc⟩:=hex q (by omega)
     refine⟨l++[c],by simp[hl],λi x hx=>?_⟩
     by_cases hiq:i<q
     ·rw[List.getElem?_append_left (by omega)] at hx
      exact hp i x hx
     ·have hlt:=(List.getElem?_eq_some_iff.1 hx).1
      have hi:i=q:=by simp[hl] at hlt;omega
      subst hi
      rw[List.getElem?_append_right (by omega),hl] at hx
      simp at hx
      subst hx
      exact hc
   exact this k (Nat.le_refl _)
  obtain⟨l,hll,hlp⟩:=hl'
  refine⟨some a,len,cap,l,hcs,hll,hl,hm,λc hc=>?_,λhne=>?_⟩
  ·obtain⟨i,hi⟩:=List.getElem?_of_mem hc
   exact(hlp i c hi).1
  ·obtain⟨b,off,spot⟩:=a
   have hpos:0<l.length:=List.length_pos_iff.2 hne
   have h0:=(hlp 0 l[0] (List.getElem?_eq_getElem hpos)).2 0 hn0
   have h1:(cf l[0])[0]? = some ((cf l[0])[0]'(by rw[hcf];exact hn0)):=List.getElem?_eq_getElem _
   rw[h1] at h0
   have hspot:spot=none:=by simpa[Addr.add] using World.cell?_spot h0
   subst hspot
   refine⟨b,off,rfl,by simpa[Addr.add] using World.block_lt_of_cell? w _ h0,λi c hc j u hu=>?_⟩
   have hj:j<n0:=by have:=(List.getElem?_eq_some_iff.1 hu).1;rw[hcf] at this;exact this
   have:=(hlp i c hc).2 j hj
   rw[hu,Addr.add_mid] at this
   rw[show off+i*n0+j=off+(i*n0+j) by omega]
   exact this
end
def StrS (w:World)(a:Option Addr)(len cap:Nat)(l:List ByteArray):Prop:=l.length=len/\len<=cap/\cap<=maxLen/\(∀s∈l,s.size<=maxLen)/\(l≠[]->∃b o,a=some ⟨b,o,none⟩/\b<w.heap.size/\∀i s,l[i]? = some s->w.rangeAt b (o+i*1) [.string s])
theorem StrS.at {w:World}{a:Option Addr}{len cap i:Nat}{l:List ByteArray}(h:StrS w a len cap l)(hi:i<len):∃(b o:Nat) (s:ByteArray),a=some ⟨b,o,none⟩/\b<w.heap.size/\l[i]? = some s/\s.size<=maxLen/\w.cell? ⟨b,o+i,none⟩=some (.string s):=by
 obtain⟨h1,h2,h3,h4,h5⟩:=h
 obtain⟨b,o,e,hl,hr⟩:=h5 (by intro e;rw[e] at h1;simp at h1;omega)
 have hc:l[i]? = some l[i]:=List.getElem?_eq_getElem (by omega)
 have:=hr i _ hc
 have h0:=this 0 _ rfl
 rw[Nat.mul_one] at h0
 exact⟨b,o,l[i],e,hl,hc,h4 _ (List.getElem_mem _),h0⟩
theorem clS:Tryz.prog.cellsOf 9=1:=by kernel_rfl
theorem open_strl {H:Type}{enc:TypeId×Value->H}{w:World}{base:Nat}{spare:Nat->Bool}{held:Bool}{fuel:Nat}{cs:List Value}{x:DataW H×List MemPlace}(h:DataW.trod enc Tryz.prog w base spare held fuel 37 cs=some x) :
  ∃(A:Option Addr) (len cap:Nat) (l:List ByteArray),cs=[.slice A len cap]/\StrS w A len cap l:=by
 obtain⟨A,len,cap,l,h1,h2,h3,h4,h5,h6⟩:=open_list Tryz.underlying37 clS (by omega) (λs=>[.string s]) (λs:ByteArray=>s.size<=maxLen) (λ_=>rfl) (λ {fuel} {cs} {x} h=>by
  obtain⟨s,h,_,hs⟩:=DataW.trod_string Tryz.underlying9 h
  exact⟨s,hs,h⟩) h
 exact⟨A,len,cap,l,h1,h2,h3,h4,h5,h6⟩
theorem StrS.below {w w':World}{a:Option Addr}{len cap B0:Nat}{l:List ByteArray}(h:StrS w a len cap l)(hb:Below B0 w w')(hB:w.heap.size<=B0):StrS w' a len cap l:=by
 obtain⟨h1,h2,h3,h4,h5⟩:=h
 refine⟨h1,h2,h3,h4,λhne=>?_⟩
 obtain⟨b,o,e,hl,hr⟩:=h5 hne
 exact⟨b,o,e,by have:=hb.size;omega,λi s hi j u hu=>(hb.cell (p:=⟨b,o+i*1+j,none⟩) (by show b<B0;omega)).trans (hr i s hi j u hu)⟩
def IntS (w:World)(a:Option Addr)(len cap:Nat)(l:List Int):Prop:=l.length=len/\len<=cap/\cap<=maxLen/\(∀s∈l,-9223372036854775808<=s/\s<=9223372036854775807)/\(l≠[]->∃b o,a=some ⟨b,o,none⟩/\b<w.heap.size/\∀i s,l[i]? = some s->w.rangeAt b (o+i*1) [.int .i64 s])
theorem IntS.below {w w':World}{a:Option Addr}{len cap B0:Nat}{l:List Int}(h:IntS w a len cap l)(hb:Below B0 w w')(hB:w.heap.size<=B0):IntS w' a len cap l:=by
 obtain⟨h1,h2,h3,h4,h5⟩:=h
 refine⟨h1,h2,h3,h4,λhne=>?_⟩
 obtain⟨b,o,e,hl,hr⟩:=h5 hne
 exact⟨b,o,e,by have:=hb.size;omega,λi s hi j u hu=>(hb.cell (p:=⟨b,o+i*1+j,none⟩) (by show b<B0;omega)).trans (hr i s hi j u hu)⟩
theorem IntS.at {w:World}{a:Option Addr}{len cap i:Nat}{l:List Int}(h:IntS w a len cap l)(hi:i<len):∃(b o:Nat) (s:Int),a=some ⟨b,o,none⟩/\b<w.heap.size/\l[i]? = some s/\w.cell? ⟨b,o+i,none⟩=some (.int .i64 s):=by
 obtain⟨h1,h2,h3,h4,h5⟩:=h
 obtain⟨b,o,e,hl,hr⟩:=h5 (by intro e;rw[e] at h1;simp at h1;omega)
 have hc:l[i]? = some l[i]:=List.getElem?_eq_getElem (by omega)
 have h0:=hr i _ hc 0 _ rfl
 rw[Nat.mul_one] at h0
 exact⟨b,o,l[i],e,hl,hc,h0⟩
theorem clInt:Tryz.prog.cellsOf 3=1:=by kernel_rfl
theorem open_ints {H:Type}{enc:TypeId×Value->H}{w:World}{base:Nat}{spare:Nat->Bool}{held:Bool}{fuel:Nat}{cs:List Value}{x:DataW H×List MemPlace}(h:DataW.trod enc Tryz.prog w base spare held fuel 36 cs=some x) :
  ∃(A:Option Addr) (len cap:Nat) (l:List Int),cs=[.slice A len cap]/\IntS w A len cap l:=by
 obtain⟨A,len,cap,l,h1,h2,h3,h4,h5,h6⟩:=open_list Tryz.underlying36 clInt (by omega) (λs=>[.int .i64 s]) (λs:Int=>-9223372036854775808<=s/\s<=9223372036854775807) (λ_=>rfl) (λ {fuel} {cs} {x} h=>by
  obtain⟨s,h,_,hs⟩:=DataW.trod_int (k:=.i64) Tryz.underlying3 h
  exact⟨s,bounds_i64 hs,h⟩) h
 exact⟨A,len,cap,l,h1,h2,h3,h4,h5,h6⟩
end
section
open Go.RowKit Go.ChangeShapes Go.WideShapes Go.ChangeAt Go.Deep
structure BC where
 kd:Int
 id:Int
 im:Int
 tr:Int
 ol:Value
 od:List Int
 ina:Bool
 raw:Bool
def cB (c:BC):List Value:=[.int .i64 c.kd,.int .i64 c.id,.int .i64 c.im,.int .i64 c.tr,c.ol,.bool c.ina,.bool c.raw]
def cBa (c:BC):Value:=.agg #[.int .i64 c.kd,.int .i64 c.id,.int .i64 c.im,.int .i64 c.tr,c.ol,.bool c.ina,.bool c.raw]
theorem IntS.rd {w:World}{a:Option Addr}{len cap:Nat}{l:List Int}(h:IntS w a len cap l):RdJ w (.slice a len cap) l:=by
 obtain⟨rfl,h2,h3,h4,h5⟩:=h
 refine⟨a,cap,rfl,h2,h3,λhne=>?_⟩
 obtain⟨b,o,rfl,hb,hx⟩:=h5 hne
 refine⟨b,o,rfl,hb,λi x hi=>?_⟩
 have:=hx i x hi 0 _ rfl
 rw[Nat.mul_one] at this
 exact this
def CallS (w:World)(a:Option Addr)(len cap:Nat)(l:List BC):Prop:=l.length=len/\len<=cap/\cap<=maxLen/\(∀c∈l,RdJ w c.ol c.od)/\(l≠[]->∃b o,a=some ⟨b,o,none⟩/\b<w.heap.size/\∀i c,l[i]? = some c->w.rangeAt b (o+i*7) (cB c))
structure CX (w:World)(b o:Nat)(c:BC):Prop where
 c0:w.cell? ⟨b,o,none⟩=some (.int .i64 c.kd)
 c1:w.cell? ⟨b,o+1,none⟩=some (.int .i64 c.id)
 c2:w.cell? ⟨b,o+2,none⟩=some (.int .i64 c.im)
 c3:w.cell? ⟨b,o+3,none⟩=some (.int .i64 c.tr)
 c4:w.cell? ⟨b,o+4,none⟩=some c.ol
 c5:w.cell? ⟨b,o+5,none⟩=some (.bool c.ina)
 c6:w.cell? ⟨b,o+6,none⟩=some (.bool c.raw)
 lt:b<w.heap.size
theorem CX.below {w w':World}{b o B0:Nat}{c:BC}(h:CX w b o c)(hb:Below B0 w w')(hB:b<B0):CX w' b o c:=by
 have k:∀j v,w.cell? ⟨b,j,none⟩=some v->w'.cell? ⟨b,j,none⟩=some v:=λj v hv=>(hb.cell (p:=⟨b,j,none⟩) hB).trans hv
 exact⟨k _ _ h.c0,k _ _ h.c1,k _ _ h.c2,k _ _ h.c3,k _ _ h.c4,k _ _ h.c5,k _ _ h.c6,Nat.lt_of_lt_of_le h.lt hb.size⟩
theorem CallS.at {w:World}{a:Option Addr}{len cap i:Nat}{l:List BC}(h:CallS w a len cap l)(hi:i<len):∃(b o:Nat) (c:BC),a=some ⟨b,o,none⟩/\l[i]? = some c/\RdJ w c.ol c.od/\CX w b (o+i*7) c:=by
 obtain⟨h1,h2,h3,h4,h5⟩:=h
 obtain⟨b,o,e,hl,hr⟩:=h5 (by intro e;rw[e] at h1;simp at h1;omega)
 have hc:l[i]? = some l[i]:=List.getElem?_eq_getElem (by omega)
 have q:=hr i _ hc
 exact⟨b,o,l[i],e,hc,h4 _ (List.getElem_mem _),q 0 _ rfl,q 1 _ rfl,q 2 _ rfl,q 3 _ rfl,q 4 _ rfl,q 5 _ rfl,q 6 _ rfl,hl⟩
theorem CX.made (w:World)(c:BC):CX (w.alloc (.cells #[.int .i64 c.kd,.int .i64 c.id,.int .i64 c.im,.int .i64 c.tr,c.ol,.bool c.ina,.bool c.raw] 54)) w.heap.size 0 c:=
 have h:=Row.ofList w 54 #[.int .i64 c.kd,.int .i64 c.id,.int .i64 c.im,.int .i64 c.tr,c.ol,.bool c.ina,.bool c.raw] (λi=>(cB c).getD i (.bool false)) 7 rfl
 ⟨h.cell (i:=0) (by omega),h.cell (i:=1) (by omega),h.cell (i:=2) (by omega),h.cell (i:=3) (by omega),h.cell (i:=4) (by omega),h.cell (i:=5) (by omega),h.cell (i:=6) (by omega),by simp⟩
section
variable {H:Type}{enc:TypeId×Value->H}{w:World}{base:Nat}{spare:Nat->Bool}{held:Bool}
theorem clInt1:Tryz.prog.cellsOf 3=1:=by kernel_rfl
theorem clBool1:Tryz.prog.cellsOf 4=1:=by kernel_rfl
theorem clInts:Tryz.prog.cellsOf 36=1:=by kernel_rfl
theorem clBC:Tryz.prog.cellsOf 54=7:=by kernel_rfl
theorem open_call {fuel:Nat}{cs:List Value}{x:DataW H×List MemPlace}(h:DataW.trod enc Tryz.prog w base spare held fuel 54 cs=some x):∃c:BC,RdJ w c.ol c.od/\cs=cB c:=by
 obtain⟨ys,n,hn,hy,hlen,hyl,hf⟩:=DataW.trod_struct Tryz.underlying54 h
 rw[clBC] at hlen
 match cs,hlen with
 | [c0,c1,c2,c3,c4,c5,c6],_=>
  match ys,hyl with
  | [y0,y1,y2,y3,y4,y5,y6],_=>
   obtain⟨a0,e0,_,_⟩:=DataW.trod_int (k:=.i64) Tryz.underlying3 (hf 0 _ rfl)
   obtain⟨a1,e1,_,_⟩:=DataW.trod_int (k:=.i64) Tryz.underlying3 (hf 1 _ rfl)
   obtain⟨a2,e2,_,_⟩:=DataW.trod_int (k:=.i64) Tryz.underlying3 (hf 2 _ rfl)
   obtain⟨a3,e3,_,_⟩:=DataW.trod_int (k:=.i64) Tryz.underlying3 (hf 3 _ rfl)
   obtain⟨A,len,cap,l,e4,hs⟩:=open_ints (hf 4 _ rfl)
   obtain⟨a5,e5,_⟩:=DataW.trod_bool Tryz.underlying4 (hf 5 _ rfl)
   obtain⟨a6,e6,_⟩:=DataW.trod_bool Tryz.underlying4 (hf 6 _ rfl)
   simp[clInt1,clBool1,clInts] at e0 e1 e2 e3 e4 e5 e6
   subst e0 e1 e2 e3 e4 e5 e6
   exact⟨⟨a0,a1,a2,a3,.slice A len cap,l,a5,a6⟩,hs.rd,rfl⟩
theorem open_calls {fuel:Nat}{cs:List Value}{x:DataW H×List MemPlace}(h:DataW.trod enc Tryz.prog w base spare held fuel 52 cs=some x) :
  ∃(A:Option Addr) (len cap:Nat) (l:List BC),cs=[.slice A len cap]/\CallS w A len cap l:=by
 obtain⟨A,len,cap,l,h1,h2,h3,h4,h5,h6⟩:=open_list Tryz.underlying52 clBC (by omega) cB (λc=>RdJ w c.ol c.od) (λ_=>rfl) (λh=>open_call h) h
 exact⟨A,len,cap,l,h1,h2,h3,h4,h5,h6⟩
end
end
section
attribute [local go_sem ↓] alloc34 load34 store34 build34d build34o Ms.alloc26 Ms.load26n Ms.store26n
attribute [local go_sem] Ms.set_new Ms.stN_b8 bl4V ecl_list cs32
def kern:ByteArray:=⟨#[107,101,114,110,101,108]⟩
theorem Cal.blk {m k:Nat}{fl:FL}{st:ST}(h:Cal m k fl st):st.blk<fl.B:=h.inv.blk
theorem awake_plain {fl:FL}(h:Cal 100 0 fl st0):∃b1 b2 b3 b4 b5 b6:BM,
  (setEntryB ⟨fl,st0,[],[],-1,[]⟩ 0 (sumS kern) true 2=(0,b1)/\b1.st.blk<b1.fl.B) /\
  (setEntryB b1 1 (sumS kern) true 2=(0,b2)/\b2.st.blk<b2.fl.B) /\
  (setOrderB b2 [0,1]=(0,b3)/\b3.st.blk<b3.fl.B) /\
  (beginB b3=(0,b4)/\b4.st.blk<b4.fl.B/\b4.cand=[0,1]/\b4.es=[]/\b4.log=[]) /\
  (tryB b4 [⟨#[]⟩,kern]=((0,6),0,b5)/\b5.st.blk<b5.fl.B/\b5.cand=[1]/\b5.es=[]/\b5.log.length=1) /\
  (tryB b5 [⟨#[]⟩,kern]=((1,0),0,b6)/\b6.st.blk<b6.fl.B/\b6.cand=[]/\b6.es.length=1/\b6.log.length=2):=by
 have hD:=sumS_len kern
 obtain⟨D,hDD⟩:∃D,sumS kern=D:=⟨_,rfl⟩
 rw[hDD] at hD ⊢
 have h0:Cal 100 0 (⟨fl,st0,[],[],-1,[]⟩:BM).fl (⟨fl,st0,[],[],-1,[]⟩:BM).st:=h
 obtain⟨b1,e1,c1,v1,k1⟩:=setEntryB_ok h0 (by omega) (j:=0) (by omega) hD true (n:=2) (by omega) (by omega)
 obtain⟨b2,e2,c2,v2,k2⟩:=setEntryB_ok c1 (by omega) (j:=1) (by omega) hD true (n:=2) (by omega) (by omega)
 have hok:okO [0,1]=true:=by decide
 obtain⟨b3,e3,c3,v3,k3⟩:=setOrderB_ok c2 (by omega) hok
 obtain⟨b4,e4,c4,v4,d4,l4,s4,n4⟩:=beginB_cal c3 (by omega)
 have gN:getV b3.st.V nmN=none:=by
  rw[v3,get_set_ne (λe=>ne_ON e.symm),v2,get_set_ne (ne_EN 1),v1,get_set_ne (ne_EN 0)]
  rfl
 have gD:denV b3.st.V=[]:=by
  have:getV b3.st.V nmD=none:=by
   rw[v3,get_set_ne (λe=>ne_OD e.symm),v2,get_set_ne (ne_ED 1),v1,get_set_ne (ne_ED 0)]
   rfl
  unfold denV;rw[this]
 rw[gN,if_pos rfl] at v4
 have hord:ordV b3.st.V=[0,1]:=by rw[v3,ordV_put hok]
 have hnx:nxtV b3.st.V=[]:=by unfold nxtV;rw[gN]
 have hcd:b4.cand=[0,1]:=by rw[d4];unfold cndV;rw[hnx,hord];rfl
 have he4:b4.es=[]:=by rw[n4,k3.2.2.2,k2.2.2.2,k1.2.2.2]
 have E0:entO b3.st.V ((0:Nat):Int)=some ⟨0,D,true,2,0⟩:=by
  rw[v3,entO_congrN (get_set_ne (ne_EO 0).symm),v2,entO_other (by omega) (by omega) (by omega),v1]
  exact entO_put (by omega) hD true (by omega) (by omega)
 have E1:entO b3.st.V ((1:Nat):Int)=some ⟨1,D,true,2,0⟩:=by
  rw[v3,entO_congrN (get_set_ne (ne_EO 1).symm),v2]
  exact entO_put (by omega) hD true (by omega) (by omega)
 have X0:exC b4.st.V 0 [⟨#[]⟩,kern]=6:=by
  rw[exC_some (v4▸E0)]
  exact if_pos (.inr rfl)
 have T0:=tryB_skip (b:=b4) (l:=[⟨#[]⟩,kern]) hcd X0 (by decide)
 have X1:exC b4.st.V 1 [⟨#[]⟩,kern]=0:=by
  have hk:([⟨#[]⟩,kern]:List ByteArray).getD 1 ⟨#[]⟩=kern:=rfl
  rw[exC_some (v4▸E1),hk,hDD,v4,gD]
  have h1:¬(([⟨#[]⟩,kern]:List ByteArray).length<=1\/kern.size=0):=by
   rintro (q|q)
   ·simp at q
   ·exact absurd q (by decide)
  rw[if_neg h1]
  simp
 obtain⟨b6,e6,c6,v6,d6,l6,s6,n6⟩:=tryB_start (b:={ b4 with cand:=[1],log:=b4.log++[(0,6)] }) (l:=[⟨#[]⟩,kern]) c4 (by omega) (x:=1) (r:=[]) (by omega) rfl (v4▸E1) X1
 exact⟨b1,b2,b3,b4,_,b6,⟨e1,c1.blk⟩,⟨e2,c2.blk⟩,⟨e3,c3.blk⟩,⟨e4,c4.blk,hcd,he4,l4⟩,⟨T0,c4.blk,rfl,he4,by simp[l4]⟩,e6,c6.blk,d6,by rw[n6];simp[he4],by rw[l6];simp[l4]⟩
theorem awake_any (w:World)(hr:Ms.Rnd w)(h0:0<w.heap.size):Calls Tryz.prog 20 #[] w λe w'=>e=.returned (.bool true)/\Below w.heap.size w w':=by
 have HBD:=Hh (board_any 100 (by omega) w hr h0)
 clear hr
 go_enter Tryz.func20,Tryz.ntmps20
 go_wp2_with fail
 refine HBD.out.mono ?_
 rintro e w1 ⟨X,L,M,S,O,fl,rfl,hbw,hcal,b1⟩
 have HP:=Hh (awake_plain hcal)
 have HB1:=Hh b1
 have HF1:=Hh (BF.of O hbw)
 have HK:Hid (kern.size<=1073741824):=by show kern.size<=_;decide
 have HSM:=Hh (sum_str kern w1 HK.out hbw.rnd hbw.pos)
 have HDL:=Hh (sumS_len kern)
 obtain⟨p1,p2,p3,p4,p5,p6,⟨e1,k1⟩,⟨e2,k2⟩,⟨e3,k3⟩,⟨e4,k4,d4,s4,l4⟩,⟨e5,k5,d5,s5,l5⟩,⟨e6,k6,d6,s6,l6⟩⟩:=HP.out
 generalize sumS kern=D at *
 have k0:st0.blk<fl.B:=hcal.blk
 have HK0:=Hh k0
 have HE1:=Hh (And.intro e1 k1)
 have HE2:=Hh (And.intro e2 k2)
 have HE3:=Hh (And.intro e3 k3)
 have HE4:=Hh (And.intro e4 (And.intro k4 (And.intro d4 (And.intro s4 l4))))
 have HE5:=Hh (And.intro e5 (And.intro k5 (And.intro d5 (And.intro s5 l5))))
 have HE6:=Hh (And.intro e6 (And.intro k6 (And.intro d6 (And.intro s6 l6))))
 clear hbw hcal b1 HBD HP e1 k1 e2 k2 e3 k3 e4 k4 d4 s4 l4 e5 k5 d5 s5 l5 e6 k6 d6 s6 l6 k0
 unfold kern at HSM
 go_wp2_with fail
 refine HSM.out.mono ?_
 rintro e w2 ⟨rfl,b2⟩
 have HB3:Hid (Below w1.heap.size w1 (w2.alloc (.cells (Ms.arr 32 (Ms.b8 (dgF D))) 31))):=b2.alloc b2.size _
 have HR3:=Hh (dg_row w2 D)
 have HF3:=Hh (HF1.out.add HB3.out (E:=w2.heap.size) b2.size HR3.out.lt)
 have HBW3:Hid (Below w.heap.size w (w2.alloc (.cells (Ms.arr 32 (Ms.b8 (dgF D))) 31))):=HB1.out.trans (HB3.out.mono HB1.out.size)
 have hld:=ld26 HR3.out
 have HS1:Hid (Calls Tryz.prog 13 #[fptr M,.agg (Ms.arr 35 (ecl 0 D true 2))] (w2.alloc (.cells (Ms.arr 32 (Ms.b8 (dgF D))) 31)) λe w'=>e=.returned (.int .i64 0)/\BL (w2.alloc (.cells (Ms.arr 32 (Ms.b8 (dgF D))) 31)) w' w.heap.size (λk=>False\/k=w2.heap.size) M S L 33 p1):=by
  have:=HF3.out.setEntry (n:=32) HK0.out (by omega) 0 HDL.out true 2
  rw[HE1.out.1] at this
  exact this
 clear b2 HSM HF1 HB3
 go_wp2_with fail
 refine HS1.out.mono ?_
 rintro e w4 ⟨rfl,bl4⟩
 generalize w2.heap.size=E at *
 have HR4:=Hh (HR3.out.ch bl4.ch (λq=>q (.inr rfl)))
 have HF4:=Hh bl4.bf
 have HBW4:Hid (Below w.heap.size w w4):=HBW3.out.trans bl4.bel
 clear bl4 HS1 HF3 HBW3 HR3 hld
 have hld:=ld26 HR4.out
 have HS2:Hid (Calls Tryz.prog 13 #[fptr M,.agg (Ms.arr 35 (ecl 1 D true 2))] w4 λe w'=>e=.returned (.int .i64 0)/\BL w4 w' w.heap.size (λk=>False\/k=E) M S L 34 p2):=by
  have:=HF4.out.setEntry (n:=33) HE1.out.2 (by omega) 1 HDL.out true 2
  rw[HE2.out.1] at this
  exact this
 go_wp2_with fail
 refine HS2.out.mono ?_
 rintro e w5 ⟨rfl,bl5⟩
 have HF5:Hid (BF w5 w.heap.size (λk=>False\/k=E) M S L 34 p2):=bl5.bf
 have HBW5:Hid (Below w.heap.size w w5):=HBW4.out.trans bl5.bel
 clear bl5 HS2 HF4 HBW4 HR4 hld
 have HB6:Hid (Below w5.heap.size w5 (w5.alloc (.cells #[.int .i64 0,.int .i64 1] 3))):=(Below.refl _ _).alloc (Nat.le_refl _) _
 have HF6:=Hh (HF5.out.below HB6.out)
 have HI6:Hid (RdI (w5.alloc (.cells #[.int .i64 0,.int .i64 1] 3)) (.slice (some ⟨w5.heap.size,0,none⟩) 2 2) [0,1]):=rdI_new w5 _ [0,1] rfl (by simp)
 have HS3:Hid (Calls Tryz.prog 15 #[fptr M,.slice (some ⟨w5.heap.size,0,none⟩) 2 2] (w5.alloc (.cells #[.int .i64 0,.int .i64 1] 3)) λe w'=>e=.returned (.int .i64 0)/\BL (w5.alloc (.cells #[.int .i64 0,.int .i64 1] 3)) w' w.heap.size (λk=>False\/k=E) M S L 35 p3):=by
  have:=HF6.out.setOrder (n:=34) HE2.out.2 (by omega) HI6.out.j
  rw[HE3.out.1] at this
  exact this
 go_wp2_with fail
 refine HS3.out.mono ?_
 rintro e w7 ⟨rfl,bl7⟩
 have HF7:Hid (BF w7 w.heap.size (λk=>False\/k=E) M S L 35 p3):=bl7.bf
 have HBW7:Hid (Below w.heap.size w w7):=(HBW5.out.trans (HB6.out.mono HBW5.out.size)).trans bl7.bel
 clear bl7 HS3 HF5 HF6 HB6 HI6 HBW5
 have HS4:Hid (Calls Tryz.prog 16 #[fptr M] w7 λe w'=>e=.returned (.int .i64 0)/\BL w7 w' w.heap.size (λk=>False\/k=E) M S L 36 p4):=by
  have:=HF7.out.begin (n:=35) HE3.out.2 (by omega)
  rw[HE4.out.1] at this
  exact this
 go_wp2_with fail
 refine HS4.out.mono ?_
 rintro e w8 ⟨rfl,bl8⟩
 have HF8:Hid (BF w8 w.heap.size (λk=>False\/k=E) M S L 36 p4):=bl8.bf
 have HBW8:Hid (Below w.heap.size w w8):=HBW7.out.trans bl8.bel
 clear bl8 HS4 HF7 HBW7
 have HB9:Hid (Below w8.heap.size w8 (w8.alloc (.cells #[.string ⟨#[]⟩,.string ⟨#[107,101,114,110,101,108]⟩] 9))):=(Below.refl _ _).alloc (Nat.le_refl _) _
 have HT9:Hid (RdT (w8.alloc (.cells #[.string ⟨#[]⟩,.string ⟨#[107,101,114,110,101,108]⟩] 9)) (.slice (some ⟨w8.heap.size,0,none⟩) 2 2) [⟨#[]⟩,kern]):=rdT_new w8 _ [⟨#[]⟩,kern] rfl (by simp)
 have HF9:=Hh (HF8.out.add HB9.out (E:=w8.heap.size) (Nat.le_refl _) (by simp))
 have HBW9:Hid (Below w.heap.size w (w8.alloc (.cells #[.string ⟨#[]⟩,.string ⟨#[107,101,114,110,101,108]⟩] 9))):=HBW8.out.trans (HB9.out.mono HBW8.out.size)
 have HSZ:Hid (∀x∈([⟨#[]⟩,kern]:List ByteArray),x.size<=1073741824):=λx hx=>by
  rcases List.mem_cons.1 hx with rfl|hx
  ·decide
  ·rw[List.mem_singleton.1 hx];exact HK.out
 go_wp2_with fail
 generalize w8.alloc (.cells #[.string ⟨#[]⟩,.string ⟨#[107,101,114,110,101,108]⟩] 9)=w9 at *
 generalize w8.heap.size=G at *
 clear HF8 HB9 HBW8
 have HS5:Hid (Calls Tryz.prog 17 #[fptr M,.slice (some ⟨G,0,none⟩) 2 2] w9 λe w'=>e=.returned (.tuple #[.agg #[.int .i64 0,.int .i64 6],.int .i64 0])/\BL w9 w' w.heap.size (λk=>(False\/k=E)\/k=G) M S L 37 p5):=by
  have:=HF9.out.try (n:=36) HE4.out.2.1 (by omega) (by rw[HE4.out.2.2.1];decide) (by rw[HE4.out.2.2.2.1];decide) (by rw[HE4.out.2.2.2.2];decide) HT9.out (λg hg=>.inr (by simpa[Value.ownBlock] using hg.symm)) HSZ.out
  rw[HE5.out.1] at this
  exact this
 refine HS5.out.mono ?_
 rintro e w10 ⟨rfl,bl10⟩
 have HT11:Hid (RdT (w10.alloc (.cells #[.int .i64 0,.int .i64 6] 40)) (.slice (some ⟨G,0,none⟩) 2 2) [⟨#[]⟩,kern]):=(HT9.out.ch bl10.ch (λg hg q=>q (.inr (by simpa[Value.ownBlock] using hg.symm)))).below ((Below.refl _ _).alloc (Nat.le_refl _) _)
 have HR11:Hid (Row (w10.alloc (.cells #[.int .i64 0,.int .i64 6] 40)) w10.heap.size 40 2 (stp 0 6)):=Row.ofList w10 _ _ _ 2 rfl
 have HF11:=Hh (bl10.bf.add (w':=w10.alloc (.cells #[.int .i64 0,.int .i64 6] 40)) ((Below.refl _ _).alloc (Nat.le_refl _) _) (E:=w10.heap.size) (Nat.le_refl _) (by simp))
 have HBW11:Hid (Below w.heap.size w (w10.alloc (.cells #[.int .i64 0,.int .i64 6] 40))):=(HBW9.out.trans bl10.bel).alloc ((HBW9.out.trans bl10.bel).size) _
 clear bl10 HS5 HF9 HBW9 HT9
 go_wp2_with fail
 generalize w10.alloc (.cells #[.int .i64 0,.int .i64 6] 40)=w11 at *
 generalize w10.heap.size=B1 at *
 have HS6:Hid (Calls Tryz.prog 17 #[fptr M,.slice (some ⟨G,0,none⟩) 2 2] w11 λe w'=>e=.returned (.tuple #[.agg #[.int .i64 1,.int .i64 0],.int .i64 0])/\BL w11 w' w.heap.size (λk=>((False\/k=E)\/k=G)\/k=B1) M S L 38 p6):=by
  have:=HF11.out.try (n:=37) HE5.out.2.1 (by omega) (by rw[HE5.out.2.2.1];decide) (by rw[HE5.out.2.2.2.1];decide) (by rw[HE5.out.2.2.2.2];decide) HT11.out (λg hg=>.inl (.inr (by simpa[Value.ownBlock] using hg.symm))) HSZ.out
  rw[HE6.out.1] at this
  exact this
 refine HS6.out.mono ?_
 rintro e w12 ⟨rfl,bl12⟩
 have HT13:Hid (RdT (w12.alloc (.cells #[.int .i64 1,.int .i64 0] 40)) (.slice (some ⟨G,0,none⟩) 2 2) [⟨#[]⟩,kern]):=(HT11.out.ch bl12.ch (λg hg q=>q (.inl (.inr (by simpa[Value.ownBlock] using hg.symm))))).below ((Below.refl _ _).alloc (Nat.le_refl _) _)
 have HR13:Hid (Row (w12.alloc (.cells #[.int .i64 1,.int .i64 0] 40)) w12.heap.size 40 2 (stp 1 0)):=Row.ofList w12 _ _ _ 2 rfl
 have HR11b:Hid (Row (w12.alloc (.cells #[.int .i64 1,.int .i64 0] 40)) B1 40 2 (stp 0 6)):=(HR11.out.ch bl12.ch (λq=>q (.inr rfl))).alloc _
 have HF13:=Hh (bl12.bf.add (w':=w12.alloc (.cells #[.int .i64 1,.int .i64 0] 40)) ((Below.refl _ _).alloc (Nat.le_refl _) _) (E:=w12.heap.size) (Nat.le_refl _) (by simp))
 have HBW13:Hid (Below w.heap.size w (w12.alloc (.cells #[.int .i64 1,.int .i64 0] 40))):=(HBW11.out.trans bl12.bel).alloc ((HBW11.out.trans bl12.bel).size) _
 clear bl12 HS6 HF11 HBW11 HT11 HR11
 go_wp2_with fail
 generalize w12.alloc (.cells #[.int .i64 1,.int .i64 0] 40)=w13 at *
 generalize w12.heap.size=B2 at *
 have HS7:Hid (Calls Tryz.prog 17 #[fptr M,.slice (some ⟨G,0,none⟩) 2 2] w13 λe w'=>e=.returned (.tuple #[.agg #[.int .i64 0,.int .i64 0],.int .i64 6])/\BL w13 w' w.heap.size (λk=>(((False\/k=E)\/k=G)\/k=B1)\/k=B2) M S L 39 p6):=by
  have:=HF13.out.try (n:=38) HE6.out.2.1 (by omega) (by rw[HE6.out.2.2.1];simp) (by rw[HE6.out.2.2.2.1];decide) (by rw[HE6.out.2.2.2.2];decide) HT13.out (λg hg=>.inl (.inl (.inr (by simpa[Value.ownBlock] using hg.symm)))) HSZ.out
  rw[tryB_none HE6.out.2.2.1] at this
  exact this
 refine HS7.out.mono ?_
 rintro e w14 ⟨rfl,bl14⟩
 have HR13b:Hid (Row (w14.alloc (.cells #[.int .i64 0,.int .i64 0] 40)) B2 40 2 (stp 1 0)):=(HR13.out.ch bl14.ch (λq=>q (.inr rfl))).alloc _
 have HR11c:Hid (Row (w14.alloc (.cells #[.int .i64 0,.int .i64 0] 40)) B1 40 2 (stp 0 6)):=(HR11b.out.ch bl14.ch (λq=>q (.inl (.inr rfl)))).alloc _
 have HF15:=Hh (bl14.bf.below (w':=w14.alloc (.cells #[.int .i64 0,.int .i64 0] 40)) ((Below.refl _ _).alloc (Nat.le_refl _) _))
 have HBW15:Hid (Below w.heap.size w (w14.alloc (.cells #[.int .i64 0,.int .i64 0] 40))):=(HBW13.out.trans bl14.bel).alloc ((HBW13.out.trans bl14.bel).size) _
 clear bl14 HS7 HF13 HBW13 HT13 HR13 HR11b
 have x0:(w14.alloc (.cells #[.int .i64 0,.int .i64 0] 40)).cell? ⟨B1,0,none⟩=some (.int .i64 0):=HR11c.out.cell (i:=0) (by omega)
 have x1:(w14.alloc (.cells #[.int .i64 0,.int .i64 0] 40)).cell? ⟨B1,1,none⟩=some (.int .i64 6):=HR11c.out.cell (i:=1) (by omega)
 have y0:(w14.alloc (.cells #[.int .i64 0,.int .i64 0] 40)).cell? ⟨B2,0,none⟩=some (.int .i64 1):=HR13b.out.cell (i:=0) (by omega)
 have y1:(w14.alloc (.cells #[.int .i64 0,.int .i64 0] 40)).cell? ⟨B2,1,none⟩=some (.int .i64 0):=HR13b.out.cell (i:=1) (by omega)
 have q1:=λ W=>eqSt 0 6 0 6 W
 have q2:=λ W=>eqSt 1 0 1 0 W
 have HEV:=Hh (HF15.out.events (by rw[HE6.out.2.2.2.1];omega))
 go_wp2_with fail
 generalize w14.alloc (.cells #[.int .i64 0,.int .i64 0] 40)=w15 at *
 refine HEV.out.mono ?_
 rintro e w16 ⟨v,rfl,ho,b16⟩
 obtain⟨va,vc,rfl⟩:=Ms.own_len ho
 have hl1:=HE6.out.2.2.2.1
 rw[hl1]
 have HB16:Hid (Below w.heap.size w w16):=HBW15.out.trans (b16.mono HBW15.out.size)
 clear ho b16 HEV x0 x1 y0 y1 q1 q2
 go_wp2_with fail
 go_ret
 exact⟨by simp,HB16.out⟩
end
def imgs:List ByteArray:=[⟨#[]⟩,kern,⟨#[107,101,114,110,101,108,32,50]⟩,⟨#[114,101,99,111,118,101,114,121]⟩,⟨#[0]⟩]
def imgB (k:Int):ByteArray:=imgs.getD (mo k 5) ⟨#[]⟩
def cidV (c:BC):Int:=if c.raw=true then c.id else ((mo c.id 5:Nat):Int)
def imgA:Value:=.agg #[.string ⟨#[]⟩,.string ⟨#[107,101,114,110,101,108]⟩,.string ⟨#[107,101,114,110,101,108,32,50]⟩,.string ⟨#[114,101,99,111,118,101,114,121]⟩,.string ⟨#[0]⟩]
theorem img0 (w:World):Sem.run Tryz.prog (Instr.index 190 imgA (.int .i64 0)) w=.ok (.string ⟨#[]⟩) w:=by kernel_rfl
theorem img1 (w:World):Sem.run Tryz.prog (Instr.index 190 imgA (.int .i64 1)) w=.ok (.string kern) w:=by kernel_rfl
theorem img2 (w:World):Sem.run Tryz.prog (Instr.index 190 imgA (.int .i64 2)) w=.ok (.string ⟨#[107,101,114,110,101,108,32,50]⟩) w:=by kernel_rfl
theorem img3 (w:World):Sem.run Tryz.prog (Instr.index 190 imgA (.int .i64 3)) w=.ok (.string ⟨#[114,101,99,111,118,101,114,121]⟩) w:=by kernel_rfl
theorem img4 (w:World):Sem.run Tryz.prog (Instr.index 190 imgA (.int .i64 4)) w=.ok (.string ⟨#[0]⟩) w:=by kernel_rfl
theorem imgB_size (k:Int):(imgB k).size<=8:=by
 unfold imgB
 have hlt:mo k 5<5:=mo_lt k 5 (by omega)
 generalize mo k 5=m at *
 have h5:m=0\/m=1\/m=2\/m=3\/m=4:=by omega
 rcases h5 with rfl|rfl|rfl|rfl|rfl<;>decide
theorem image_any (k:Int)(w:World):Calls Tryz.prog 66 #[.int .i64 k] w λe w'=>e=.returned (.string (imgB k))/\w=w':=by
 have HM:=mod_any k 5 w (by omega) (by omega)
 have hlt:mo k 5<5:=mo_lt k 5 (by omega)
 unfold imgB
 generalize mo k 5=m at *
 go_enter Tryz.func66,Tryz.ntmps66
 go_wp2_with fail
 refine HM.mono ?_
 rintro e w' ⟨rfl,rfl⟩
 have h5:m=0\/m=1\/m=2\/m=3\/m=4:=by omega
 clear HM hlt
 have i0:=img0 w
 have i1:=img1 w
 have i2:=img2 w
 have i3:=img3 w
 have i4:=img4 w
 unfold imgA at i0 i1 i2 i3 i4
 rcases h5 with rfl|rfl|rfl|rfl|rfl
 all_goals
  go_wp2_with fail
  go_ret
  exact⟨rfl,rfl⟩
theorem cid_any (c:BC)(w:World):Calls Tryz.prog 64 #[cBa c] w λe w'=>e=.returned (.int .i64 (cidV c))/\Below w.heap.size w w':=by
 have hr:(c.raw=false/\cidV c=((mo c.id 5:Nat):Int))\/(c.raw=true/\cidV c=c.id):=by
  unfold cidV
  cases c.raw
  ·exact .inl ⟨rfl,if_neg (by simp)⟩
  ·exact .inr ⟨rfl,if_pos rfl⟩
 unfold cBa
 have HX:=CX.made w c
 have HB:Hid (Below w.heap.size w (w.alloc (.cells #[.int .i64 c.kd,.int .i64 c.id,.int .i64 c.im,.int .i64 c.tr,c.ol,.bool c.ina,.bool c.raw] 54))):=(Below.refl _ _).alloc (Nat.le_refl _) _
 go_enter Tryz.func64,Tryz.ntmps64
 go_upto_region 1 with fail
 generalize (w.alloc (.cells #[.int .i64 c.kd,.int .i64 c.id,.int .i64 c.im,.int .i64 c.tr,c.ol,.bool c.ina,.bool c.raw] 54))=w0 at *
 obtain⟨_,c1,_,_,_,_,c6,_⟩:=HX
 have HM:=mod_any c.id 5 w0 (by omega) (by omega)
 rcases hr with ⟨hr,hv⟩|⟨hr,hv⟩
 ·rw[hr] at c6
  go_wp2_with fail
  refine HM.mono ?_
  rintro e w' ⟨rfl,rfl⟩
  go_wp2_with fail
  go_ret
  exact⟨by rw[hv];rfl,HB.out⟩
 ·rw[hr] at c6
  go_wp2_with fail
  go_ret
  exact⟨by rw[hv];rfl,HB.out⟩
section
open Go
inductive PTw where
 | nil
 | one (k c:Nat) (r:PTw)
 | two (k j:Nat) (r s:PTw)
def PTw.deep:PTw->Nat
 | .nil=>0
 | .one _ _ r=>r.deep+1
 | .two _ _ r s=>max r.deep s.deep+1
section
variable {P:Program}{ops:Array Oper}{Q:Exit->Act->World->Prop}{md:Region.Mode}{S:World->Prop}
def wpTw (P:Program)(ops:Array Oper)(Q:Exit->Act->World->Prop)(S:World->Prop):PTw->Act->World->Prop
 | .nil,a,w=>Q .normal a w
 | .one k 0 r,a,w=>∃o v,ops[k]? = some o/\YS P ops S o v a/\S w/\wpTw P ops Q S r (a.put o.dst v) w
 | .one k (_+1) r,a,w=>wpOp P ops Q k (λa' w'=>S w'/\wpTw P ops Q S r a' w') a w
 | .two k j r s,a,w=>wpOp P ops Q k (λa' w'=>S w'/\wpTw P ops Q S r a' w') a w/\wpOp P ops Q j (λa' w'=>S w'/\wpTw P ops Q S s a' w') a w
def plT (md:Region.Mode)(ops:Array Oper):PTw->Array Bool->Bool
 | .nil,listed=>(Region.ready md ops listed).isEmpty
 | .one k 0 r,listed=>(Region.ready md ops listed).contains k&&Region.free md ops listed k&&plT md ops r (listed.setIfInBounds k true)
 | .one k (_+1) r,listed=>decide (Region.ready md ops listed=[k])&&plT md ops r (listed.setIfInBounds k true)
 | .two k j r s,listed=>decide (Region.ready md ops listed=[k,j])&&plT md ops r (listed.setIfInBounds k true)&&plT md ops s (listed.setIfInBounds j true)
def plTOK (md:Region.Mode)(ops:Array Oper)(pl:PTw):Bool:=
 decide (pl.deep<=ops.size)&&Region.noSelect ops&&plT md ops pl (Array.replicate ops.size false)
theorem wpAnyP_treew (hsel:Region.noSelect ops=true)(hQ:∀c a w,¬Q (.panic c) a w)(pl:PTw) :
  ∀(fuel:Nat) (listed:Array Bool) (a:Act) (w:World),pl.deep<=fuel->plT md ops pl listed=true->wpTw P ops Q S pl a w->wpAnyP P md ops Q S (λ_=>false) fuel listed a w:=by
 induction pl with
 | nil=>
  intro fuel listed a w _ hB h
  have hB':Region.ready md ops listed=[]:=by simpa[plT] using hB
  cases fuel with
  | zero=>exact⟨hB',h⟩
  | succ f=>exact⟨λ_=>h,λi hi=>by rw[hB'] at hi;cases hi⟩
 | one k c r ih=>
  intro fuel listed a w hf hB h
  obtain⟨f,rfl⟩:∃f,fuel=f+1:=⟨fuel-1,by simp only[PTw.deep] at hf;omega⟩
  have hf':r.deep<=f:=by simp only[PTw.deep] at hf;omega
  match c,hB,h with
  | 0,hB,h=>
   simp only[plT,Bool.and_eq_true] at hB
   obtain⟨⟨hr,hfr⟩,hB'⟩:=hB
   obtain⟨o,v,ho,hy,hS,hK⟩:=h
   exact wpAnyP_first ho (Region.noSelect_spec hsel) hQ (λj oj hj hNj=>by cases hNj) _ listed a w (Region.free_spec ho hfr) (by simpa using hr) hy hS (ih _ _ _ _ hf' hB' hK)
  | c+1,hB,h=>
   simp only[plT,Bool.and_eq_true,decide_eq_true_eq] at hB
   refine⟨λh1=>(by rw[hB.1] at h1;cases h1),λi hi=>?_⟩
   rw[hB.1] at hi
   have hik:i=k:=by simpa using hi
   subst hik
   exact wpOp_mono (λa' w' h'=>⟨.inr h'.1,ih _ _ a' w' hf' hB.2 h'.2⟩) h
 | two k j r s ihr ihs=>
  intro fuel listed a w hf hB h
  obtain⟨f,rfl⟩:∃f,fuel=f+1:=⟨fuel-1,by simp only[PTw.deep] at hf;omega⟩
  have hf1:r.deep<=f:=by simp only[PTw.deep] at hf;omega
  have hf2:s.deep<=f:=by simp only[PTw.deep] at hf;omega
  simp only[plT,Bool.and_eq_true,decide_eq_true_eq] at hB
  refine⟨λh1=>(by rw[hB.1.1] at h1;cases h1),λi hi=>?_⟩
  rw[hB.1.1] at hi
  have hik:i=k\/i=j:=by simpa using hi
  rcases hik with rfl|rfl
  ·exact wpOp_mono (λa' w' h'=>⟨.inr h'.1,ihr _ _ a' w' hf1 hB.1.2 h'.2⟩) h.1
  ·exact wpOp_mono (λa' w' h'=>⟨.inr h'.1,ihs _ _ a' w' hf2 hB.2 h'.2⟩) h.2
theorem wp_region_ptw {id:Nat}{a:Act}{w:World}{l:List Oper}(S:World->Prop)(pl:PTw)(hm:P.follows .mixedOrders=true)(hB:plTOK .any l.toArray pl=true)
  (h:wpTw P l.toArray (NoPanic Q) S pl a w.drew):(Code.region id l.toArray true).wp P Q a w:=by
 simp only[plTOK,Bool.and_eq_true,decide_eq_true_eq] at hB
 obtain⟨⟨hn,hsel⟩,hB⟩:=hB
 refine wp_region_noPanic (wp_region_any hm (wpAny_of_P (S:=S) (N:=λ_=>false) _ _ _ _ ?_))
 exact wpAnyP_treew (P:=P) (md:=.any) (Q:=NoPanic Q) (S:=S) (ops:=l.toArray) hsel (λc a w h=>h) pl _ _ a w.drew hn hB h
variable {k j:Nat}{o o':Oper}{l t t':List Oper}{r s:PTw}{a:Act}{w:World}
theorem wpTw_go (ho:l.drop k=o::t)(hw:Region.wanted o (yielded l.toArray a.tmps)=true)(hS:S w)(v:Value)(hr:∀X,S X->(execOp a.eval o).run P X=.ok (.value v) X)
  (h:∀K:Act->Prop,(∀a',wpTw P l.toArray Q S r a' w->K a')->K (a.put o.dst v)):wpTw P l.toArray Q S (.one k 0 r) a w:=⟨o,v,op_at ho,YS.run hw hr,hS,h _ (λ_ h=>h)⟩
theorem wpTw_call (ho:l.drop k=o::t)(hw:Region.wanted o (yielded l.toArray a.tmps)=true)(hS:S w)(v:Value)(f:FuncId)(args:Array Value)(hr:∀X,S X->(execOp a.eval o).run P X=.ok (.enter f args) X)
  (hc:∀X,S X->Calls P f args X λe w'=>e=.returned v/\X=w')
  (h:∀K:Act->Prop,(∀a',wpTw P l.toArray Q S r a' w->K a')->K (a.put o.dst v)):wpTw P l.toArray Q S (.one k 0 r) a w:=
 ⟨o,v,op_at ho,.inl ⟨hw,λw hS=>.inr (.inr ⟨f,args,hr w hS,(hc w hS).mono λ_ _ ⟨h1,h2⟩=>⟨h1,h2.symm⟩⟩)⟩,hS,h _ (λ_ h=>h)⟩
theorem wpOp_one {G:Act->World->Prop}(ho:l.drop k=o::t)
  (h:∀K:Act->World->Prop,(∀a w,G a w->K a w)->if Region.wanted o (yielded l.toArray a.tmps) then o.wp P a w K Q else K (a.put o.dst undef) w):wpOp P l.toArray Q k G a w:=by
 have:=h G (λa w h=>h)
 unfold wpOp
 simp only[op_at ho]
 split
 ·rename_i hw;rw[if_pos hw] at this;exact .inl this
 ·rename_i hw;rw[if_neg hw] at this;exact this
theorem wpTw_one (ho:l.drop k=o::t)
  (h:∀K:Act->World->Prop,(∀a w,S w->wpTw P l.toArray Q S r a w->K a w)->if Region.wanted o (yielded l.toArray a.tmps) then o.wp P a w K Q else K (a.put o.dst undef) w):wpTw P l.toArray Q S (.one k 1 r) a w:=by
 show wpOp _ _ _ _ _ _ _
 exact wpOp_one ho λ K hK=>h K λa w h1 h2=>hK a w ⟨h1,h2⟩
theorem wpTw_two (ho:l.drop k=o::t)(ho':l.drop j=o'::t')
  (h:∀K:Act->World->Prop,(∀a w,S w->wpTw P l.toArray Q S r a w->K a w)->if Region.wanted o (yielded l.toArray a.tmps) then o.wp P a w K Q else K (a.put o.dst undef) w)
  (h':∀K:Act->World->Prop,(∀a w,S w->wpTw P l.toArray Q S s a w->K a w)->if Region.wanted o' (yielded l.toArray a.tmps) then o'.wp P a w K Q else K (a.put o'.dst undef) w):wpTw P l.toArray Q S (.two k j r s) a w:=
 ⟨wpOp_one ho λ K hK=>h K λa w h1 h2=>hK a w ⟨h1,h2⟩,wpOp_one ho' λ K hK=>h' K λa w h1 h2=>hK a w ⟨h1,h2⟩⟩
theorem wpTw_done (h:Q .normal a w):wpTw P l.toArray (NoPanic Q) S .nil a w:=h
end
end
end Go.Proofs.YtdinbpdpalgohaaGreatDoor
