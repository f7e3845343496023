/- Walks and laws: OP. Conditions: those that each theorem names. -/
import Derived.Test.YtdinbpdpalgohaaGreatDoorX4
set_option maxHeartbeats 4000000
set_option maxRecDepth 100000
namespace Go.Proofs.YtdinbpdpalgohaaGreatDoor
open Go.RowKit
section
def hdrG (ps:List Str):Option Nat:=match dec ps with
 | some (k,_,v,_)=>if k=3 then some (numB v) else none
 | none=>none
def pickG (o:Option (Nat×Nat))(k:Nat):Option Nat->Option (Nat×Nat)
 | none=>o
 | some g'=>match o with
  | none=>some (k,g')
  | some (b,g)=>if g<g' then some (k,g') else some (b,g)
def opnK (fl:FL):Nat->Option (Nat×Nat)
 | 0=>none
 | k+1=>pickG (opnK fl k) k (hdrG (pgsF fl k))
def opnF (fl:FL):Int×Option ST:=
 if (decide (2<=fl.B)&&decide (2<=fl.P))=false then (1,none) else if fl.off=true then (16,none) else
 match opnK fl fl.B with
 | none=>(6,none)
 | some (b,g)=>(0,some ⟨(rpl fl.P (pgsF fl b) [] 1).1,b,g,(rpl fl.P (pgsF fl b) [] 1).2.1,(rpl fl.P (pgsF fl b) [] 1).2.2⟩)
theorem opnK_lt (fl:FL):∀k b g,opnK fl k=some (b,g)->b<k
 | 0,_,_,h=>by cases h
 | k+1,b,g,h=>by
  unfold opnK pickG at h
  split at h
  ·have:=opnK_lt fl k b g h;omega
  ·split at h
   ·injection h with h;injection h with h;omega
   ·rename_i b0 g0 h0
    split at h
    ·injection h with h;injection h with h;omega
    ·injection h with h;injection h with h1 h2
     have:=opnK_lt fl k b0 g0 h0;omega
theorem hdrG_no {ps:List Str}(h:dec ps=none):hdrG ps=none:=by unfold hdrG;rw[h]
theorem hdrG_k {ps:List Str}{k c:Nat}{n v:Str}(h:dec ps=some (k,n,v,c))(hk:k≠3):hdrG ps=none:=by unfold hdrG;rw[h];simp[hk]
theorem hdrG_3 {ps:List Str}{c:Nat}{n v:Str}(h:dec ps=some (3,n,v,c)):hdrG ps=some (numB v):=by unfold hdrG;rw[h];simp
def curV (cur:Option Nat)(P:Nat):Value:=match cur with
 | none=>.slice none 0 0
 | some g=>.slice (some ⟨g,0,none⟩) P P
theorem SW.withBlk {w:World}{D:Nat->Prop}{S X m n b g:Nat}{st:ST}(h:SW w D S X m n st)(hb:b<=1000)(hg:g<=18446744073709551615) :
  SW ((w.setCell ⟨S,2,none⟩ (.int .i64 (b:Int))).setCell ⟨S,3,none⟩ (.int .u64 (g:Int))) D S X m n ⟨st.V,b,g,st.nxt,st.clo⟩:=
 { top:=((h.top.set (i:=2) (by omega) (.int .i64 (b:Int))).set (i:=3) (by omega) (.int .u64 (g:Int))).congr λj hj=>by
    rcases(by omega:j=0\/j=1\/j=2\/j=3\/j=4\/j=5) with e|e|e|e|e|e<;>subst e<;>simp[upd,stc]
   map:=h.map.ch (((Ch.refl (λx=>x=S) w).setCell (p:=⟨S,2,none⟩) (λ_=>rfl) _).setCell (p:=⟨S,3,none⟩) (λ_=>rfl) _) h.mS
   dS:=h.dS,dm:=h.dm,fin:=λk hk=>by simpa[World.setCell] using h.fin k hk
   srt:=h.srt,hv:=h.hv,hg:=hg,hn:=h.hn,hb:=hb }
section
variable {w:World}{D:Nat->Prop}{X:Nat}{y:FLay}{fl:FL}
theorem open_any (h:FW w D X y fl):Calls Tryz.prog 37 #[fptr X] w λe w'=>Below w.heap.size w w' /\
  ((∃c,opnF fl=(c,none)/\e=.returned (.tuple #[.pointer none,.int .i64 c])) \/
  (∃st S m DS,opnF fl=(0,some st)/\e=.returned (.tuple #[fptr S,.int .i64 0])/\(∀k,DS k->w.heap.size<=k)/\SW w' DS S X m 32 st/\st.blk<fl.B)):=by
 have HUS:=Hh (usable_any h)
 have H:=Hh h
 have hB:=h.hB
 have hP:=h.hP
 obtain⟨us,hus⟩:∃us,(decide (2<=fl.B)&&decide (2<=fl.P))=us:=⟨_,rfl⟩
 rw[hus] at HUS
 have HU:=Hh hus
 clear h hus
 cases us
 ·have HE:Hid (opnF fl=(1,none)):=by show _=_;unfold opnF;rw[if_pos HU.out]
  go_enter Tryz.func37,Tryz.ntmps37
  go_wp2_with fail
  refine HUS.out.mono ?_
  rintro e w1 ⟨rfl,b1⟩
  go_wp2_with fail
  go_ret2
  exact⟨b1,.inl ⟨1,HE.out,rfl⟩⟩
 ·have hB2:2<=fl.B:=by have:=HU.out;simp at this;exact this.1
  go_enter Tryz.func37,Tryz.ntmps37
  go_wp2_with fail
  refine HUS.out.mono ?_
  rintro e w1 ⟨rfl,b1⟩
  have HB1:=Hh b1
  clear b1 HUS
  have hmm:=@run_makeMap Tryz.prog
  go_wp2_with fail
  obtain⟨m,hm⟩:∃m,w1.heap.size=m:=⟨_,rfl⟩
  have hmw:w.heap.size<=m:=by rw[<-hm];exact HB1.out.size
  have b2:Below w1.heap.size w1 ((w1.alloc (.map #[] 0)).alloc (.cells #[fptr X,.map (some w1.heap.size),.int .i64 0,.int .u64 0,.int .i64 1,.bool false] 158)):=((Below.refl _ _).alloc (Nat.le_refl _) _).alloc (by simp) _
  have HB2:Hid (Below w.heap.size w ((w1.alloc (.map #[] 0)).alloc (.cells #[fptr X,.map (some w1.heap.size),.int .i64 0,.int .u64 0,.int .i64 1,.bool false] 158))):=HB1.out.trans (b2.mono HB1.out.size)
  have HS2:Hid (SW ((w1.alloc (.map #[] 0)).alloc (.cells #[fptr X,.map (some w1.heap.size),.int .i64 0,.int .u64 0,.int .i64 1,.bool false] 158)) (λk=>k=m\/k=m+1) (m+1) X m 0 ⟨[],0,0,1,false⟩):=by
   have hsz:(w1.alloc (.map #[] 0)).heap.size=m+1:=by simp[hm]
   have hmm:=SM.made w1
   rw[hm] at hmm ⊢
   refine⟨?_,hmm.ch (Ch.alloc (Ch.refl (λ_=>False) _) _) id,.inr rfl,.inl rfl,λk hk=>by simp[hm];omega,by simp[Srt],by simp,by simp,by simp,by simp⟩
   rw[<-hsz]
   refine⟨_,heap_alloc_new _ _,λj hj=>?_⟩
   rcases(by omega:j=0\/j=1\/j=2\/j=3\/j=4\/j=5) with e|e|e|e|e|e<;>subst e<;>rfl
  have hs1:w1.heap.size+1=m+1:=by rw[hm]
  rw[hs1]
  rw[hm] at HB2 HS2 ⊢
  clear hmm b2 hs1 hm
  have hnl0:∀W,(binOp .eql 37 (.slice none 0 0) (.slice none 0 0)).run Tryz.prog W=.ok (.bool true) W:=λ W=>Lib.run_eql_slice_nil (P:=Tryz.prog) W 37 9 none 0 0 0 0 Tryz.underlying37
  have hnl1:∀W g,(binOp .eql 37 (.slice (some ⟨g,0,none⟩) fl.P fl.P) (.slice none 0 0)).run Tryz.prog W=.ok (.bool false) W:=λ W g=>Lib.run_eql_slice_nil (P:=Tryz.prog) W 37 9 (some ⟨g,0,none⟩) fl.P fl.P 0 0 Tryz.underlying37
  generalize (w1.alloc (.map #[] 0)).alloc (.cells #[fptr X,.map (some m),.int .i64 0,.int .u64 0,.int .i64 1,.bool false] 158)=w2 at *
  refine(shape_any (H.out.below HB2.out)).mono ?_
  rintro e w3 ⟨rfl,b3⟩
  have hfb:=field_B (.int .i64 fl.B) (.int .i64 fl.P) (.int .i64 fl.E) w3
  have HB3:Hid (Below w.heap.size w w3):=HB2.out.trans (b3.mono HB2.out.size)
  have HS3:=Hh (HS2.out.below b3)
  have HK0:Hid (opnK fl 0=(none:Option Nat).map λ_=>(0,0)):=rfl
  have HC0:Hid (∀g,(none:Option Nat)=some g->PS w3 g 0 fl.P (pgsF fl 0)/\m+1<g):=λg hg=>by cases hg
  have HO0:Hid (0<0->fl.off=false):=λh=>by omega
  clear b3 HB2 HS2 HB1
  go_wp2_with fail
  clear hfb
  go_loopw [4,22] (λx4 z wr=>∃(k b gn:Nat) (cur:Option Nat),k<=fl.B/\b<fl.B/\gn<=18446744073709551615/\x4=curV cur fl.P/\z=.int .i64 (k:Int)/\Hid (opnK fl k=cur.map λ_=>(b,gn))/\Hid (0<k->fl.off=false)/\Hid (∀g,cur=some g->PS wr g 0 fl.P (pgsF fl b)/\m+1<g)/\Hid (SW wr (λk=>k=m\/k=m+1) (m+1) X m 0 ⟨[],b,gn,1,false⟩)/\Hid (Below w.heap.size w wr)) (λ_ z _=>fl.B-(intOf z).toNat)
  case atStart=>exact⟨0,0,0,none,by omega,by omega,by omega,rfl,rfl,HK0,HO0,HC0,HS3,HB3⟩
  case round=>
   clear HK0 HO0 HC0 HS3 HB3
   obtain⟨k,b,gn,cur,hk,hbB,hgn,rfl,rfl,HK,HO,HC,HS,HB⟩:=hrel
   by_cases hlt:k<fl.B
   ·have y0:(k:Int)<fl.B:=by omega
    have HF:=Hh (H.out.below HB.out)
    have HRB:=Hh (readBlock_any HF.out hlt)
    have HNX:Hid (opnK fl (k+1)=pickG (opnK fl k) k (hdrG (pgsF fl k))):=rfl
    cases ho:fl.off
    ·go_wp2_with fail
     refine HRB.out.mono ?_
     rintro e w4 ⟨b4,⟨h1,_⟩|⟨_,g,rfl,hg,hps⟩⟩
     ·rw[ho] at h1;cases h1
     have HON:Hid (0<k+1->fl.off=false):=λ_=>ho
     have hl64:∀p∈pgsF fl k,p.length=64:=λp hp=>by
      unfold pgsF at hp
      obtain⟨j,hj,rfl⟩:=List.mem_map.1 hp
      exact HF.out.len k j hlt (by simpa using hj)
     have HPS:=Hh hps
     have HDC:=Hh (decode_any hps (pgsF_len fl k) (by omega) (by omega) hl64)
     have hdsn:∀kk nm v c,dec (pgsF fl k)=some (kk,nm,v,c)->okLens kk nm.length v.length=true:=λkk nm v c h=>(dec_some hl64 h).1
     have HDS:=Hh hdsn
     have HB4:Hid (Below w.heap.size w w4):=HB.out.trans (b4.mono HB.out.size)
     have HS4:=Hh (HS.out.below b4)
     have HC4:Hid (∀g,cur=some g->PS w4 g 0 fl.P (pgsF fl b)/\m+1<g):=λg hg=>⟨(HC.out g hg).1.below b4,(HC.out g hg).2⟩
     have hgm:m+1<g:=Nat.lt_of_lt_of_le (HS.out.fin (m+1) (.inr rfl)) hg
     clear HRB b4 hps hg hl64 HB HS HC hdsn HO ho
     go_wp2_with fail
     refine HDC.out.mono ?_
     rintro e w5 ⟨rfl,b5⟩
     have HPS5:=Hh (HPS.out.below b5)
     have HB5:Hid (Below w.heap.size w w5):=HB4.out.trans (b5.mono HB4.out.size)
     have HS5:=Hh (HS4.out.below b5)
     have HC5:Hid (∀g,cur=some g->PS w5 g 0 fl.P (pgsF fl b)/\m+1<g):=λg hg=>⟨(HC4.out g hg).1.below b5,(HC4.out g hg).2⟩
     clear HPS HB4 HS4 HC4 b5 HDC
     rcases hdec:dec (pgsF fl k) with _|⟨kk,nm,v,c⟩
     ·have HN:Hid (opnK fl (k+1)=cur.map λ_=>(b,gn)):=by
       show _=_
       rw[HNX.out,hdrG_no hdec]
       exact HK.out
      simp only[decV]
      clear hdec
      have b6:Below w5.heap.size w5 (w5.alloc (.cells #[.int .i64 0,.string ⟨#[]⟩,.string ⟨#[]⟩,.int .i64 0] 160)):=(Below.refl _ _).alloc (Nat.le_refl _) _
      have HB6:Hid (Below w.heap.size w _):=HB5.out.trans (b6.mono HB5.out.size)
      have HS6:=Hh (HS5.out.below b6)
      have HC6:Hid (∀g,cur=some g->PS _ g 0 fl.P (pgsF fl b)/\m+1<g):=λg hg=>⟨(HC5.out g hg).1.below b6,(HC5.out g hg).2⟩
      clear b6
      go_wp2_with fail
      go_roundw
      case rel=>exact⟨k+1,b,gn,cur,by omega,hbB,hgn,rfl,by go_num,HN,(λ_=>trivial),HC6,HS6,HB6⟩
      case measure=>simp[intOf];omega
     ·have hok:=HDS.out _ _ _ _ hdec
      have hle:=okLens_le hok
      obtain⟨ne,hne⟩:∃s:ByteArray,s=⟨nm.toArray⟩:=⟨_,rfl⟩
      obtain⟨ve,hve⟩:∃s:ByteArray,s=⟨v.toArray⟩:=⟨_,rfl⟩
      have hvl:ve.data.toList=v:=by rw[hve]
      have e1:str nm=.string ne:=by rw[hne]
      have e2:str v=.string ve:=by rw[hve]
      simp only[decV]
      rw[e1,e2]
      clear e1 e2 hne hve
      have b6:Below w5.heap.size w5 (w5.alloc (.cells #[.int .i64 kk,.string ne,.string ve,.int .i64 c] 160)):=(Below.refl _ _).alloc (Nat.le_refl _) _
      have HR6:Hid (Rg (w5.alloc (.cells #[.int .i64 kk,.string ne,.string ve,.int .i64 c] 160)) w5.heap.size 160 4 (λj=>if j=0 then .int .i64 kk else if j=1 then .string ne else if j=2 then .string ve else .int .i64 c)):=
       ⟨_,heap_alloc_new w5 _,λj hj=>by rcases(by omega:j=0\/j=1\/j=2\/j=3) with e|e|e|e<;>subst e<;>rfl⟩
      have HB6:Hid (Below w.heap.size w _):=HB5.out.trans (b6.mono HB5.out.size)
      have HS6:=Hh (HS5.out.below b6)
      have HP6:=Hh (HPS5.out.below b6)
      have HC6:Hid (∀g,cur=some g->PS _ g 0 fl.P (pgsF fl b)/\m+1<g):=λg hg=>⟨(HC5.out g hg).1.below b6,(HC5.out g hg).2⟩
      have q0:=HR6.out.cell (i:=0) (by omega)
      have q2:=HR6.out.cell (i:=2) (by omega)
      rw[if_pos rfl] at q0
      rw[if_neg (by omega),if_neg (by omega),if_pos rfl] at q2
      clear b6 HR6 HB5 HS5 HPS5 HC5
      by_cases hk3:kk=3
      ·have hv8:ve.size=8:=by
        rw[bsz,hvl]
        rw[hk3] at hok
        unfold okLens at hok
        simp at hok
        exact hok.2
       have HNU:=Hh (number_any ve (w5.alloc (.cells #[.int .i64 kk,.string ne,.string ve,.int .i64 c] 160)) hv8)
       rw[hvl] at HNU
       obtain⟨gv,hgv⟩:∃gv,numB v=gv:=⟨_,rfl⟩
       have hgvl:gv<=18446744073709551615:=by
        have h1:=numB_lt v
        have h2:v.length=8:=by rw[<-hvl];exact hv8
        rw[h2,hgv] at h1
        omega
       have HN:Hid (opnK fl (k+1)=pickG (cur.map λ_=>(b,gn)) k (some gv)):=by
        show _=_
        rw[hk3] at hdec
        rw[HNX.out,HK.out,hdrG_3 hdec,hgv]
       rw[hgv] at HNU
       have hd3:((kk:Int)==3)=true:=by rw[hk3];rfl
       clear hdec hok hk3 hvl hgv
       have hgS:g≠m+1:=by omega
       have d2:=HS6.out.c2
       have f2:=HS6.out.top.frozen 2
       have d3:=HS6.out.c3
       have r2:=HS6.out.top.set (i:=2) (by omega) (.int .i64 (k:Int))
       have f3:=r2.frozen 3
       have d3':=r2.cell (i:=3) (by omega)
       have HS7:=Hh (HS6.out.withBlk (b:=k) (g:=gv) (by omega) hgvl)
       have HC7:Hid (Ch (λx=>x=m+1) (w5.alloc (.cells #[.int .i64 kk,.string ne,.string ve,.int .i64 c] 160)) _):=((Ch.refl (λx=>x=m+1) _).setCell (p:=⟨m+1,2,none⟩) (λ_=>rfl) (.int .i64 (k:Int))).setCell (p:=⟨m+1,3,none⟩) (λ_=>rfl) (.int .u64 (gv:Int))
       have HB7:Hid (Below w.heap.size w _):=HB6.out.trans (HC7.out.below HB6.out.size (λi e=>by rw[e];omega))
       have HP7:=Hh (HP6.out.ch HC7.out hgS)
       have HP7':Hid (∀g',some g=some g'->PS _ g' 0 fl.P (pgsF fl k)/\m+1<g'):=λg' e=>by cases e;exact⟨HP7.out,hgm⟩
       have HCF:Hid (∀g',cur=some g'->PS _ g' 0 fl.P (pgsF fl b)/\m+1<g'):=HC6
       rw[show upd (stc (⟨[],b,gn,1,false⟩:ST) X m) 2 (.int .i64 (k:Int)) 3=.int .u64 (gn:Int) from rfl] at d3'
       simp only at d2 d3
       clear r2 HP6 HP7 HC7
       rcases cur with _|g0
       ·simp only[curV]
        go_wp2_with fail
        refine HNU.out.mono ?_
        rintro e w' ⟨rfl,rfl⟩
        go_wp2_with fail
        go_roundw
        case rel=>exact⟨k+1,k,gv,some g,by omega,hlt,hgvl,rfl,by go_num,HN,(λ_=>trivial),HP7',HS7,HB7⟩
        case measure=>simp[intOf];omega
       ·simp only[curV]
        by_cases hgt:gn<gv
        ·have hgI:(gn:Int)<gv:=by omega
         have hgd:decide ((gv:Int) > gn)=true:=by simpa using hgt
         have HN2:Hid (opnK fl (k+1)=(some g).map λ_=>(k,gv)):=by
          show _=_
          rw[HN.out]
          simp[pickG,hgt]
         go_wp2_with fail
         refine HNU.out.mono ?_
         rintro e w' ⟨rfl,rfl⟩
         go_wp2_with fail
         go_roundw
         case rel=>exact⟨k+1,k,gv,some g,by omega,hlt,hgvl,rfl,by go_num,HN2,(λ_=>trivial),HP7',HS7,HB7⟩
         case measure=>simp[intOf];omega
        ·have hgI:¬(gn:Int)<gv:=by omega
         have hgd:decide ((gv:Int) > gn)=false:=by simpa using hgt
         have HN2:Hid (opnK fl (k+1)=(some g0).map λ_=>(b,gn)):=by
          show _=_
          rw[HN.out]
          simp[pickG,hgt]
         go_wp2_with fail
         refine HNU.out.mono ?_
         rintro e w' ⟨rfl,rfl⟩
         go_wp2_with fail
         go_roundw
         case rel=>exact⟨k+1,b,gn,some g0,by omega,hbB,hgn,rfl,by go_num,HN2,(λ_=>trivial),HC6,HS6,HB6⟩
         case measure=>simp[intOf];omega
      ·have HN:Hid (opnK fl (k+1)=cur.map λ_=>(b,gn)):=by
        show _=_
        rw[HNX.out,hdrG_k hdec hk3]
        exact HK.out
       have hd3:((kk:Int)==3)=false:=by rw[beq_eq_false_iff_ne];omega
       have hk3I:¬(kk:Int)=3:=by omega
       clear hdec hok
       go_wp2_with fail
       go_roundw
       case rel=>exact⟨k+1,b,gn,cur,by omega,hbB,hgn,rfl,by go_num,HN,(λ_=>trivial),HC6,HS6,HB6⟩
       case measure=>simp[intOf];omega
    ·have HN:Hid (opnF fl=(16,none)):=by
      show _=_
      unfold opnF
      rw[if_neg (by rw[HU.out];simp),if_pos ho]
     go_wp2_with fail
     refine HRB.out.mono ?_
     rintro e w4 ⟨b4,⟨_,rfl⟩|⟨h1,_⟩⟩
     ·have HB4:Hid (Below w.heap.size w w4):=HB.out.trans (b4.mono HB.out.size)
      clear b4
      go_wp2_with fail
      go_ret2
      exact⟨HB4.out,.inl ⟨16,HN.out,rfl⟩⟩
     ·rw[ho] at h1;cases h1
   ·have ek:k=fl.B:=by omega
    have hof:fl.off=false:=HO.out (by omega)
    have y0:¬(k:Int)<fl.B:=by omega
    rw[ek] at HK
    cases cur
    ·have HN:Hid (opnF fl=(6,none)):=by
      show _=_
      have hk0:opnK fl fl.B=none:=HK.out
      unfold opnF
      rw[if_neg (by rw[HU.out];simp),if_neg (by rw[hof];simp),hk0]
     simp only[curV]
     clear hof
     go_wp2_with fail
     go_ret2
     exact⟨HB.out,.inl ⟨6,HN.out,rfl⟩⟩
    ·rename_i g
     obtain⟨hps,hgm⟩:=HC.out g rfl
     have hl64:∀p∈pgsF fl b,p.length=64:=λp hp=>by
      unfold pgsF at hp
      obtain⟨j,hj,rfl⟩:=List.mem_map.1 hp
      exact H.out.len b j hbB (by simpa using hj)
     have HRP:=Hh (replay_any HS.out hps (pgsF_len fl b) (by omega) hl64 (λh=>by rcases h with h|h<;>omega) (by omega) rfl (by show 1<=fl.P;omega))
     have HN:Hid (opnF fl=(0,some ⟨(rpl fl.P (pgsF fl b) [] 1).1,b,gn,(rpl fl.P (pgsF fl b) [] 1).2.1,(rpl fl.P (pgsF fl b) [] 1).2.2⟩)):=by
      show _=_
      have hk0:opnK fl fl.B=some (b,gn):=HK.out
      unfold opnF
      rw[if_neg (by rw[HU.out];simp),if_neg (by rw[hof];simp),hk0]
     simp only[curV]
     clear hof hps hl64 hgm
     go_wp2_with fail
     refine HRP.out.mono ?_
     rintro e w4 ⟨rfl,h4,c4⟩
     have HS4:=Hh (h4.mono (n':=32) (by omega))
     have HB4:Hid (Below w.heap.size w w4):=HB.out.trans (c4.below HB.out.size (λi hi=>by rcases hi with e|e<;>omega))
     clear h4 c4 HRP
     go_wp2_with fail
     go_ret2
     exact⟨HB4.out,.inr ⟨_,m+1,m,_,HN.out,rfl,(λi hi=>by rcases hi with e|e<;>omega),HS4.out,hbB⟩⟩
end
end
end Go.Proofs.YtdinbpdpalgohaaGreatDoor
