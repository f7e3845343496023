/- A law of the boot manager, walked. No condition. -/
import Derived.Test.YtdinbpdpalgohaaGreatDoorX20
import Derived.Test.YtdinbpdpalgohaaGreatDoorX18
set_option maxHeartbeats 8000000
set_option maxRecDepth 100000
namespace Go.Proofs.YtdinbpdpalgohaaGreatDoor
open Go.RowKit
section
attribute [local go_sem] Ms.set_new
def vnm:List ByteArray:=[⟨#[69,110,116,114,121,0]⟩,⟨#[69,110,116,114,121,1]⟩,⟨#[79,114,100,101,114]⟩,⟨#[78,101,120,116]⟩,⟨#[68,101,110,105,101,100]⟩,⟨#[69,110,116,114,121]⟩,⟨#[69,110,116,114,121,2]⟩]
def vnmA:Value:=.agg #[.string ⟨#[69,110,116,114,121,0]⟩,.string ⟨#[69,110,116,114,121,1]⟩,.string ⟨#[79,114,100,101,114]⟩,.string ⟨#[78,101,120,116]⟩,.string ⟨#[68,101,110,105,101,100]⟩,.string ⟨#[69,110,116,114,121]⟩,.string ⟨#[69,110,116,114,121,2]⟩]
theorem vnm0 (w:World):Sem.run Tryz.prog (Instr.index 91 vnmA (.int .i64 0)) w=.ok (.string ⟨#[69,110,116,114,121,0]⟩) w:=by kernel_rfl
theorem vnm1 (w:World):Sem.run Tryz.prog (Instr.index 91 vnmA (.int .i64 1)) w=.ok (.string ⟨#[69,110,116,114,121,1]⟩) w:=by kernel_rfl
theorem vnm2 (w:World):Sem.run Tryz.prog (Instr.index 91 vnmA (.int .i64 2)) w=.ok (.string ⟨#[79,114,100,101,114]⟩) w:=by kernel_rfl
theorem vnm3 (w:World):Sem.run Tryz.prog (Instr.index 91 vnmA (.int .i64 3)) w=.ok (.string ⟨#[78,101,120,116]⟩) w:=by kernel_rfl
theorem vnm4 (w:World):Sem.run Tryz.prog (Instr.index 91 vnmA (.int .i64 4)) w=.ok (.string ⟨#[68,101,110,105,101,100]⟩) w:=by kernel_rfl
theorem vnm5 (w:World):Sem.run Tryz.prog (Instr.index 91 vnmA (.int .i64 5)) w=.ok (.string ⟨#[69,110,116,114,121]⟩) w:=by kernel_rfl
theorem vnm6 (w:World):Sem.run Tryz.prog (Instr.index 91 vnmA (.int .i64 6)) w=.ok (.string ⟨#[69,110,116,114,121,2]⟩) w:=by kernel_rfl
theorem vnm_at {r:Nat}(h:r<7)(w:World):Sem.run Tryz.prog (Instr.index 91 vnmA (.int .i64 (r:Int))) w=.ok (.string (vnm.getD r ⟨#[]⟩)) w/\(vnm.getD r ⟨#[]⟩).size<=6:=by
 have h7:r=0\/r=1\/r=2\/r=3\/r=4\/r=5\/r=6:=by omega
 rcases h7 with rfl|rfl|rfl|rfl|rfl|rfl|rfl
 ·exact⟨vnm0 w,by decide⟩
 ·exact⟨vnm1 w,by decide⟩
 ·exact⟨vnm2 w,by decide⟩
 ·exact⟨vnm3 w,by decide⟩
 ·exact⟨vnm4 w,by decide⟩
 ·exact⟨vnm5 w,by decide⟩
 ·exact⟨vnm6 w,by decide⟩
theorem rejects_any (a0:Option Addr)(len0 cap0:Nat)(ns:List Int)(a1:Option Addr)(len1 cap1:Nat)(vs:List ByteArray)(a:Option Addr)(len cap:Nat)(l:List BC)(w:World)(hn:IntS w a0 len0 cap0 ns)(hv:StrS w a1 len1 cap1 vs)(hl:CallS w a len cap l)(hr:Ms.Rnd w)(h0:0<w.heap.size):Calls Tryz.prog 8 #[.slice a0 len0 cap0,.slice a1 len1 cap1,.slice a len cap] w λe w'=>e=.returned (.bool true)/\Below w.heap.size w w':=by
 obtain⟨f1,q1,q2⟩:=cal_new (B:=3) (P:=32) (m:=1000) (by omega) (by omega) (by omega)
 have HQ1:=Hh q1
 have HQ2:=Hh q2
 have HA:=Hh hl
 have HNS:=Hh hn
 have HVS:=Hh hv
 have HR:=Hh hr
 have HAW:=Hh (awake_any w hr h0)
 have HLG:=Hh (large_any a len cap l w hl)
 have HNW:Hid (Calls Tryz.prog 33 #[.agg #[.int .i64 3,.int .i64 32,.int .i64 1000]] w λe w'=>∃X y,e=.returned (.tuple #[fptr X,.int .i64 0])/\FW w' (λk=>w.heap.size<=k/\k<w'.heap.size) X y (newF 3 32 1000)/\Below w.heap.size w w'):=new_any w 3 32 1000 ⟨by omega,by omega⟩ ⟨by omega,by omega⟩ (by omega)
 have hcap:len<=cap:=hl.2.1
 have hcapM:=hl.2.2.1
 have hcap0:len0<=cap0:=hn.2.1
 have hcap0M:=hn.2.2.1
 have hcap1:len1<=cap1:=hv.2.1
 have hcap1M:=hv.2.2.1
 unfold maxLen at hcapM hcap0M hcap1M
 obtain⟨q,hq⟩:∃q,lrg l=q:=⟨_,rfl⟩
 rw[hq] at HLG
 have HQ:=Hh hq
 clear hl hq hr q1 q2 hn hv
 have HP0:=Hh h0
 go_enter Tryz.func8,Tryz.ntmps8
 by_cases h6:6<len0
 ·have h6I:(len0:Int) > 6:=by omega
  clear HNW HLG
  go_wp2_with fail
  refine HAW.out.mono ?_
  rintro e w' ⟨rfl,b1⟩
  have HB1:=Hh b1
  go_wp2_with fail
  go_ret
  exact⟨rfl,HB1.out⟩
 ·have h6I:¬(len0:Int) > 6:=by omega
  go_wp2_with fail
  refine HLG.out.mono ?_
  rintro e w' ⟨rfl,rfl⟩
  clear HLG
  cases q
  case true=>
   clear HNW
   go_wp2_with fail
   refine HAW.out.mono ?_
   rintro e w' ⟨rfl,b1⟩
   have HB1:=Hh b1
   go_wp2_with fail
   go_ret
   exact⟨rfl,HB1.out⟩
  case false=>
   have hnb:=not_big (l:=l) (λq=>by have:=(lrg_iff l).2 q;rw[HQ.out] at this;cases this)
   have HOD:=Hh hnb.1
   have hle:len<=25:=by have h1:=hnb.2;have h2:=HA.out.1;omega
   clear hnb HQ HAW
   go_wp2_with fail
   refine HNW.out.mono ?_
   rintro e w1 ⟨X,y,rfl,hf,b1⟩
   have HNR:Hid (Calls Tryz.prog 34 #[.agg #[.int .i64 3,.int .i64 32,.int .i64 1000]] w1 λe w'=>∃X y,e=.returned (.tuple #[fptr X,.int .i64 0])/\RW w' (λk=>w1.heap.size<=k/\k<w'.heap.size) X y (newF 3 32 1000)/\Below w1.heap.size w1 w'):=rnew_any w1 3 32 1000 ⟨by omega,by omega⟩ ⟨by omega,by omega⟩ (by omega)
   have HF1:=Hh hf
   have HB1:=Hh b1
   clear hf b1 HNW
   go_wp2_with fail
   refine HNR.out.mono ?_
   rintro e w2 ⟨X2,y2,rfl,hg,b2⟩
   have s1:w.heap.size<=w1.heap.size:=HB1.out.size
   have s2:w1.heap.size<=w2.heap.size:=b2.size
   have HG2:=Hh hg
   have HB2:Hid (Below w.heap.size w w2):=HB1.out.trans (b2.mono s1)
   have HFM:Hid (Calls Tryz.prog 35 #[fptr X] w2 λe w'=>e=.returned (.int .i64 0)/\FW w' (λk=>w.heap.size<=k/\k<w1.heap.size) X y f1/\Ch (λk=>w.heap.size<=k/\k<w1.heap.size) w2 w'):=by
    have:=format_any (HF1.out.below b2)
    rw[HQ1.out] at this
    exact this
   clear hg b2 HNR HF1 HB1
   go_wp2_with fail
   refine HFM.out.mono ?_
   rintro e w3 ⟨rfl,hf,c3⟩
   have s3:w2.heap.size<=w3.heap.size:=c3.size
   have HFR:Hid (Calls Tryz.prog 36 #[fptr X2] w3 λe w'=>e=.returned (.int .i64 0)/\RW w' (λk=>w1.heap.size<=k/\k<w2.heap.size) X2 y2 f1/\Ch (λk=>w1.heap.size<=k/\k<w2.heap.size) w3 w'):=by
    have:=rformat_any (HG2.out.ch c3 (λk hk q=>by have:=hk.1;have:=q.2;omega)) rfl (λb=>newF_blank 3 32 1000 b) (by show 2<=3;omega) (by show 2<=32;omega)
    rw[HQ1.out] at this
    exact this
   have HF3:=Hh hf
   have HB3:Hid (Below w.heap.size w w3):=HB2.out.trans (c3.below (by omega) (λi hi=>hi.1))
   clear hf c3 HFM HG2 HB2
   go_wp2_with fail
   refine HFR.out.mono ?_
   rintro e w4 ⟨rfl,hg,c4⟩
   have s4:w3.heap.size<=w4.heap.size:=c4.size
   have HF4:=Hh (HF3.out.ch c4 (λk hk q=>by have:=hk.2;have:=q.1;omega))
   have HG4:=Hh hg
   have HB4:Hid (Below w.heap.size w w4):=HB3.out.trans (c4.below (by omega) (λi hi=>by have:=hi.1;omega))
   have HOP:=Hh (open_any HF4.out)
   clear hg c4 HFR HF3 HB3
   go_wp2_with fail
   refine HOP.out.mono ?_
   rintro e w5 ⟨b5,⟨c,h1,_⟩|⟨st',S,m,DS,h1,rfl,h3,h4,_⟩⟩
   ·exfalso
    rw[HQ2.out.inv.opens] at h1
    cases h1
   rw[HQ2.out.inv.opens] at h1
   injection h1 with _ h1
   injection h1 with h1
   subst h1
   have s5:w4.heap.size<=w5.heap.size:=b5.size
   have HF5:=Hh (HF4.out.below b5)
   have HS5:=Hh h4
   have HD5:Hid (∀k,DS k->w4.heap.size<=k/\k<w5.heap.size):=λk hk=>⟨h3 k hk,h4.fin k hk⟩
   have HB5:Hid (Below w.heap.size w w5):=HB4.out.trans (b5.mono HB4.out.size)
   have HG5:=Hh (HG4.out.below b5)
   have HRO:=Hh (ropen_any HG5.out)
   clear b5 h3 h4 HOP HF4 HG4 HB4
   go_wp2_with fail
   refine HRO.out.mono ?_
   rintro e w6 ⟨b6,⟨c,h1,_⟩|⟨st',S2,DS2,h1,rfl,h3,h4,_⟩⟩
   ·exfalso
    rw[HQ2.out.inv.opens] at h1
    cases h1
   rw[HQ2.out.inv.opens] at h1
   injection h1 with _ h1
   injection h1 with h1
   subst h1
   have s6:w5.heap.size<=w6.heap.size:=b6.size
   have HF6:=Hh (HF5.out.below b6)
   have HS6:=Hh (HS5.out.below b6)
   have HG6:=Hh (HG5.out.below b6)
   have HT6:=Hh h4
   have HE6:Hid (∀k,DS2 k->w5.heap.size<=k/\k<w6.heap.size):=λk hk=>⟨h3 k hk,h4.fin k hk⟩
   have HB6:Hid (Below w.heap.size w w6):=HB5.out.trans (b6.mono HB5.out.size)
   have HMN:=Hh (Ms.new_any w6)
   clear b6 h3 h4 HRO HF5 HS5 HG5 HB5
   go_wp2_with fail
   refine HMN.out.mono ?_
   rintro e w7 ⟨rfl,hlg,b7⟩
   have s7:w6.heap.size<w7.heap.size:=Row.lt hlg
   have HB7:Hid (Below w.heap.size w w7):=HB6.out.trans (b7.mono HB6.out.size)
   have HF7:=Hh (HF6.out.below b7)
   have HS7:=Hh (HS6.out.below b7)
   have HG7:=Hh (HG6.out.below b7)
   have HT7:=Hh (HT6.out.below b7)
   have HL7:=Hh hlg
   have HRN:=Hh (rlog_new w7)
   clear hlg b7 HMN HF6 HS6 HG6 HT6 HB6
   go_wp2_with fail
   refine HRN.out.mono ?_
   rintro e w8 ⟨rfl,hrl,b8⟩
   have s8:w7.heap.size<w8.heap.size:=Row.lt hrl
   have HB8:Hid (Below w.heap.size w w8):=HB7.out.trans (b8.mono HB7.out.size)
   have HR8:=Hh (rnd_ch HR.out (Ch.of_below HB8.out (λ_=>False)) id HP0.out)
   have HG8:=Hh (HG7.out.below b8)
   have HT8:=Hh (HT7.out.below b8)
   have HRL:=Hh hrl
   have HBN:=Hh (bnew_any (N:=w.heap.size) (HF7.out.below b8) (HS7.out.below b8) (Row.below HL7.out b8 (Row.lt HL7.out)) HR8.out HP0.out
    (λk hk q=>by have:=hk.2;have:=(HD5.out k q).1;omega) ⟨λq=>by have:=q.2;omega,λq=>by have:=(HD5.out _ q).2;omega⟩ (λk hk=>hk.1) (λk hk=>by have:=(HD5.out k hk).1;omega) (by omega) (by omega))
   clear hrl b8 HRN HF7 HS7 HG7 HT7 HL7 HB7
   go_wp2_with fail
   refine HBN.out.mono ?_
   rintro e w9 ⟨rfl,hbw,b9⟩
   have s9:w8.heap.size<=w9.heap.size:=b9.size
   have HB9:Hid (Below w.heap.size w w9):=HB8.out.trans (b9.mono HB8.out.size)
   have HBW:=Hh hbw
   have HQN:=Hh (rbnew_any (n:=0) (N:=w.heap.size) (HG8.out.below b9) (HT8.out.below b9) (Row.below HRL.out b9 (Row.lt HRL.out)) hbw.rnd HP0.out
    (λk hk q=>by have:=hk.2;have:=(HE6.out k q).1;omega) ⟨λq=>by have:=q.2;omega,λq=>by have:=(HE6.out _ q).2;omega⟩ (λk hk=>by have:=hk.1;omega) (λk hk=>by have:=(HE6.out k hk).1;omega) (by omega) (by omega))
   have s9':w8.heap.size<w9.heap.size:=hbw.M_lt
   clear hbw b9 HBN HG8 HT8 HRL HR8 HB8
   go_wp2_with fail
   refine HQN.out.mono ?_
   rintro e w10 ⟨rfl,hqw,b10⟩
   have HPM:Hid (PM w10 (λ_=>False) ⟨w.heap.size,w8.heap.size,S,w6.heap.size⟩ (32+0) ⟨f1,st0,[],[],-1,[]⟩ ⟨w.heap.size,w9.heap.size,S2,w7.heap.size⟩ ⟨f1,st0,[],[],-1,[]⟩):=
    ⟨_,_,HBW.out.below b10,hqw,λk x1 x2=>by
     have e1:(w.heap.size<=k/\k<w1.heap.size)\/(w4.heap.size<=k/\k<w5.heap.size)\/k=w6.heap.size\/k=w8.heap.size:=by
      rcases x1 with (q|q|q)|q
      ·exact .inl q
      ·exact .inr (.inl (HD5.out k q))
      ·exact .inr (.inr (.inl q))
      ·exact .inr (.inr (.inr q))
     have e2:(w1.heap.size<=k/\k<w2.heap.size)\/(w5.heap.size<=k/\k<w6.heap.size)\/k=w7.heap.size\/k=w9.heap.size:=by
      rcases x2 with (q|q|q)|q
      ·exact .inl q
      ·exact .inr (.inl (HE6.out k q))
      ·exact .inr (.inr (.inl q))
      ·exact .inr (.inr (.inr q))
     omega,λ_ h=>h.elim⟩
   have HGJ:Hid (GJ 0 (⟨f1,st0,[],[],-1,[]⟩:BM)):=⟨HQ2.out.blk,Nat.le_refl _,Nat.le_refl _,(λ_ h=>(by cases h)),λ_ h=>(by cases h)⟩
   have HBA:Hid (Below w.heap.size w w10):=HB9.out.trans (b10.mono HB9.out.size)
   have hTw:w.heap.size<=w.heap.size:=Nat.le_refl _
   clear hqw b10 HQN HBW HQ1 HQ2 HB9 HD5 HE6 s1 s2 s3 s4 s5 s6 s7 s8 s9 s9' HR HP0
   obtain⟨M,hM⟩:∃q,w8.heap.size=q:=⟨_,rfl⟩
   obtain⟨M2,hM2⟩:∃q,w9.heap.size=q:=⟨_,rfl⟩
   obtain⟨L,hL⟩:∃q,w6.heap.size=q:=⟨_,rfl⟩
   obtain⟨L2,hL2⟩:∃q,w7.heap.size=q:=⟨_,rfl⟩
   rw[hM,hM2,hL,hL2] at HPM
   simp only[hM,hM2,hL,hL2]
   clear hM hM2 hL hL2
   go_wp2_with fail
   go_loopw [19] (λz wr=>∃(i:Nat) (b:BM),i<=len0/\z=.int .i64 (i:Int)/\Hid (GJ 0 b)/\Hid (PM wr (λ_=>False) ⟨w.heap.size,M,S,L⟩ (32+i) b ⟨w.heap.size,M2,S2,L2⟩ b)/\Hid (Below w.heap.size w wr)) (λz _=>len0-(intOf z).toNat)
   case atStart=>exact⟨0,_,by omega,rfl,HGJ,HPM,HBA⟩
   case round=>
    clear HGJ HPM HBA
    obtain⟨i,b,hi,rfl,HGJ,HPM,HB⟩:=hrel
    by_cases hlt:i<len0
    ·have y0:(i:Int)<len0:=by omega
     obtain⟨g0,o0,k0,rfl,_,_,hc0⟩:=(HNS.out.below HB.out (Nat.le_refl _)).at hlt
     have hr7:mo k0 7<7:=mo_lt k0 7 (by omega)
     have HMD:=Hh (mod_any k0 7 wr (by omega) (by omega))
     have hix:=λ(W:World)=>(vnm_at hr7 W).1
     have hnb:=(vnm_at hr7 wr).2
     generalize vnm.getD (mo k0 7) ⟨#[]⟩=nb at *
     generalize mo k0 7=r at *
     unfold vnmA at hix
     go_wp2_with fail
     refine HMD.out.mono ?_
     rintro e w' ⟨rfl,rfl⟩
     clear HMD
     by_cases hv1:i<len1
     ·have y1:(i:Int)<len1:=by omega
      obtain⟨g1,o1,s,rfl,_,_,hsM,hc1⟩:=(HVS.out.below HB.out (Nat.le_refl _)).at hv1
      by_cases h128:128<s.size
      ·have h128I:(s.size:Int) > 128:=by omega
       have HAW:=Hh (awake_any wr HPM.out.rnd HPM.out.pos)
       clear HGJ
       go_wp2_with fail
       refine HAW.out.mono ?_
       rintro e w4 ⟨rfl,b4⟩
       have HB4:Hid (Below w.heap.size w w4):=HB.out.trans (b4.mono HB.out.size)
       clear b4 HAW
       go_wp2_with fail
       go_ret
       exact⟨rfl,HB4.out⟩
      ·have h128I:¬(s.size:Int) > 128:=by omega
       have hSA:=HPM.out.putA (f:=43) (args:=#[fptr S,.string nb,.string s]) (n':=32+i+1) (r:=setB b nb.data.toList (s:ByteArray).data.toList) (λ F hF=>hF.put HGJ.out.blk (by omega) (by omega) (by first|omega|decide) rfl rfl)
       have hGN:GJ 0 (setB b nb.data.toList (s:ByteArray).data.toList).2:=HGJ.out.setB _ _
       obtain⟨q,hq⟩:∃q,setB b nb.data.toList (s:ByteArray).data.toList=q:=⟨_,rfl⟩
       obtain⟨c,b2⟩:=q
       have hSB:=λ(W:World) (G:Nat->Prop) (pm:PM W G ⟨w.heap.size,M,S,L⟩ (32+i+1) b2 ⟨w.heap.size,M2,S2,L2⟩ b)=>pm.putB (f:=44) (args:=#[fptr S2,.string nb,.string s]) (n':=1) (r:=setB b nb.data.toList (s:ByteArray).data.toList) (λ F hF=>hF.put HGJ.out.blk (by omega) (by omega) (by first|omega|decide) rfl rfl)
       rw[hq] at hSA hGN hSB
       have HSA:=Hh hSA
       have HSB:=Hh hSB
       have HGN:=Hh hGN
       have hne:(c != c)=false:=by simp
       clear hSA hSB hGN hq HGJ HPM
       go_wp2_with fail
       refine HSA.out.mono ?_
       rintro e w3 ⟨rfl,pm3,_,b3⟩
       have HB3:Hid (Below w.heap.size w w3):=HB.out.trans b3
       have HSC:=Hh (HSB.out _ _ pm3)
       clear pm3 b3 HSA HSB HB
       go_wp2_with fail
       refine HSC.out.mono ?_
       rintro e w5 ⟨rfl,pm5,_,b5⟩
       have HPM5:=Hh (pm5.mono (n':=32+(i+1)) (by omega))
       have HB5:Hid (Below w.heap.size w w5):=HB3.out.trans b5
       clear pm5 b5 HSC HB3
       go_wp2_with fail
       go_roundw
       case rel=>exact⟨i+1,b2,by omega,by go_num,HGN,HPM5,HB5⟩
       case measure=>simp[intOf];omega
     ·have y1:¬(i:Int)<len1:=by omega
      have hSA:=HPM.out.putA (f:=43) (args:=#[fptr S,.string nb,.string ⟨#[]⟩]) (n':=32+i+1) (r:=setB b nb.data.toList (⟨#[]⟩:ByteArray).data.toList) (λ F hF=>hF.put HGJ.out.blk (by omega) (by omega) (by first|omega|decide) rfl rfl)
      have hGN:GJ 0 (setB b nb.data.toList (⟨#[]⟩:ByteArray).data.toList).2:=HGJ.out.setB _ _
      obtain⟨q,hq⟩:∃q,setB b nb.data.toList (⟨#[]⟩:ByteArray).data.toList=q:=⟨_,rfl⟩
      obtain⟨c,b2⟩:=q
      have hSB:=λ(W:World) (G:Nat->Prop) (pm:PM W G ⟨w.heap.size,M,S,L⟩ (32+i+1) b2 ⟨w.heap.size,M2,S2,L2⟩ b)=>pm.putB (f:=44) (args:=#[fptr S2,.string nb,.string ⟨#[]⟩]) (n':=1) (r:=setB b nb.data.toList (⟨#[]⟩:ByteArray).data.toList) (λ F hF=>hF.put HGJ.out.blk (by omega) (by omega) (by first|omega|decide) rfl rfl)
      rw[hq] at hSA hGN hSB
      have HSA:=Hh hSA
      have HSB:=Hh hSB
      have HGN:=Hh hGN
      have hne:(c != c)=false:=by simp
      clear hSA hSB hGN hq HGJ HPM
      go_wp2_with fail
      refine HSA.out.mono ?_
      rintro e w3 ⟨rfl,pm3,_,b3⟩
      have HB3:Hid (Below w.heap.size w w3):=HB.out.trans b3
      have HSC:=Hh (HSB.out _ _ pm3)
      clear pm3 b3 HSA HSB HB
      go_wp2_with fail
      refine HSC.out.mono ?_
      rintro e w5 ⟨rfl,pm5,_,b5⟩
      have HPM5:=Hh (pm5.mono (n':=32+(i+1)) (by omega))
      have HB5:Hid (Below w.heap.size w w5):=HB3.out.trans b5
      clear pm5 b5 HSC HB3
      go_wp2_with fail
      go_roundw
      case rel=>exact⟨i+1,b2,by omega,by go_num,HGN,HPM5,HB5⟩
      case measure=>simp[intOf];omega
    ·have y0:¬(i:Int)<len0:=by omega
     have HAL:=Hh (alike_any HPM.out HGJ.out (by omega))
     go_wp2_with fail
     refine HAL.out.mono ?_
     rintro e w4 ⟨rfl,b4⟩
     have HPM4:=Hh ((HPM.out.below b4).mono (n':=32+6+0) (by omega))
     have HGJ4:Hid (GJ (6+0) b):=HGJ.out.mono (by omega)
     have HB4:Hid (Below w.heap.size w w4):=HB.out.trans (b4.mono HB.out.size)
     clear b4 HAL HPM HGJ HB hlt y0 hi
     go_wp2_with fail
     go_loopw [22] (λz wr=>∃(i:Nat) (b:BM),i<=len/\z=.int .i64 (i:Int)/\Hid (GJ (6+i) b)/\Hid (PM wr (λ_=>False) ⟨w.heap.size,M,S,L⟩ (32+6+i) b ⟨w.heap.size,M2,S2,L2⟩ b)/\Hid (Below w.heap.size w wr)) (λz _=>len-(intOf z).toNat)
     case atStart=>exact⟨0,b,by omega,rfl,HGJ4,HPM4,HB4⟩
     case round=>
      clear HGJ4 HPM4 HB4
      obtain⟨i,b,hi,rfl,HGJ,HPM,HB⟩:=hrel
      by_cases hlt:i<len
      ·have y0:(i:Int)<len:=by omega
       obtain⟨bb,o,c,rfl,hc,hrd,hx⟩:=HA.out.at hlt
       have hX:=hx.below HB.out hx.lt
       have hco:c.od.length<=20:=HOD.out c (List.mem_of_getElem? hc)
       have HRJ:=Hh hrd
       have HXX:=Hh hx
       have HGN:Hid (GJ (6+(i+1)) (doB b c).2.2):=doB_gj HGJ.out c
       have hDA:=HPM.out.callA (f:=25) (args:=#[fptr M,cBa c]) (n':=32+6+i+1) (r:=doB b c) (λ F hF=>do_any hF HGJ.out.blk (by omega) HGJ.out.cand (by have:=HGJ.out.es;omega) (by have:=HGJ.out.log;omega) c (hrd.below HB.out (Nat.le_refl _)) hco)
       obtain⟨r1,hr1⟩:∃r,doB b c=r:=⟨_,rfl⟩
       obtain⟨⟨x,cv⟩,er,b2⟩:=r1
       have hDB:=λ(W:World) (G:Nat->Prop) (pm:PM W G ⟨w.heap.size,M,S,L⟩ (32+6+i+1) b2 ⟨w.heap.size,M2,S2,L2⟩ b) (hrj:RdJ W c.ol c.od)=>pm.callB (f:=31) (args:=#[fptr M2,cBa c]) (n':=1) (r:=doB b c) (λ F hF=>want_any hF HGJ.out.blk (by omega) HGJ.out.cand (by have:=HGJ.out.es;omega) (by have:=HGJ.out.log;omega) c hrj hco)
       rw[hr1] at hDA hDB HGN
       unfold cBa at hDA hDB
       have HDA:=Hh hDA
       have HDB:=Hh hDB
       obtain⟨c0,c1,c2,c3,c4,c5,c6,clt⟩:=hX
       clear hDA hDB hr1 hrd hx hc hco HGJ HPM
       go_wp2_with fail
       refine HDA.out.mono ?_
       rintro e w3 ⟨rfl,pm3,_,b3w⟩
       have hal:Below w3.heap.size w3 (w3.alloc (.cells #[.int .i64 x,.int .i64 cv] 40)):=(Below.refl _ _).alloc (Nat.le_refl _) _
       have HPM4:=Hh ((pm3.news hal).less (G':=λq=>q=w3.heap.size) (λq hq=>.inr ⟨by omega,by subst hq;simp⟩))
       have HB4:Hid (Below w.heap.size w (w3.alloc (.cells #[.int .i64 x,.int .i64 cv] 40))):=(HB.out.trans b3w).alloc ((HB.out.trans b3w).size) _
       obtain⟨x0,x1⟩:=stpC w3 x cv
       have HXC:Hid ((w3.alloc (.cells #[.int .i64 x,.int .i64 cv] 40)).cell? ⟨w3.heap.size,0,none⟩=some (.int .i64 x)/\(w3.alloc (.cells #[.int .i64 x,.int .i64 cv] 40)).cell? ⟨w3.heap.size,1,none⟩=some (.int .i64 cv)):=⟨x0,x1⟩
       have hE:w3.heap.size<(w3.alloc (.cells #[.int .i64 x,.int .i64 cv] 40)).heap.size:=by simp
       have HEL:=Hh hE
       clear hal pm3 b3w x0 x1 hE HDA HB c0 c1 c2 c3 c4 c5 c6 clt
       obtain⟨c0,c1,c2,c3,c4,c5,c6,clt⟩:=HXX.out.below HB4.out HXX.out.lt
       have HDC:=Hh (HDB.out _ _ HPM4.out (HRJ.out.below HB4.out (Nat.le_refl _)))
       clear HDB
       go_wp2_with fail
       generalize w3.alloc (.cells #[.int .i64 x,.int .i64 cv] 40)=w4 at *
       generalize w3.heap.size=E at *
       refine HDC.out.mono ?_
       rintro e w5 ⟨rfl,pm5,ch5,b5⟩
       have x0:w5.cell? ⟨E,0,none⟩=some (.int .i64 x):=(ch5.cell ⟨E,0,none⟩ HEL.out (λq=>q rfl)).trans HXC.out.1
       have x1:w5.cell? ⟨E,1,none⟩=some (.int .i64 cv):=(ch5.cell ⟨E,1,none⟩ HEL.out (λq=>q rfl)).trans HXC.out.2
       have hE5:E<w5.heap.size:=Nat.lt_of_lt_of_le HEL.out ch5.size
       have hal:Below w5.heap.size w5 (w5.alloc (.cells #[.int .i64 x,.int .i64 cv] 40)):=(Below.refl _ _).alloc (Nat.le_refl _) _
       have x0:=(hal.cell (p:=⟨E,0,none⟩) hE5).trans x0
       have x1:=(hal.cell (p:=⟨E,1,none⟩) hE5).trans x1
       obtain⟨z0,z1⟩:=stpC w5 x cv
       have HPM6:=Hh ((pm5.below hal).less (G':=λ_=>False) (λ_ h=>h.elim))
       have HB6:Hid (Below w.heap.size w (w5.alloc (.cells #[.int .i64 x,.int .i64 cv] 40))):=(HB4.out.trans (b5.mono hTw)).alloc ((HB4.out.trans (b5.mono hTw)).size) _
       have hne:=λ(W:World)=>neSt x cv x cv W
       have hne2:(!(x==x&&cv==cv))=false:=by simp
       have hne3:(er != er)=false:=by simp
       have HAL:=Hh (alike_any HPM6.out HGN.out (by omega))
       clear pm5 ch5 b5 hE5 hal HXC HEL HPM4 HB4 HDC c0 c1 c2 c3 c4 c5 c6 clt
       go_wp2_with fail
       generalize w5.alloc (.cells #[.int .i64 x,.int .i64 cv] 40)=w6 at *
       refine HAL.out.mono ?_
       rintro e w7 ⟨rfl,b7⟩
       have HPM7:=Hh ((HPM6.out.below b7).mono (n':=32+6+(i+1)) (by omega))
       have HB7:Hid (Below w.heap.size w w7):=HB6.out.trans (b7.mono HB6.out.size)
       clear b7 HAL HPM6 HB6 x0 x1 z0 z1 hne
       go_wp2_with fail
       go_roundw
       case rel=>exact⟨i+1,b2,by omega,by go_num,HGN,HPM7,HB7⟩
       case measure=>simp[intOf];omega
      ·have y0:¬(i:Int)<len:=by omega
       have HAW:=Hh (awake_any wr HPM.out.rnd HPM.out.pos)
       go_wp2_with fail
       refine HAW.out.mono ?_
       rintro e w4 ⟨rfl,b4⟩
       have HB4:Hid (Below w.heap.size w w4):=HB.out.trans (b4.mono HB.out.size)
       clear b4 HAW
       go_wp2_with fail
       go_ret
       exact⟨rfl,HB4.out⟩
end
end Go.Proofs.YtdinbpdpalgohaaGreatDoor
namespace Go.Proofs.YtdinbpdpalgohaaGreatDoor.bootRejectsInvalidVariablesDone
open Go.ChangeShapes Go.WideShapes Go.ChangeAt Go.RowKit Go.Deep
open Go.ChangeMaps (open_string shut_string)
theorem contract (H:Type)(enc:TypeId×Value->H)(W:World)(base:Nat)(args:Array Value)(ds gs:List (DataW H))(before:List MemPlace)
  (hval0:∀(j:Nat) t v,Tryz.f8.params[j]? = some t->args[j]? = some v->Value.okWide Tryz.prog W .any base t v)
  (hW:DataW.Whole enc Tryz.prog Tryz.f8.params.toList Rows.bootRejectsInvalidVariablesSpec.vars false W args.toList ds gs before) (hL:laidMetH Tryz.prog Rows.bootRejectsInvalidVariablesRow.laid W) :
  Calls Tryz.prog 8 args W λe W'=>∃v,e=.returned v/\Rows.bootRejectsInvalidVariablesSpec.post enc Tryz.prog Tryz.f8 false true false false W args v W':=by
 have hR:Ms.Rnd W:=rnd_of hL
 have h00:0<W.heap.size:=rnd_pos hR
 have hval:=hval0
 have hW':=hW
 obtain⟨p,q,hA0,hV,rfl,hfz,hnd⟩:=hW
 have hA:DataW.TrodAll enc Tryz.prog W 0 (λ_=>true) true Tryz.f8.params.toList args.toList ds p:=hA0
 rw[Tryz.params8] at hA hval
 obtain⟨v0,vs0,d0,ds0,p0,q0,hargs,rfl,rfl,h0,r0⟩:=trodAll_cons hA
 obtain⟨v1,vs1,d1,ds1,p1,q1,rfl,rfl,rfl,h1,r1⟩:=trodAll_cons r0
 obtain⟨v2,vs2,d2,ds2,p2,q2,rfl,rfl,rfl,h2,r2⟩:=trodAll_cons r1
 obtain⟨rfl,rfl,rfl⟩:=trodAll_nil r2
 obtain rfl:args=#[v0,v1,v2]:=by cases args;simp_all
 obtain⟨rfl,rfl⟩:=trodVars_none hV
 obtain⟨a0,len0,cap0,rfl⟩:=okWide_slice Tryz.underlying36 (hval 0 36 v0 rfl rfl)
 have k0:=h0
 have lt0:∀x∈p0,x.block<W.heap.size:=by obtain⟨m,hm⟩:=k0;exact DataW.trod_lt m _ _ _ hm
 obtain⟨f0,s0⟩:∃f,IntS W a0 len0 cap0 f:=by
  obtain⟨fuel,hf⟩:=h0
  obtain⟨A,l,c,f,hcs,hs⟩:=open_ints hf
  simp[Value.cells] at hcs
  obtain⟨rfl,rfl,rfl⟩:=hcs
  exact⟨f,hs⟩
 obtain⟨a1,len1,cap1,rfl⟩:=okWide_slice Tryz.underlying37 (hval 1 37 v1 rfl rfl)
 have k1:=h1
 have lt1:∀x∈p1,x.block<W.heap.size:=by obtain⟨m,hm⟩:=k1;exact DataW.trod_lt m _ _ _ hm
 obtain⟨f1,s1⟩:∃f,StrS W a1 len1 cap1 f:=by
  obtain⟨fuel,hf⟩:=h1
  obtain⟨A,l,c,f,hcs,hs⟩:=open_strl hf
  simp[Value.cells] at hcs
  obtain⟨rfl,rfl,rfl⟩:=hcs
  exact⟨f,hs⟩
 obtain⟨a2,len2,cap2,rfl⟩:=okWide_slice Tryz.underlying52 (hval 2 52 v2 rfl rfl)
 have k2:=h2
 have lt2:∀x∈p2,x.block<W.heap.size:=by obtain⟨m,hm⟩:=k2;exact DataW.trod_lt m _ _ _ hm
 obtain⟨f2,s2⟩:∃f,CallS W a2 len2 cap2 f:=by
  obtain⟨fuel,hf⟩:=h2
  obtain⟨A,l,c,f,hcs,hs⟩:=open_calls hf
  simp[Value.cells] at hcs
  obtain⟨rfl,rfl,rfl⟩:=hcs
  exact⟨f,hs⟩
 clear hA0 hval0
 refine(rejects_any a0 len0 cap0 f0 a1 len1 cap1 f1 a2 len2 cap2 f2 W s0 s1 s2 hR h00).mono λe W' ⟨he,bel⟩=>?_
 subst he
 exact⟨_,rfl,_,_,_,[],_,[],hW',trodAll_mk1 (shut_bool Tryz.underlying4 _),(trodAll_cons_mk (Below.trod laidOut (by kernel_rfl) (of_decide_eq_true (by kernel_rfl)) k0 bel lt0) (trodAll_cons_mk (Below.trod laidOut (by kernel_rfl) (of_decide_eq_true (by kernel_rfl)) k1 bel lt1) (trodAll_cons_mk (Below.trod laidOut (by kernel_rfl) (of_decide_eq_true (by kernel_rfl)) k2 bel lt2) trodAll_mk0))),rfl,bel.frame _,λh=>by cases h⟩
theorem laid_met (os:Os):laidMet Tryz.prog Rows.bootRejectsInvalidVariablesRow.laid ((laidWorld os).forCall (λ_ _=>0) ⟨#[],#[.slice none 0 0,.slice none 0 0,.slice none 0 0],[]⟩).memory:=
 laidMet_of_run' 8 (by kernel_rfl) (by kernel_rfl)
theorem reads (os:Os){H:Type}(enc:TypeId×Value->H):∃places,DataW.whole enc Tryz.prog ((laidWorld os).forCall (λ_ _=>0) ⟨#[],#[.slice none 0 0,.slice none 0 0,.slice none 0 0],[]⟩).memory Tryz.f8.params.toList Rows.bootRejectsInvalidVariablesSpec.vars false (#[.slice none 0 0,.slice none 0 0,.slice none 0 0]:Array Value).toList 8=some ([.nil,.nil,.nil],[],places):=
 ⟨[],by kernel_rfl⟩
theorem lifted (os:Os)(started:os.Started)(H:Type)(enc:TypeId×Value->H)(F:Stop.Interp) :
  ReturnsInHanded {} Tryz.checked os 8 .any ((OpenSpec.ofChange Rows.bootRejectsInvalidVariablesSpec).preRow enc Tryz.prog Tryz.f8 Rows.bootRejectsInvalidVariablesRow.domain false Rows.bootRejectsInvalidVariablesRow.laid) (((OpenSpec.ofChange Rows.bootRejectsInvalidVariablesSpec).at F).post enc Tryz.prog Tryz.f8 false true false false):=by
 obtain⟨places,hx⟩:=reads os enc
 refine returnsInHanded_of_row (C:=Tryz.checked) (s:=OpenSpec.ofChange Rows.bootRejectsInvalidVariablesSpec) own started (by kernel_rfl) Tryz.func8
  (witness_row_at (enc:=enc) (C:=Tryz.checked) false (laidWorld os) #[.slice none 0 0,.slice none 0 0,.slice none 0 0] rfl (by kernel_rfl) (by kernel_rfl) (by kernel_rfl)
   (OpenSpec.preRow_of_cond 8 hx (by kernel_rfl) (λk hk=>by cases hk) (by kernel_rfl) (laid_met os))) ?_
 intro W base args ds gs before hval hW _ _ _ hL _ _
 exact contract H enc W base args ds gs before hval hW hL
theorem said:Rows.BootRejectsInvalidVariablesSaid:=
 OpenClaim.holds_of_cond 8 Tryz.f8 rfl rfl rfl rfl rfl rfl rfl ⟨rfl,rfl,rfl,rfl,rfl⟩ rfl rfl rfl rfl rfl (by kernel_rfl) Tryz.func8 (by kernel_rfl)
  (of_decide_eq_true (by kernel_rfl)) (by unfold Func.isWrapper;first|(rw[if_pos (by decide +kernel)];kernel_rfl)|(rw[if_neg (by decide +kernel)];exact⟨rfl,rfl⟩))
  (λos started H enc _ F=>by rw[OpenClaim.pre_eq_preRow];exact lifted os started H enc F)
theorem plain (f : FuncId)(fn : Func)(hf : Tryz.pinned.checked.prog.funcNamed "platformfw/platformfwlaw43.BootRejectsInvalidVariables" = some f)(hfn : Tryz.pinned.checked.prog.funcs[f]? = some fn) :
  true=Tryz.pinned.checked.prog.looks []/\∀(j:Nat) t,fn.params[j]? = some t->Tryz.pinned.checked.prog.wantsStandIn t=false:=by
 obtain rfl : f = 8 := Option.some.inj ((show Tryz.prog.funcNamed "platformfw/platformfwlaw43.BootRejectsInvalidVariables" = some 8 by kernel_rfl).symm.trans hf) |>.symm
 obtain rfl:fn=Tryz.f8:=(Option.some.inj (Tryz.func8.symm.trans hfn)).symm
 refine⟨by kernel_rfl,λj t ht=>?_⟩
 rw[Tryz.params8] at ht
 have hall:(Tryz.f8.params.all λt=>!Tryz.prog.wantsStandIn t)=true:=by kernel_rfl
 rw[Tryz.params8] at hall
 have:=Array.all_eq_true_iff_forall_mem.1 hall t (Array.mem_of_getElem? ht)
 show Tryz.prog.wantsStandIn t=false
 simpa using this
theorem proved:Rows.BootRejectsInvalidVariablesCardSaid:=
 Claim7.holds_tied_plain_at .later [] _ _ _ _ said (λ_ h=>by cases h) (by kernel_rfl) (λ_ h=>by cases h) bootRejectsInvalidVariables_row_tie rfl ⟨rfl,rfl⟩ (by kernel_rfl) rfl plain (by kernel_rfl)
#print axioms proved
end Go.Proofs.YtdinbpdpalgohaaGreatDoor.bootRejectsInvalidVariablesDone
