/- A law of the boot manager, walked. No condition. -/
import Derived.Test.YtdinbpdpalgohaaGreatDoorX20
import Derived.Test.YtdinbpdpalgohaaGreatDoorX18
set_option maxHeartbeats 4000000
set_option maxRecDepth 100000
namespace Go.Proofs.YtdinbpdpalgohaaGreatDoor
open Go.RowKit
section
attribute [local go_sem] Ms.set_new
theorem callsAgree_any (a:Option Addr)(len cap:Nat)(l:List BC)(w:World)(hl:CallS w a len cap l)(hr:Ms.Rnd w)(h0:0<w.heap.size):Calls Tryz.prog 7 #[.slice a len cap] w λe w'=>e=.returned (.bool true)/\Below w.heap.size w w':=by
 obtain⟨f1,q1,q2⟩:=cal_new (B:=3) (P:=24) (m:=1000) (by omega) (by omega) (by omega)
 have HQ1:=Hh q1
 have HQ2:=Hh q2
 have HA:=Hh hl
 have HAW:=Hh (awake_any w hr h0)
 have HLG:=Hh (large_any a len cap l w hl)
 have HBD:=Hh (board_eq 1000 q1 q2 (by omega) w hr h0)
 have hcap:len<=cap:=hl.2.1
 have hcapM:=hl.2.2.1
 unfold maxLen at hcapM
 obtain⟨q,hq⟩:∃q,lrg l=q:=⟨_,rfl⟩
 rw[hq] at HLG
 have HQ:=Hh hq
 clear hl hq hr q1 q2
 have HP0:=Hh h0
 go_enter Tryz.func7,Tryz.ntmps7
 go_wp2_with fail
 refine HLG.out.mono ?_
 rintro e w' ⟨rfl,rfl⟩
 clear HLG
 cases q
 case true=>
  clear HBD
  go_wp2_with fail
  refine HAW.out.mono ?_
  rintro e w' ⟨rfl,b1⟩
  have HB1:=Hh b1
  go_wp2_with fail
  go_ret
  exact⟨rfl,HB1.out⟩
 case false=>
  have hnb:=not_big (l:=l) (λq=>by have:=(lrg_iff l).2 q;rw[HQ.out] at this;cases this)
  have HOD:=Hh hnb.1
  have hle:len<=25:=by have h1:=hnb.2;have h2:=HA.out.1;omega
  clear hnb HQ HAW
  go_wp2_with fail
  refine HBD.out.mono ?_
  rintro e w1 ⟨X,L,M,S,O,rfl,hbw,b1⟩
  obtain⟨T,hT⟩:∃T,w1.heap.size=T:=⟨_,rfl⟩
  have HT:=Hh hT
  have HB1:=Hh b1
  have HBW:=Hh hbw
  have HMD:=Hh (model_eq 1000 HQ1.out HQ2.out (by omega) w1 hbw.rnd hbw.pos)
  clear hbw b1 HBD hT
  go_wp2_with fail
  refine HMD.out.mono ?_
  rintro e w2 ⟨X2,L2,M2,S2,O2,rfl,hqw,b2⟩
  have HPM:Hid (PM w2 (λ_=>False) ⟨w.heap.size,M,S,L⟩ 32 ⟨f1,st0,[],[],-1,[]⟩ ⟨w1.heap.size,M2,S2,L2⟩ ⟨f1,st0,[],[],-1,[]⟩):=PM.of (p:=⟨w.heap.size,M,S,L⟩) (q:=⟨w1.heap.size,M2,S2,L2⟩) (HBW.out.below b2) hqw (λk hk=>(HBW.out.oN k hk).2) (λk hk=>(hqw.oN k hk).1)
  have HGJ:Hid (GJ (0+0) (⟨f1,st0,[],[],-1,[]⟩:BM)):=⟨HQ2.out.blk,Nat.le_refl _,Nat.le_refl _,(λ_ h=>(by cases h)),λ_ h=>(by cases h)⟩
  have HB2:Hid (Below w.heap.size w w2):=HB1.out.trans (b2.mono HB1.out.size)
  have hTw:w.heap.size<=T:=by rw[<-HT.out];exact HB1.out.size
  clear hqw b2 HMD HBW HQ1 HQ2 HB1
  rw[HT.out] at HPM
  clear HT
  go_wp2_with fail
  go_loopw [10] (λz wr=>∃(i:Nat) (b:BM),i<=len/\z=.int .i64 (i:Int)/\Hid (GJ (0+i) b)/\Hid (PM wr (λ_=>False) ⟨w.heap.size,M,S,L⟩ (32+0+i) b ⟨T,M2,S2,L2⟩ b)/\Hid (Below w.heap.size w wr)) (λz _=>len-(intOf z).toNat)
  case atStart=>exact⟨0,_,by omega,rfl,HGJ,HPM,HB2⟩
  case round=>
   clear HGJ HPM HB2
   obtain⟨i,b,hi,rfl,HGJ,HPM,HB⟩:=hrel
   by_cases hlt:i<len
   ·have y0:(i:Int)<len:=by omega
    obtain⟨bb,o,c,rfl,hc,hrd,hx⟩:=HA.out.at hlt
    have hX:=hx.below HB.out hx.lt
    have hco:c.od.length<=20:=HOD.out c (List.mem_of_getElem? hc)
    have HRJ:=Hh hrd
    have HXX:=Hh hx
    have HGN:Hid (GJ (0+(i+1)) (doB b c).2.2):=doB_gj HGJ.out c
    have hDA:=HPM.out.callA (f:=25) (args:=#[fptr M,cBa c]) (n':=32+0+i+1) (r:=doB b c) (λ F hF=>do_any hF HGJ.out.blk (by omega) HGJ.out.cand (by have:=HGJ.out.es;omega) (by have:=HGJ.out.log;omega) c (hrd.below HB.out (Nat.le_refl _)) hco)
    obtain⟨r1,hr1⟩:∃r,doB b c=r:=⟨_,rfl⟩
    obtain⟨⟨x,cv⟩,er,b2⟩:=r1
    have hDB:=λ(W:World) (G:Nat->Prop) (pm:PM W G ⟨w.heap.size,M,S,L⟩ (32+0+i+1) b2 ⟨T,M2,S2,L2⟩ b) (hrj:RdJ W c.ol c.od)=>pm.callB (f:=31) (args:=#[fptr M2,cBa c]) (n':=1) (r:=doB b c) (λ F hF=>want_any hF HGJ.out.blk (by omega) HGJ.out.cand (by have:=HGJ.out.es;omega) (by have:=HGJ.out.log;omega) c hrj hco)
    rw[hr1] at hDA hDB HGN
    unfold cBa at hDA hDB
    have HDA:=Hh hDA
    have HDB:=Hh hDB
    obtain⟨c0,c1,c2,c3,c4,c5,c6,clt⟩:=hX
    clear hDA hDB hr1 hrd hx hc hco HGJ HPM
    go_wp2_with fail
    refine HDA.out.mono ?_
    rintro e w3 ⟨rfl,pm3,_,b3w⟩
    have hal:Below w3.heap.size w3 (w3.alloc (.cells #[.int .i64 x,.int .i64 cv] 40)):=(Below.refl _ _).alloc (Nat.le_refl _) _
    have HPM4:=Hh ((pm3.news hal).less (G':=λq=>q=w3.heap.size) (λq hq=>.inr ⟨by omega,by subst hq;simp⟩))
    have HB4:Hid (Below w.heap.size w (w3.alloc (.cells #[.int .i64 x,.int .i64 cv] 40))):=(HB.out.trans b3w).alloc ((HB.out.trans b3w).size) _
    obtain⟨x0,x1⟩:=stpC w3 x cv
    have HXC:Hid ((w3.alloc (.cells #[.int .i64 x,.int .i64 cv] 40)).cell? ⟨w3.heap.size,0,none⟩=some (.int .i64 x)/\(w3.alloc (.cells #[.int .i64 x,.int .i64 cv] 40)).cell? ⟨w3.heap.size,1,none⟩=some (.int .i64 cv)):=⟨x0,x1⟩
    have hE:w3.heap.size<(w3.alloc (.cells #[.int .i64 x,.int .i64 cv] 40)).heap.size:=by simp
    have HEL:=Hh hE
    clear hal pm3 b3w x0 x1 hE HDA HB c0 c1 c2 c3 c4 c5 c6 clt
    obtain⟨c0,c1,c2,c3,c4,c5,c6,clt⟩:=HXX.out.below HB4.out HXX.out.lt
    have HDC:=Hh (HDB.out _ _ HPM4.out (HRJ.out.below HB4.out (Nat.le_refl _)))
    clear HDB
    go_wp2_with fail
    generalize w3.alloc (.cells #[.int .i64 x,.int .i64 cv] 40)=w4 at *
    generalize w3.heap.size=E at *
    refine HDC.out.mono ?_
    rintro e w5 ⟨rfl,pm5,ch5,b5⟩
    have x0:w5.cell? ⟨E,0,none⟩=some (.int .i64 x):=(ch5.cell ⟨E,0,none⟩ HEL.out (λq=>q rfl)).trans HXC.out.1
    have x1:w5.cell? ⟨E,1,none⟩=some (.int .i64 cv):=(ch5.cell ⟨E,1,none⟩ HEL.out (λq=>q rfl)).trans HXC.out.2
    have hE5:E<w5.heap.size:=Nat.lt_of_lt_of_le HEL.out ch5.size
    have hal:Below w5.heap.size w5 (w5.alloc (.cells #[.int .i64 x,.int .i64 cv] 40)):=(Below.refl _ _).alloc (Nat.le_refl _) _
    have x0:=(hal.cell (p:=⟨E,0,none⟩) hE5).trans x0
    have x1:=(hal.cell (p:=⟨E,1,none⟩) hE5).trans x1
    obtain⟨z0,z1⟩:=stpC w5 x cv
    have HPM6:=Hh ((pm5.below hal).less (G':=λ_=>False) (λ_ h=>h.elim))
    have HB6:Hid (Below w.heap.size w (w5.alloc (.cells #[.int .i64 x,.int .i64 cv] 40))):=(HB4.out.trans (b5.mono hTw)).alloc ((HB4.out.trans (b5.mono hTw)).size) _
    have hne:=λ(W:World)=>neSt x cv x cv W
    have hne2:(!(x==x&&cv==cv))=false:=by simp
    have hne3:(er != er)=false:=by simp
    have HAL:=Hh (alike_any HPM6.out HGN.out (by omega))
    clear pm5 ch5 b5 hE5 hal HXC HEL HPM4 HB4 HDC c0 c1 c2 c3 c4 c5 c6 clt
    go_wp2_with fail
    generalize w5.alloc (.cells #[.int .i64 x,.int .i64 cv] 40)=w6 at *
    refine HAL.out.mono ?_
    rintro e w7 ⟨rfl,b7⟩
    have HPM7:=Hh ((HPM6.out.below b7).mono (n':=32+0+(i+1)) (by omega))
    have HB7:Hid (Below w.heap.size w w7):=HB6.out.trans (b7.mono HB6.out.size)
    clear b7 HAL HPM6 HB6 x0 x1 z0 z1 hne
    go_wp2_with fail
    go_roundw
    case rel=>exact⟨i+1,b2,by omega,by go_num,HGN,HPM7,HB7⟩
    case measure=>simp[intOf];omega
   ·have y0:¬(i:Int)<len:=by omega
    have HAW:=Hh (awake_any wr HPM.out.rnd HPM.out.pos)
    go_wp2_with fail
    refine HAW.out.mono ?_
    rintro e w4 ⟨rfl,b4⟩
    have HB4:Hid (Below w.heap.size w w4):=HB.out.trans (b4.mono HB.out.size)
    clear b4 HAW
    go_wp2_with fail
    go_ret
    exact⟨rfl,HB4.out⟩
end
end Go.Proofs.YtdinbpdpalgohaaGreatDoor
namespace Go.Proofs.YtdinbpdpalgohaaGreatDoor.bootCallsAgreeDone
open Go.ChangeShapes Go.WideShapes Go.ChangeAt Go.RowKit Go.Deep
open Go.ChangeMaps (open_string shut_string)
theorem contract (H:Type)(enc:TypeId×Value->H)(W:World)(base:Nat)(args:Array Value)(ds gs:List (DataW H))(before:List MemPlace)
  (hval0:∀(j:Nat) t v,Tryz.f7.params[j]? = some t->args[j]? = some v->Value.okWide Tryz.prog W .any base t v)
  (hW:DataW.Whole enc Tryz.prog Tryz.f7.params.toList Rows.bootCallsAgreeSpec.vars false W args.toList ds gs before) (hL:laidMetH Tryz.prog Rows.bootCallsAgreeRow.laid W) :
  Calls Tryz.prog 7 args W λe W'=>∃v,e=.returned v/\Rows.bootCallsAgreeSpec.post enc Tryz.prog Tryz.f7 false true false false W args v W':=by
 have hR:Ms.Rnd W:=rnd_of hL
 have h00:0<W.heap.size:=rnd_pos hR
 have hval:=hval0
 have hW':=hW
 obtain⟨p,q,hA0,hV,rfl,hfz,hnd⟩:=hW
 have hA:DataW.TrodAll enc Tryz.prog W 0 (λ_=>true) true Tryz.f7.params.toList args.toList ds p:=hA0
 rw[Tryz.params7] at hA hval
 obtain⟨v0,vs0,d0,ds0,p0,q0,hargs,rfl,rfl,h0,r0⟩:=trodAll_cons hA
 obtain⟨rfl,rfl,rfl⟩:=trodAll_nil r0
 obtain rfl:args=#[v0]:=by cases args;simp_all
 obtain⟨rfl,rfl⟩:=trodVars_none hV
 obtain⟨a0,len0,cap0,rfl⟩:=okWide_slice Tryz.underlying52 (hval 0 52 v0 rfl rfl)
 have k0:=h0
 have lt0:∀x∈p0,x.block<W.heap.size:=by obtain⟨m,hm⟩:=k0;exact DataW.trod_lt m _ _ _ hm
 obtain⟨f0,s0⟩:∃f,CallS W a0 len0 cap0 f:=by
  obtain⟨fuel,hf⟩:=h0
  obtain⟨A,l,c,f,hcs,hs⟩:=open_calls hf
  simp[Value.cells] at hcs
  obtain⟨rfl,rfl,rfl⟩:=hcs
  exact⟨f,hs⟩
 clear hA0 hval0
 refine(callsAgree_any a0 len0 cap0 f0 W s0 hR h00).mono λe W' ⟨he,bel⟩=>?_
 subst he
 exact⟨_,rfl,_,_,_,[],_,[],hW',trodAll_mk1 (shut_bool Tryz.underlying4 _),(trodAll_cons_mk (Below.trod laidOut (by kernel_rfl) (of_decide_eq_true (by kernel_rfl)) k0 bel lt0) trodAll_mk0),rfl,bel.frame _,λh=>by cases h⟩
theorem laid_met (os:Os):laidMet Tryz.prog Rows.bootCallsAgreeRow.laid ((laidWorld os).forCall (λ_ _=>0) ⟨#[],#[.slice none 0 0],[]⟩).memory:=
 laidMet_of_run' 8 (by kernel_rfl) (by kernel_rfl)
theorem reads (os:Os){H:Type}(enc:TypeId×Value->H):∃places,DataW.whole enc Tryz.prog ((laidWorld os).forCall (λ_ _=>0) ⟨#[],#[.slice none 0 0],[]⟩).memory Tryz.f7.params.toList Rows.bootCallsAgreeSpec.vars false (#[.slice none 0 0]:Array Value).toList 8=some ([.nil],[],places):=
 ⟨[],by kernel_rfl⟩
theorem lifted (os:Os)(started:os.Started)(H:Type)(enc:TypeId×Value->H)(F:Stop.Interp) :
  ReturnsInHanded {} Tryz.checked os 7 .any ((OpenSpec.ofChange Rows.bootCallsAgreeSpec).preRow enc Tryz.prog Tryz.f7 Rows.bootCallsAgreeRow.domain false Rows.bootCallsAgreeRow.laid) (((OpenSpec.ofChange Rows.bootCallsAgreeSpec).at F).post enc Tryz.prog Tryz.f7 false true false false):=by
 obtain⟨places,hx⟩:=reads os enc
 refine returnsInHanded_of_row (C:=Tryz.checked) (s:=OpenSpec.ofChange Rows.bootCallsAgreeSpec) own started (by kernel_rfl) Tryz.func7
  (witness_row_at (enc:=enc) (C:=Tryz.checked) false (laidWorld os) #[.slice none 0 0] rfl (by kernel_rfl) (by kernel_rfl) (by kernel_rfl)
   (OpenSpec.preRow_of_cond 8 hx (by kernel_rfl) (λk hk=>by cases hk) (by kernel_rfl) (laid_met os))) ?_
 intro W base args ds gs before hval hW _ _ _ hL _ _
 exact contract H enc W base args ds gs before hval hW hL
theorem said:Rows.BootCallsAgreeSaid:=
 OpenClaim.holds_of_cond 7 Tryz.f7 rfl rfl rfl rfl rfl rfl rfl ⟨rfl,rfl,rfl,rfl,rfl⟩ rfl rfl rfl rfl rfl (by kernel_rfl) Tryz.func7 (by kernel_rfl)
  (of_decide_eq_true (by kernel_rfl)) (by unfold Func.isWrapper;first|(rw[if_pos (by decide +kernel)];kernel_rfl)|(rw[if_neg (by decide +kernel)];exact⟨rfl,rfl⟩))
  (λos started H enc _ F=>by rw[OpenClaim.pre_eq_preRow];exact lifted os started H enc F)
theorem plain (f : FuncId)(fn : Func)(hf : Tryz.pinned.checked.prog.funcNamed "platformfw/platformfwlaw43.BootCallsAgree" = some f)(hfn : Tryz.pinned.checked.prog.funcs[f]? = some fn) :
  true=Tryz.pinned.checked.prog.looks []/\∀(j:Nat) t,fn.params[j]? = some t->Tryz.pinned.checked.prog.wantsStandIn t=false:=by
 obtain rfl : f = 7 := Option.some.inj ((show Tryz.prog.funcNamed "platformfw/platformfwlaw43.BootCallsAgree" = some 7 by kernel_rfl).symm.trans hf) |>.symm
 obtain rfl:fn=Tryz.f7:=(Option.some.inj (Tryz.func7.symm.trans hfn)).symm
 refine⟨by kernel_rfl,λj t ht=>?_⟩
 rw[Tryz.params7] at ht
 have hall:(Tryz.f7.params.all λt=>!Tryz.prog.wantsStandIn t)=true:=by kernel_rfl
 rw[Tryz.params7] at hall
 have:=Array.all_eq_true_iff_forall_mem.1 hall t (Array.mem_of_getElem? ht)
 show Tryz.prog.wantsStandIn t=false
 simpa using this
theorem proved:Rows.BootCallsAgreeCardSaid:=
 Claim7.holds_tied_plain_at .later [] _ _ _ _ said (λ_ h=>by cases h) (by kernel_rfl) (λ_ h=>by cases h) bootCallsAgree_row_tie rfl ⟨rfl,rfl⟩ (by kernel_rfl) rfl plain (by kernel_rfl)
#print axioms proved
end Go.Proofs.YtdinbpdpalgohaaGreatDoor.bootCallsAgreeDone
