/- Walks and laws: MsI MsJ MsL MsM MsF MsG MsN MsO MsS MsAF MsRA. Conditions: those that each theorem names. -/
import Derived.Lib.LazyBuf
import Derived.Deep.RegionHeld3
import Derived.Deep.RegionLaw
import Derived.Deep.AppendLies
import Derived.Deep.DrawnRows
import Derived.Stop.BytesEq
import Derived.Test.YtdinbpdpalgohaaGreatDoorX7
import Derived.Test.YtdinbpdpalgohaaGreatDoorX1
set_option maxHeartbeats 4000000
set_option maxRecDepth 100000
namespace Go.Proofs.YtdinbpdpalgohaaGreatDoor
open Go.RowKit
namespace Ms
attribute [local go_sem ↓] alloc26 alloc63 alloc77 load63n store63n store77n
attribute [local go_sem] stN_uc set_new
theorem Row.range0 {w:World}{B t N:Nat}{v:Nat->Value}(h:Row w B t N v):w.rangeAt B 0 (Ms.arr N v).toList:=λj u hu=>by
 have hj:j<N:=by have:=(List.getElem?_eq_some_iff.1 hu).1;simpa[Ms.arr] using this
 have:u=v j:=by simpa[Ms.arr,hj] using hu.symm
 rw[this,Nat.zero_add,Row.cell h hj]
theorem t1_w (rk wk:Int)(x:S8):IntKind.u32.wrap (IntKind.u32.wrap (IntKind.u32.wrap (IntKind.u32.wrap (x.h+bits BinOp.xor IntKind.u32 (bits BinOp.xor IntKind.u32 (rr 64 67108864 x.e) (rr 2048 2097152 x.e)) (rr 33554432 128 x.e)) +
  bits BinOp.xor IntKind.u32 (bits BinOp.and IntKind.u32 x.e x.f) (bits BinOp.and IntKind.u32 (bits BinOp.xor IntKind.u32 IntKind.u32.max x.e) x.g))+rk)+wk)=t1 rk wk x:=by
 simp only[IntKind.wrap_u32'];rfl
theorem t2_w (x:S8):IntKind.u32.wrap (bits BinOp.xor IntKind.u32 (bits BinOp.xor IntKind.u32 (rr 4 1073741824 x.a) (rr 8192 524288 x.a)) (rr 4194304 1024 x.a) +
  bits BinOp.xor IntKind.u32 (bits BinOp.xor IntKind.u32 (bits BinOp.and IntKind.u32 x.a x.b) (bits BinOp.and IntKind.u32 x.a x.c)) (bits BinOp.and IntKind.u32 x.b x.c))=t2 x:=by
 simp only[IntKind.wrap_u32'];rfl
def pr (hv:Nat->Int)(x:S8)(j q:Nat):Int:=if q<j then ad3 (x.get q) (hv q) else x.get q
theorem pr_hi (hv:Nat->Int)(x:S8)(j q:Nat)(h:j<=q):pr hv x j q=x.get q:=if_neg (by omega)
theorem pr_lo (hv:Nat->Int)(x:S8)(j q:Nat)(h:q<j):pr hv x j q=ad3 (x.get q) (hv q):=if_pos h
theorem pr_step (hv:Nat->Int)(x:S8)(j:Nat):upd (pr hv x j) j (ad3 (x.get j) (hv j))=pr hv x (j+1):=by
 funext q
 by_cases e:q=j
 ·subst e;rw[upd_hit,pr_lo _ _ _ _ (by omega)]
 ·rw[upd_miss _ _ e]
  by_cases h:q<j
  ·rw[pr_lo _ _ _ _ h,pr_lo _ _ _ _ (by omega)]
  ·rw[pr_hi _ _ _ _ (by omega),pr_hi _ _ _ _ (by omega)]
structure BI (w wr:World)(Kb Sb:Nat)(hv f g:Nat->Int):Prop where
 rW:Row wr (Kb+1) 184 64 (uc f)
 rK:Row wr Kb 184 64 (uc rc)
 rH:Row wr w.heap.size 111 8 (uc hv)
 rO:Row wr (w.heap.size+1) 111 8 (uc λ_=>0)
 rS:Row wr Sb 111 8 (uc g)
 bel:Below w.heap.size w wr
theorem BI.drew {w wr:World}{Kb Sb:Nat}{hv f g:Nat->Int}(h:BI w wr Kb Sb hv f g):BI w wr.drew Kb Sb hv f g:=⟨h.rW.drew,h.rK.drew,h.rH.drew,h.rO.drew,h.rS.drew,h.bel.drew⟩
theorem stp_row {W:World}{Sb t:Nat}{g:Nat->Int}(h:Row W Sb t 8 (uc g))(y:S8):Row (W.setCells Sb 0 [.int .u32 y.a,.int .u32 y.b,.int .u32 y.c,.int .u32 y.d,.int .u32 y.e,.int .u32 y.f,.int .u32 y.g,.int .u32 y.h]) Sb t 8 (uc y.get):=by
 refine Row.congr (Row.setAll _ 0 W _ h (by simp)) λi hi=>?_
 match i,hi with
 | 0,_=>rfl
 | 1,_=>rfl
 | 2,_=>rfl
 | 3,_=>rfl
 | 4,_=>rfl
 | 5,_=>rfl
 | 6,_=>rfl
 | 7,_=>rfl
theorem Row.farAll {B t N:Nat}{v:Nat->Value}{b:Nat}(hb:B≠b):∀(vs:List Value) (o:Nat) (w:World),Row w B t N v->Row (w.setCells b o vs) B t N v
 | [],_,_,h=>h
 | u::r,o,_,h=>Row.farAll hb r (o+1) _ (h.far (p:=⟨b,o,none⟩) hb u)
theorem block_any (hv:Nat->Int)(s:ByteArray)(w:World)(hs:s.size=64)(hu:∀i,U (hv i)) :
  Calls Tryz.prog 119 #[.agg (arr 8 (uc hv)),.string s] w λe w'=>e=.returned (.agg (arr 8 (uc (blk hv s.data.toList))))/\Below w.heap.size w w':=by
 have HZ:=Hh hs
 have HU:=Hh hu
 have hz1:s.size<=64:=by omega
 have hz2:64<=s.size:=by omega
 clear hs hu
 go_enter Tryz.func119,Tryz.ntmps119
 go_wp2_with (first|(go_at_call 151;refine(words_any _).mono ?_;rintro e w1 ⟨rfl,hb⟩))
 have hbs:=hb.size
 simp at hbs
 have r1:Row (w.alloc (.cells (arr 8 (uc hv)) 111)) w.heap.size 111 8 (uc hv):=Row.ofList w 111 _ _ 8 rfl
 have r2:Row ((w.alloc (.cells (arr 8 (uc hv)) 111)).alloc (.cells (arr 8 (uc λ_=>0)) 111)) (w.heap.size+1) 111 8 (uc λ_=>0):=Row.ofListAt _ _ 111 (by simp) _ _ 8 rfl
 have q1:=((r1.alloc _).below hb (by simp;omega)).alloc (.cells (arr 64 (uc rc)) 184) |>.alloc (.cells (arr 64 (uc λ_=>0)) 184)
 have q2:=(r2.below hb (by simp)).alloc (.cells (arr 64 (uc rc)) 184) |>.alloc (.cells (arr 64 (uc λ_=>0)) 184)
 have q3:=(Row.ofList w1 184 (arr 64 (uc rc)) (uc rc) 64 rfl).alloc (.cells (arr 64 (uc λ_=>0)) 184)
 have q4:Row ((w1.alloc (.cells (arr 64 (uc rc)) 184)).alloc (.cells (arr 64 (uc λ_=>0)) 184)) (w1.heap.size+1) 184 64 (uc λ_=>0):=Row.ofListAt _ _ 184 (by simp) _ _ 64 rfl
 have hbW:Below w.heap.size w ((w1.alloc (.cells (arr 64 (uc rc)) 184)).alloc (.cells (arr 64 (uc λ_=>0)) 184)):=(((((Below.refl _ _).alloc (Nat.le_refl _) _).alloc (by simp) _).trans (hb.mono (by simp;omega))).alloc (by omega) _).alloc (by simp;omega) _
 clear hb r1 r2
 have HQ1:=Hh q1
 have HQ2:=Hh q2
 have HQ3:=Hh q3
 have HQ4:=Hh q4
 clear q1 q2 q3 q4
 generalize hG:(w1.alloc (.cells (arr 64 (uc rc)) 184)).alloc (.cells (arr 64 (uc λ_=>0)) 184)=W at HQ1 HQ2 HQ3 HQ4 hbW ⊢
 generalize w1.heap.size=Kb at hbs HQ3 HQ4 ⊢
 clear hG w1
 have hne1:w.heap.size≠Kb+1:=by omega
 have hne2:w.heap.size+1≠Kb+1:=by omega
 have hne3:Kb≠Kb+1:=by omega
 have hle:w.heap.size<=Kb+1:=by omega
 go_loopw [7] (λi wr=>∃(k:Nat) (f:Nat->Int),k<=64/\i=.int .i64 k/\Hid (Row wr (Kb+1) 184 64 (uc f))/\Hid (∀j,j<k->f j=sw s.data.toList j)/\Hid (Row wr Kb 184 64 (uc rc))/\Hid (Row wr w.heap.size 111 8 (uc hv))/\Hid (Row wr (w.heap.size+1) 111 8 (uc λ_=>0))/\Below w.heap.size w wr) (λi _=>64-(intOf i).toNat)
 case atStart=>exact⟨0,λ_=>0,by omega,rfl,HQ4,λj hj=>by omega,HQ3,HQ1,HQ2,hbW⟩
 case round=>
  clear HQ1 HQ2 HQ3 HQ4 hbW
  obtain⟨k,f,hk,rfl,hrow,hf,hK,hH,hO,hbel⟩:=hrel
  have hsz:=hrow.out.lt
  by_cases hlt:k<64
  ·have k1:(k:Int)<64:=by omega
   by_cases hlt6:k<16
   ·have k2:(k:Int)<16:=by omega
    have fr:=Row.frozen hrow.out k
    have ce:=Row.cell hrow.out (show k<64 by omega)
    unfold uc at ce
    have i0:(0:Int)<=4*k/\(4:Int)*k<s.size:=by omega
    have i1:(0:Int)<=4*k+1/\(4:Int)*k+1<s.size:=by omega
    have i2:(0:Int)<=4*k+2/\(4:Int)*k+2<s.size:=by omega
    have i3:(0:Int)<=4*k+3/\(4:Int)*k+3<s.size:=by omega
    have w0:IntKind.i64.wrap (4*(k:Int))=4*k:=IntWalk.i64_in _ (by omega)
    have w1:IntKind.i64.wrap (4*(k:Int)+1)=4*k+1:=IntWalk.i64_in _ (by omega)
    have w2:IntKind.i64.wrap (4*(k:Int)+2)=4*k+2:=IntWalk.i64_in _ (by omega)
    have w3:IntKind.i64.wrap (4*(k:Int)+3)=4*k+3:=IntWalk.i64_in _ (by omega)
    go_wp2
    go_still_tail 31,(by kernel_rfl)
    change wpList _ _ _ _ _ wr.drew
    go_wp2
    have HE:=Hh (wdr_eq s k (by omega) (by omega) (by omega) (by omega))
    go_roundw
    case rel=>
     have ev:((((s[4*k].toNat:Nat):Int)%4294967296*16777216)+(((s[4*k+1].toNat:Nat):Int)%4294967296*65536)+(((s[4*k+2].toNat:Nat):Int)%4294967296*256)+((s[4*k+3].toNat:Nat):Int))%4294967296=wd s.data.toList k:=by rw[<-HE.out];omega
     rw[ev]
     refine⟨k+1,upd f k (wd s.data.toList k),by omega,by go_num,?_,λj hj=>?_,hK.out.far hne3 _,hH.out.far hne1 _,hO.out.far hne2 _,(hbel.setCell hle _).drew⟩
     ·have:=Row.set hrow.out (i:=k) (by omega) (.int .u32 (wd s.data.toList k))
      rw[uc_upd] at this
      exact this
     ·by_cases e:j=k
      ·subst e;rw[upd_hit,sw_last _ _ (by omega),if_pos hlt6]
      ·rw[upd_miss _ _ e];exact hf.out j (by omega)
    case measure=>simp[intOf];omega
   ·have k2:¬(k:Int)<16:=by omega
    have c15:=Row.cell hrow.out (show k-15<64 by omega)
    have c2:=Row.cell hrow.out (show k-2<64 by omega)
    have c16:=Row.cell hrow.out (show k-16<64 by omega)
    have c7:=Row.cell hrow.out (show k-7<64 by omega)
    have ck:=Row.cell hrow.out (show k<64 by omega)
    have fr:=Row.frozen hrow.out k
    unfold uc at c15 c2 c16 c7 ck
    rw[hf.out _ (by omega)] at c15 c2 c16 c7
    have u15:=sw_u s.data.toList (k-15) (by omega)
    have u2:=sw_u s.data.toList (k-2) (by omega)
    have u16:=sw_u s.data.toList (k-16) (by omega)
    have u7:=sw_u s.data.toList (k-7) (by omega)
    have e15:IntKind.i64.wrap ((k:Int)-15)=(k:Int)-15:=IntWalk.i64_in _ (by omega)
    have e2:IntKind.i64.wrap ((k:Int)-2)=(k:Int)-2:=IntWalk.i64_in _ (by omega)
    have e16:IntKind.i64.wrap ((k:Int)-16)=(k:Int)-16:=IntWalk.i64_in _ (by omega)
    have e7:IntKind.i64.wrap ((k:Int)-7)=(k:Int)-7:=IntWalk.i64_in _ (by omega)
    have HN:=Hh (sw_last s.data.toList k hlt)
    generalize sw s.data.toList (k-15)=x15 at c15 u15 HN
    generalize sw s.data.toList (k-2)=x2 at c2 u2 HN
    generalize sw s.data.toList (k-16)=x16 at c16 u16 HN
    generalize sw s.data.toList (k-7)=x7 at c7 u7 HN
    have U15:=Hh u15
    have U2:=Hh u2
    clear u15 u2
    have b16:(k:Int)-16<64:=by omega
    have b7:(k:Int)-7<64:=by omega
    have b7':(7:Int)<=k:=by omega
    have b16':(16:Int)<=k:=by omega
    go_wp2_with fail
    go_quiet (fail)
    go_wp2_with fail
    have t16:(wr.drewN nq).cell? ⟨Kb+1,((k:Int)-16).toNat,none⟩=some (.int .u32 x16):=by rw[show((k:Int)-16).toNat=k-16 by omega];exact c16
    have t7:(wr.drewN nq).cell? ⟨Kb+1,((k:Int)-7).toNat,none⟩=some (.int .u32 x7):=by rw[show((k:Int)-7).toNat=k-7 by omega];exact c7
    have tk:(wr.drewN nq).cell? ⟨Kb+1,k,none⟩=some (.int .u32 (f k)):=ck
    have tf:(wr.drewN nq).frozen? ⟨Kb+1,k,none⟩=false:=fr
    have hrow2:=Hh (hrow.out.drewN nq)
    have hK2:=Hh (hK.out.drewN nq)
    have hH2:=Hh (hH.out.drewN nq)
    have hO2:=Hh (hO.out.drewN nq)
    have hbel2:=below_drewN hbel nq
    have hsz2:=hrow2.out.lt
    clear hrow hK hH hO hbel c15 c2 c16 c7 ck fr hsz
    generalize wr.drewN nq=W2 at t16 t7 tk tf hrow2 hK2 hH2 hO2 hbel2 hsz2 ⊢
    go_still_tail 29,(by kernel_rfl)
    still_call (stl (ref7 _ _ U15.out))
    repeat still_step
    still_call (stl (ref18 _ _ U15.out))
    repeat still_step
    still_call (stl (ref17 _ _ U2.out))
    repeat still_step
    still_call (stl (ref19 _ _ U2.out))
    repeat still_step
    refine wpStill_nil ?_
    change wpList _ _ _ _ _ W2.drew
    go_wp2_with fail
    go_roundw
    case rel=>
     have ev:sw s.data.toList k=nx x16 x15 x7 x2:=by rw[HN.out,if_neg (by omega)]
     rw[nx_eq,<-ev]
     refine⟨k+1,upd f k (sw s.data.toList k),by omega,by go_num,?_,λj hj=>?_,hK2.out.far hne3 _,hH2.out.far hne1 _,hO2.out.far hne2 _,(hbel2.setCell hle _).drew⟩
     ·have:=Row.set hrow2.out (i:=k) (by omega) (.int .u32 (sw s.data.toList k))
      rw[uc_upd] at this
      exact this
     ·by_cases e:j=k
      ·subst e;rw[upd_hit]
      ·rw[upd_miss _ _ e];exact hf.out j (by omega)
    case measure=>simp[intOf];omega
  ·have k1:¬(k:Int)<64:=by omega
   have hk64:Hid (k=64):=(by omega:k=64)
   have hAH:=Hh hH.out.arr
   have hld:ldN 8 wr (.pointer (some ⟨w.heap.size,0,none⟩))=some (arr 8 (uc hv)):=ldN_of (Row.range0 hH.out) (by simp[arr])
   go_wp2_with fail
   have hI0:Hid (BI w (wr.alloc (.cells (arr 8 (uc hv)) 111)) Kb wr.heap.size hv f (S8.of hv).get):=⟨hrow.out.alloc _,hK.out.alloc _,hH.out.alloc _,hO.out.alloc _,Row.congr (Row.ofList wr 111 (arr 8 (uc hv)) (uc hv) 8 rfl) (λi hi=>by
    match i,hi with
    | 0,_=>rfl
    | 1,_=>rfl
    | 2,_=>rfl
    | 3,_=>rfl
    | 4,_=>rfl
    | 5,_=>rfl
    | 6,_=>rfl
    | 7,_=>rfl),hbel.alloc hbel.size _⟩
   have hS1:Kb+1<wr.heap.size:=hsz
   clear hld hAH hrow hK hH hO hbel hsz
   generalize wr.alloc (.cells (arr 8 (uc hv)) 111)=W0 at hI0 ⊢
   generalize wr.heap.size=Sb at hI0 hS1 ⊢
   have hx0:(S8.of hv).u:=⟨HU.out 0,HU.out 1,HU.out 2,HU.out 3,HU.out 4,HU.out 5,HU.out 6,HU.out 7⟩
   have HX0:=Hh hx0
   clear hx0
   have hf64:Hid (∀j,j<64->f j=sw s.data.toList j):=by have:=hf.out;rw[hk64.out] at this;exact this
   have ne1:Kb+1≠Sb:=by omega
   have ne2:Kb≠Sb:=by omega
   have ne3:w.heap.size≠Sb:=by omega
   have ne4:w.heap.size+1≠Sb:=by omega
   have hleS:w.heap.size<=Sb:=by omega
   clear hk64 hf hlt k1 hk
   go_loopw [11] (λi wr=>∃(k:Nat) (x:S8),k<=64/\i=.int .i64 k/\Hid (x=rnds rc (sw s.data.toList) (S8.of hv) k)/\Hid (BI w wr Kb Sb hv f x.get)) (λi _=>64-(intOf i).toNat)
   case atStart=>exact⟨0,S8.of hv,by omega,rfl,rfl,hI0⟩
   case round=>
    clear hI0
    obtain⟨k,x,hk,rfl,hx,hI⟩:=hrel
    by_cases hlt:k<64
    ·have k1:(k:Int)<64:=by omega
     have hxu:x.u:=by rw[hx.out];exact rnds_u HX0.out k
     obtain⟨ua,ub,uc',ud,ue,uf,ug,uh⟩:=hxu
     have UA:=Hh ua
     have UE:=Hh ue
     obtain⟨ue0,ue1⟩:=ue
     have kc:=rc_u k
     have kw:=sw_u s.data.toList k hlt
     have HST:Hid (rnds rc (sw s.data.toList) (S8.of hv) (k+1)=stp (rc k) (sw s.data.toList k) x):=(by rw[hx.out];rfl:rnds rc (sw s.data.toList) (S8.of hv) (k+1)=stp (rc k) (sw s.data.toList k) x)
     have HCK:Hid (∀V,BI w V Kb Sb hv f x.get->V.cell? ⟨Kb,k,none⟩=some (.int .u32 (rc k))/\V.cell? ⟨Kb+1,k,none⟩=some (.int .u32 (sw s.data.toList k))/\V.cell? ⟨Sb,0,none⟩=some (.int .u32 x.a)/\V.cell? ⟨Sb,1,none⟩=some (.int .u32 x.b)/\V.cell? ⟨Sb,2,none⟩=some (.int .u32 x.c)/\V.cell? ⟨Sb,3,none⟩=some (.int .u32 x.d)/\V.cell? ⟨Sb,4,none⟩=some (.int .u32 x.e)/\V.cell? ⟨Sb,5,none⟩=some (.int .u32 x.f)/\V.cell? ⟨Sb,6,none⟩=some (.int .u32 x.g)/\V.cell? ⟨Sb,7,none⟩=some (.int .u32 x.h)):=λ V h=>
      ⟨Row.cell h.rK hlt,by rw[Row.cell h.rW hlt];unfold uc;rw[hf64.out k hlt],Row.cell h.rS (i:=0) (by omega),Row.cell h.rS (i:=1) (by omega),Row.cell h.rS (i:=2) (by omega),Row.cell h.rS (i:=3) (by omega),Row.cell h.rS (i:=4) (by omega),Row.cell h.rS (i:=5) (by omega),Row.cell h.rS (i:=6) (by omega),Row.cell h.rS (i:=7) (by omega)⟩
     generalize rc k=rk at kc HST HCK
     generalize sw s.data.toList k=wk at kw HST HCK
     obtain⟨ck,cw,c0,c1,c2,c3,c4,c5,c6,c7⟩:=HCK.out _ hI.out
     go_wp2_with fail
     refine wp_region_still_lit (by kernel_rfl) (by kernel_rfl) ?_
     repeat still_step
     refine wpStill_nil ?_
     change Exit.then _ _ _ _ wr.drew
     have hI1:=Hh hI.out.drew
     clear ck cw c0 c1 c2 c3 c4 c5 c6 c7 hI
     generalize wr.drew=V1 at hI1 ⊢
     obtain⟨ck,cw,c0,c1,c2,c3,c4,c5,c6,c7⟩:=HCK.out _ hI1.out
     go_wp2_with fail
     refine wp_region_still_lit (by kernel_rfl) (by kernel_rfl) ?_
     repeat still_step
     still_call (stl (ref6 _ _ UE.out))
     repeat still_step
     still_call (stl (ref11 _ _ UE.out))
     repeat still_step
     still_call (stl (ref25 _ _ UE.out))
     repeat still_step
     refine wpStill_nil ?_
     change Exit.then _ _ _ _ V1.drew
     have hI2:=Hh hI1.out.drew
     clear ck cw c0 c1 c2 c3 c4 c5 c6 c7 hI1
     generalize V1.drew=V2 at hI2 ⊢
     obtain⟨ck,cw,c0,c1,c2,c3,c4,c5,c6,c7⟩:=HCK.out _ hI2.out
     go_wp2_with fail
     refine wp_region_still_lit (by kernel_rfl) (by kernel_rfl) ?_
     repeat still_step
     still_call (stl (ref2 _ _ UA.out))
     repeat still_step
     still_call (stl (ref13 _ _ UA.out))
     repeat still_step
     still_call (stl (ref22 _ _ UA.out))
     repeat still_step
     refine wpStill_nil ?_
     change Exit.then _ _ _ _ V2.drew
     have hI3:=Hh hI2.out.drew
     clear ck cw c0 c1 c2 c3 c4 c5 c6 c7 hI2
     generalize V2.drew=V3 at hI3 ⊢
     obtain⟨ck,cw,c0,c1,c2,c3,c4,c5,c6,c7⟩:=HCK.out _ hI3.out
     rw[t1_w,t2_w]
     have hU1:U (t1 rk wk x):=ad3_u _ _
     have hU2:U (t2 x):=ad3_u _ _
     generalize hT1:t1 rk wk x=T1 at hU1 ⊢
     generalize hT2:t2 x=T2 at hU2 ⊢
     have HT1:=Hh hT1
     have HT2:=Hh hT2
     clear hT1 hT2
     have hst:∀a0 a1 a2 a3 a4 a5 a6 a7:Int,stN 8 V3 (.pointer (some ⟨Sb,0,none⟩)) (.agg #[.int .u32 a0,.int .u32 a1,.int .u32 a2,.int .u32 a3,.int .u32 a4,.int .u32 a5,.int .u32 a6,.int .u32 a7])=some (Sb,0,#[.int .u32 a0,.int .u32 a1,.int .u32 a2,.int .u32 a3,.int .u32 a4,.int .u32 a5,.int .u32 a6,.int .u32 a7]):=λ_ _ _ _ _ _ _ _=>stN_of rfl hI3.out.rS.there (by kernel_rfl)
     go_wp2_with fail
     refine⟨⟨k+1,stp rk wk x,by omega,by go_num,HST.out.symm,?_⟩,by simp[intOf];omega⟩
     have hr:=stp_row hI3.out.rS (stp rk wk x)
     have e:stp rk wk x=⟨(T1+T2)%4294967296,x.a,x.b,x.c,(x.d+T1)%4294967296,x.e,x.f,x.g⟩:=by rw[<-HT1.out,<-HT2.out];rfl
     rw[e] at hr ⊢
     exact⟨Row.farAll ne1 _ _ _ hI3.out.rW,Row.farAll ne2 _ _ _ hI3.out.rK,Row.farAll ne3 _ _ _ hI3.out.rH,Row.farAll ne4 _ _ _ hI3.out.rO,hr,Below.setAll hleS _ _ _ hI3.out.bel⟩
    ·have k1:¬(k:Int)<64:=by omega
     have hk64:Hid (k=64):=(by omega:k=64)
     have hxe:Hid (x=rnds rc (sw s.data.toList) (S8.of hv) 64):=by have:=hx.out;rw[hk64.out] at this;exact this
     go_wp2_with fail
     obtain⟨wq,rfl⟩:∃wq:World,wq=wr:=⟨_,rfl⟩
     go_loopw [16] (λi wr=>∃(j:Nat),j<=8/\i=.int .i64 j/\Hid (BI w wr Kb Sb hv f (pr hv x j))) (λi _=>8-(intOf i).toNat)
     case atStart=>exact⟨0,by omega,rfl,hI⟩
     case round=>
      clear hI
      obtain⟨j,hj,rfl,hI⟩:=hrel
      by_cases hj8:j<8
      ·have j1:(j:Int)<8:=by omega
       have cj:=Row.cell hI.out.rS hj8
       have ch:=Row.cell hI.out.rH hj8
       unfold uc at cj ch
       rw[pr_hi _ _ _ _ (Nat.le_refl _)] at cj
       have fj:=Row.frozen hI.out.rS j
       go_wp2_with fail
       go_still_tail 9,(by kernel_rfl)
       change wpList _ _ _ _ _ wr.drew
       go_wp2_with fail
       refine⟨⟨j+1,by omega,by go_num,?_⟩,by simp[intOf];omega⟩
       have hr:=Row.set hI.out.rS (i:=j) hj8 (.int .u32 (ad3 (x.get j) (hv j)))
       rw[uc_upd,pr_step] at hr
       exact BI.drew ⟨hI.out.rW.far ne1 _,hI.out.rK.far ne2 _,hI.out.rH.far ne3 _,hI.out.rO.far ne4 _,hr,hI.out.bel.setCell hleS _⟩
      ·have j1:¬(j:Int)<8:=by omega
       have hlR:ldN 8 wr (.pointer (some ⟨Sb,0,none⟩))=some (arr 8 (uc (pr hv x j))):=ldN_of (Row.range0 hI.out.rS) (by simp[arr])
       have hsR:stN 8 wr (.pointer (some ⟨w.heap.size+1,0,none⟩)) (.agg (arr 8 (uc (pr hv x j))))=some (w.heap.size+1,0,arr 8 (uc (pr hv x j))):=stN_of (by simp[arr]) hI.out.rO.there (all_one _ _ (λ_=>rfl))
       have hrow:=Hh (Row.setWhole (u:=uc (pr hv x j)) hI.out.rO)
       go_wp2_with fail
       refine bodyPost_ret (v:=.agg (arr 8 (uc (pr hv x j)))) (results_cell_row rfl _ _ (w.heap.size+1) 111 (arr 8 (uc (pr hv x j))) (0,0) _ rfl hrow.out.arr Tryz.underlying111 rfl (by kernel_rfl)) rfl ⟨?_,Below.setAll (by omega) _ _ _ hI.out.bel⟩
       have hj:j=8:=by omega
       rw[hj]
       have e:arr 8 (uc (pr hv x 8))=arr 8 (uc (blk hv s.data.toList)):=by
        unfold arr
        congr 1
        apply List.map_congr_left
        intro i hi
        unfold uc blk
        rw[pr_lo _ _ _ _ (by have:=List.mem_range.1 hi;omega),<-hxe.out]
        unfold ad3
        rw[Int.add_comm]
       rw[e]
end Ms
namespace Ms
attribute [local go_sem ↓] alloc26 alloc63 alloc77 load63n store63n store77n load26n store26n
attribute [local go_sem] stN_uc set_new
theorem ldN_drew (n:Nat)(w:World)(v:Value):ldN n w.drew v=ldN n w v:=rfl
attribute [local go_sem] ldN_drew
theorem ivArr:(#[Value.int .u32 1779033703,.int .u32 3144134277,.int .u32 1013904242,.int .u32 2773480762,.int .u32 1359893119,.int .u32 2600822924,.int .u32 528734635,.int .u32 1541459225]:Array Value)=arr 8 (uc iv):=by kernel_rfl
attribute [local go_sem] ivArr
def dgq (H:Nat->Int)(n i:Nat):Value:=if i<n then .int .u8 (dgb H i) else zb i
theorem dgq_hi (H:Nat->Int)(n i:Nat)(h:n<=i):dgq H n i=zb i:=if_neg (by omega)
theorem dgq_lo (H:Nat->Int)(n i:Nat)(h:i<n):dgq H n i=.int .u8 (dgb H i):=if_pos h
theorem dgq_step (H:Nat->Int)(n:Nat):upd (dgq H n) n (.int .u8 (dgb H n))=dgq H (n+1):=by
 funext q
 by_cases e:q=n
 ·subst e;rw[upd_hit,dgq_lo _ _ _ (by omega)]
 ·rw[upd_miss _ _ e]
  by_cases h:q<n
  ·rw[dgq_lo _ _ _ h,dgq_lo _ _ _ (by omega)]
  ·rw[dgq_hi _ _ _ (by omega),dgq_hi _ _ _ (by omega)]
structure SR (w0 wr:World)(v:Value)(n:Nat)(l:List UInt8):Prop where
 sb:SB wr w0.heap.size 5 v n (byv l)
 r0:Row wr w0.heap.size 31 32 zb
 bel:Below w0.heap.size w0 wr
theorem SR.next {w0 wr w1:World}{v v':Value}{n:Nat}{l:List UInt8}(h:SR w0 wr v n l)(o:Obj)(b:UInt8)(hs:SB w1 w0.heap.size 5 v' (n+1) (byv l++[.int .u8 (b.toNat:Int)]))
  (hc:Ch (λk=>v.ownBlock=some k) (wr.alloc o) w1):SR w0 w1 v' (n+1) (l++[b]):=by
 refine⟨by rw[<-byv_snoc];exact hs,(h.r0.alloc o).ch hc (sb_ne (h.sb.alloc o) (h.r0.alloc o) (by decide)),?_⟩
 refine Below.thenCh (h.bel.alloc h.bel.size o) hc (by have:=h.bel.size;simp;omega) λi hi=>?_
 obtain⟨_,g,cap,_,_,rfl,hb,_⟩:=h.sb
 have:g=i:=by simpa[Value.ownBlock] using hi
 omega
theorem SB.toStr {base:Nat}{wr:World}{g n cap:Nat}{l:List UInt8}(h:SB wr base 5 (.slice (some ⟨g,0,none⟩) n cap) n (byv l)) :
  (convert 99 9 (.slice (some ⟨g,0,none⟩) n cap)).run Tryz.prog wr=.ok (.string ⟨l.toArray⟩) wr:=by
 obtain⟨g',cap',e,_,_,_,_,hc⟩:=h.form
 injection e with e1 e2 e3
 injection e1 with e1
 have eg:g=g':=congrArg Addr.block e1
 have hn:l.length=n:=by have:=h.1;unfold byv at this;simpa using this
 subst eg
 have:=run_convert_bytes_back (P:=Tryz.prog) wr 99 9 5 ⟨g,0,none⟩ cap l Tryz.underlying99 Tryz.underlying5 Tryz.underlying9 (λj hj=>by
  rw[Addr.add_mid,Nat.zero_add]
  exact hc j _ (by unfold byv;simp[hj]))
 rw[hn] at this
 exact this
theorem SR.form {w0 wr:World}{v:Value}{n:Nat}{l:List UInt8}(h:SR w0 wr v n l):∃g cap,v=.slice (some ⟨g,0,none⟩) n cap:=by
 obtain⟨_,g,cap,_,_,rfl,_⟩:=h.sb
 exact⟨g,cap,rfl⟩
theorem rsum_any (s:ByteArray)(w:World)(hs:s.size<=1073741824) :
  Calls Tryz.prog 65 #[.string s] w λe w'=>e=.returned (.agg (arr 32 (b8 (sumD s.data.toList))))/\Below w.heap.size w w':=by
 obtain⟨i0,hi,hy0,hy1,hy2⟩:=info_parts Tryz.info5
 have hR0:Hid (Row (w.alloc (.cells (arr 32 zb) 31)) w.heap.size 31 32 zb):=Row.ofList w 31 _ _ 32 rfl
 have hbel:Below w.heap.size w (w.alloc (.cells (arr 32 zb) 31)):=(Below.refl _ _).alloc (Nat.le_refl _) _
 have hcv:=run_bytes_of_string (P:=Tryz.prog) (w.alloc (.cells (arr 32 zb) 31)) 9 99 5 s Tryz.underlying9 Tryz.underlying99 Tryz.underlying5
 have hg1:=grownCap_ge (w.alloc (.cells (arr 32 zb) 31)) s.size 0 5
 have hg2:=grownCap_le_maxLen (w.alloc (.cells (arr 32 zb) 31)) s.size 0 5 (by unfold maxLen;omega)
 generalize hcap:grownCap (w.alloc (.cells (arr 32 zb) 31)) s.size 0 5=cap at hcv hg1 hg2
 clear hcap
 have HSB:Hid (SB (((w.alloc (.cells (arr 32 zb) 31)).alloc (.cells (bytesRow s cap) 5 ((bytesRow s cap).size,(bytesRow s cap).size+1))).alloc (.cells #[.int .u8 128] 5)).drew w.heap.size 5 (.slice (some ⟨w.heap.size+1,0,none⟩) s.size cap) s.size (byv s.data.toList)):=
  SB.alloc (sb_bytes ((w.alloc (.cells (arr 32 zb) 31)).alloc (.cells (bytesRow s cap) 5 ((bytesRow s cap).size,(bytesRow s cap).size+1))) (w.heap.size+1) w.heap.size cap s (by omega) hg1 hg2 (by have:=heap_alloc_new (w.alloc (.cells (arr 32 zb) 31)) (.cells (bytesRow s cap) 5 ((bytesRow s cap).size,(bytesRow s cap).size+1));simpa using this)) _
 go_enter Tryz.func65,Tryz.ntmps65
 go_wp2_with (at_builtin;refine wpList_push rfl _ _ 99 rfl i0 (.int .u8 0) (.int .u8 128) 1 Tryz.underlying99 hi hy0 hy1 hy2 rfl rfl (by exact HSB.out) ⟨w.heap.size+1+1,0,none⟩ 1 rfl ?hu rfl ?hb ?h63 ?hby ?_)
 case hu=>simp[go_sem]
 case hb=>simp;omega
 case h63=>unfold maxLen;omega
 case hby=>omega
 intro v1 w1 hs1 hc1
 have hst0:Hid (SR w w1 v1 (s.size+1) (s.data.toList++[128])):=by
  refine⟨?_,?_,?_⟩
  ·rw[<-byv_snoc];exact hs1
  ·refine Row.ch (w:=(((w.alloc (.cells (arr 32 zb) 31)).alloc (.cells (bytesRow s cap) 5 ((bytesRow s cap).size,(bytesRow s cap).size+1))).alloc (.cells #[.int .u8 128] 5)).drew) ((hR0.out.alloc _).alloc _) hc1 ?_
   simp[Value.ownBlock]
  ·refine Below.thenCh (((hbel.alloc hbel.size _).alloc (by simp;omega) _).drew) hc1 (by simp;omega) λi hi=>?_
   have:w.heap.size+1=i:=by simpa[Value.ownBlock] using hi
   omega
 clear hs1 hc1 HSB hcv
 obtain⟨g,cap1,hv1⟩:=hst0.out.form
 rw[hv1]
 rw[hv1] at hst0
 clear hv1 v1
 obtain⟨z,hz⟩:∃z:Nat,z=(119-s.size%64)%64:=⟨_,rfl⟩
 have HZZ:=Hh hz
 clear hz
 go_wp2_with fail
 go_loopw [3] (λx wr=>∃(j g cap:Nat) (l:List UInt8),j<=z/\x=.slice (some ⟨g,0,none⟩) (s.size+1+j) cap/\Hid (l=s.data.toList++[128]++List.replicate j 0)/\Hid (SR w wr (.slice (some ⟨g,0,none⟩) (s.size+1+j) cap) (s.size+1+j) l)) (λx _=>s.size+1+z-sliceLen x)
 case atStart=>exact⟨0,g,cap1,s.data.toList++[128],by omega,rfl,(by simp:s.data.toList++[128]=s.data.toList++[128]++List.replicate 0 0),hst0⟩
 case round=>
  obtain⟨j,g,cap2,l,hj,rfl,hl,hst⟩:=hrel
  clear hst0
  have hz63:z<=63:=by have:=HZZ.out;omega
  by_cases hjz:j=z
  ·have e56:(((s.size:Int)+1+j)%64!=56)=false:=by
    have:=HZZ.out
    simp;omega
   have HJ:=Hh hjz
   clear hjz
   go_wp2_with fail
   obtain⟨wp,rfl⟩:∃wp:World,wp=wr:=⟨_,rfl⟩
   go_loopw [3,5] (λx y wr=>∃(q g cap:Nat) (m:List UInt8),q<=8/\x=.slice (some ⟨g,0,none⟩) (s.size+1+j+q) cap/\y=.int .i64 (7-(q:Int))/\Hid (m=l++lenb (s.size*8) q)/\Hid (SR w wr (.slice (some ⟨g,0,none⟩) (s.size+1+j+q) cap) (s.size+1+j+q) m)) (λ_ y _=>(intOf y+1).toNat)
   case atStart=>exact⟨0,g,cap2,l,by omega,rfl,rfl,(by simp[lenb]:l=l++lenb (s.size*8) 0),hst⟩
   case round=>
    clear hst
    obtain⟨q,g,cap3,m,hq,rfl,rfl,hm,hst⟩:=hrel
    by_cases hq8:q<8
    ·have y0:(0:Int)<=7-(q:Int):=by omega
     have y1:7-(q:Int)<=7:=by omega
     have hbs:=hst.out.bel.size
     have d7:decide ((q:Int)<=7)=true:=by simp;omega
     have HA:=Hh (SB.alloc hst.out.sb (.cells #[.int .u8 ((s.size:Int)*8/2^(8*(7-q))%256)] 5))
     go_wp2_with (at_builtin;refine wpList_push rfl _ _ 99 rfl i0 (.int .u8 0) (.int .u8 ((s.size:Int)*8/2^(8*(7-q))%256)) 1 Tryz.underlying99 hi hy0 hy1 hy2 rfl rfl (by exact HA.out) ⟨wr.heap.size,0,none⟩ 1 rfl ?hu rfl ?hb ?h63 ?hby ?_)
     case hu=>simp[go_sem]
     case hb=>simp;omega
     case h63=>unfold maxLen;omega
     case hby=>omega
     intro v2 w2 hs2 hc2
     have hs3:SB w2 w.heap.size 5 v2 (s.size+1+j+q+1) (byv m++[.int .u8 (((UInt8.ofNat (s.size*8/2^(56-8*q))).toNat:Nat):Int)]):=by
      have:=hs2
      rw[show 8*(7-q)=56-8*q by omega,lenb_val] at this
      exact this
     have hst2:=Hh (hst.out.next (.cells #[.int .u8 ((s.size:Int)*8/2^(8*(7-q))%256)] 5) (UInt8.ofNat (s.size*8/2^(56-8*q))) hs3 hc2)
     clear hs2 hs3 hc2 HA
     obtain⟨g2,cap4,hv2⟩:=hst2.out.form
     rw[hv2]
     rw[hv2] at hst2
     clear hv2 v2
     go_wp2_with fail
     go_roundw
     case rel=>exact⟨q+1,g2,cap4,m++[UInt8.ofNat (s.size*8/2^(56-8*q))],by omega,rfl,by go_num,(by rw[hm.out,List.append_assoc,lenb_succ]:m++[UInt8.ofNat (s.size*8/2^(56-8*q))]=l++lenb (s.size*8) (q+1)),hst2⟩
     case measure=>simp[intOf];omega
    ·have hq8':8<=q:=by omega
     have d7:decide ((q:Int)<=7)=false:=by simp;omega
     have hcb:=SB.toStr hst.out.sb
     have hml:Hid (m.length=s.size+1+j+q):=by have:=hst.out.sb.1;unfold byv at this;simpa[Hid] using this
     have hmm:Hid (m=s.data.toList++padb s.data.toList.length):=by
      show m=s.data.toList++padb s.data.toList.length
      rw[hm.out,hl.out,padb,HJ.out,HZZ.out,show q=8 by omega,size_eq]
      simp
     obtain⟨N,hN⟩:∃N:Nat,m.length=64*N:=by
      have h1:=hml.out
      have h2:=HZZ.out
      have h3:=HJ.out
      exact⟨(s.size+1+j+q)/64,by omega⟩
     have hNb:N<=1073741824:=by have:=hml.out;have:=HJ.out;omega
     obtain⟨M,hM⟩:∃M:ByteArray,M=⟨m.toArray⟩:=⟨_,rfl⟩
     have HMd:Hid (M.data.toList=m):=by rw[hM];rfl
     have hMs1:M.size<=64*N:=by rw[size_eq,HMd.out];omega
     have hMs2:64*N<=M.size:=by rw[size_eq,HMd.out];omega
     rw[<-hM] at hcb
     have HN:=Hh hN
     clear hN hM
     go_wp2_with fail
     have hrH:Hid (Row (wr.alloc (.cells (arr 8 (uc iv)) 111)) wr.heap.size 111 8 (uc iv)):=Row.ofList wr 111 _ _ 8 rfl
     have hr0:=Hh (hst.out.r0.alloc (.cells (arr 8 (uc iv)) 111))
     have hbl:=hst.out.bel.alloc hst.out.bel.size (.cells (arr 8 (uc iv)) 111)
     have hHb:w.heap.size<wr.heap.size:=hst.out.r0.lt
     clear hst hcb
     generalize wr.alloc (.cells (arr 8 (uc iv)) 111)=W0 at hrH hr0 hbl ⊢
     generalize wr.heap.size=Hb at hrH hHb ⊢
     have hneH:w.heap.size≠Hb:=by omega
     have hleH:w.heap.size<=Hb:=by omega
     go_loopw [8] (λx wr=>∃(r:Nat),r<=N/\x=.int .i64 (64*(r:Int))/\Hid (Row wr Hb 111 8 (uc (bls m iv r)))/\Hid (Row wr w.heap.size 31 32 zb)/\Below w.heap.size w wr) (λx _=>64*N-(intOf x).toNat)
     case atStart=>exact⟨0,by omega,rfl,hrH,hr0,hbl⟩
     case round=>
      clear hrH hr0 hbl
      obtain⟨r,hr,rfl,hrH,hr0,hbl⟩:=hrel
      by_cases hrN:r<N
      ·have y0:64*(r:Int)<M.size:=by omega
       have y1:64*(r:Int)+64<=M.size:=by omega
       have hld:ldN 8 wr (.pointer (some ⟨Hb,0,none⟩))=some (arr 8 (uc (bls m iv r))):=ldN_of (Row.range0 hrH.out) (by simp[arr])
       have y2:(0:Int)<=64*(r:Int):=by omega
       have y3:64*(r:Int)<=64*(r:Int)+64:=by omega
       have w64:IntKind.i64.wrap (64*(r:Int)+64)=64*(r:Int)+64:=IntWalk.i64_in _ (by omega)
       go_wp2_with fail
       go_still_tail 6,(by kernel_rfl)
       change wpList _ _ _ _ _ wr.drew
       go_wp2_with fail
       have hex:Hid ((M.extract (64*r) (64*r+64)).data.toList=(m.drop (64*r)).take 64):=by
        show(M.extract (64*r) (64*r+64)).data.toList=(m.drop (64*r)).take 64
        rw[Lib.extract_data,HMd.out]
        congr 1
        omega
       have hez:(M.extract (64*r) (64*r+64)).size=64:=by
        rw[size_eq,hex.out,List.length_take,List.length_drop,HN.out];omega
       refine(block_any _ _ _ hez (λi=>bls_u _ _ _)).mono ?_
       rintro e w2 ⟨rfl,hb2⟩
       rw[hex.out]
       have hr2:=Hh (hrH.out.drew.below hb2 hrH.out.lt)
       have hr02:=Hh (hr0.out.drew.below hb2 hr0.out.lt)
       have hbl2:Below w.heap.size w w2:=hbl.drew.trans (hb2.mono (by have:=hrH.out.lt;show w.heap.size<=wr.heap.size;omega))
       have hst2:stN 8 w2 (.pointer (some ⟨Hb,0,none⟩)) (.agg (arr 8 (uc (blk (bls m iv r) ((m.drop (64*r)).take 64)))))=some (Hb,0,arr 8 (uc (blk (bls m iv r) ((m.drop (64*r)).take 64)))):=stN_of (by simp[arr]) hr2.out.there (all_one _ _ (λ_=>rfl))
       clear hb2 hez hld
       go_wp2_with fail
       go_roundw
       case rel=>exact⟨r+1,by omega,by go_num,Row.setWhole hr2.out,Row.farAll hneH _ _ _ hr02.out,Below.setAll hleH _ _ _ hbl2⟩
       case measure=>simp[intOf];omega
      ·have y0:¬64*(r:Int)<M.size:=by omega
       have hfin:Hid (bls m iv r=sumH s.data.toList):=by
        show bls m iv r=sumH s.data.toList
        have e:r=N:=by omega
        unfold sumH
        rw[<-hmm.out,e,HN.out]
        congr 1;omega
       have HFu:Hid (∀i,U (bls m iv r i)):=λi=>bls_u _ _ _
       generalize bls m iv r=HF at hfin HFu hrH
       go_wp2_with fail
       have hA:=Hh (hrH.out.alloc (.cells (arr 32 zb) 31))
       have hB:=Hh (hr0.out.alloc (.cells (arr 32 zb) 31))
       have hD:Hid (Row (wr.alloc (.cells (arr 32 zb) 31)) wr.heap.size 31 32 (dgq HF 0)):=Row.ofList wr 31 _ _ 32 rfl
       have hC:=hbl.alloc hbl.size (.cells (arr 32 zb) 31)
       have hlt:=hrH.out.lt
       have hlt0:w.heap.size<wr.heap.size:=hr0.out.lt
       clear hrH hr0 hbl
       generalize wr.alloc (.cells (arr 32 zb) 31)=W0 at hA hB hC hD ⊢
       generalize wr.heap.size=Db at hD hlt hlt0 ⊢
       have n1:Hb≠Db:=by omega
       have n2:w.heap.size≠Db:=by omega
       have n3:w.heap.size<=Db:=by omega
       go_loopw [10] (λx wr=>∃(i:Nat),i<=32/\x=.int .i64 i/\Hid (Row wr Db 31 32 (dgq HF i))/\Hid (Row wr Hb 111 8 (uc HF))/\Hid (Row wr w.heap.size 31 32 zb)/\Below w.heap.size w wr) (λx _=>32-(intOf x).toNat)
       case atStart=>exact⟨0,by omega,rfl,hD,hA,hB,hC⟩
       case round=>
        clear hA hB hC hD
        obtain⟨i,hi,rfl,hD,hA,hB,hC⟩:=hrel
        by_cases h32:i<32
        ·have z0:(i:Int)<32:=by omega
         have z1:=Row.cell hA.out (i:=i/4) (by omega)
         have z2:=Row.cell hD.out h32
         have z3:=Row.frozen hD.out i
         rw[dgq_hi _ _ _ (Nat.le_refl _)] at z2
         unfold uc at z1
         unfold zb at z2
         obtain⟨u0,u1⟩:=HFu.out (i/4)
         go_wp2_with fail
         refine⟨⟨i+1,by omega,by go_num,?_,hA.out.far n1 _,hB.out.far n2 _,hC.setCell n3 _⟩,by simp[intOf];omega⟩
         have:=Row.set hD.out (i:=i) h32 (.int .u8 (dgb HF i))
         rw[dgq_step] at this
         exact this
        ·have z0:¬(i:Int)<32:=by omega
         have hld:ldN 32 wr (.pointer (some ⟨Db,0,none⟩))=some (arr 32 (dgq HF i)):=ldN_of (Row.range0 hD.out) (by simp[arr])
         have hAe:Hid (arr 32 (dgq HF i)=arr 32 (b8 (sumD s.data.toList))):=by
          show arr 32 (dgq HF i)=arr 32 (b8 (sumD s.data.toList))
          unfold arr
          congr 1
          apply List.map_congr_left
          intro q hq
          rw[dgq_lo _ _ _ (by have:=List.mem_range.1 hq;omega),hfin.out];rfl
         rw[hAe.out] at hld
         have hst:stN 32 wr (.pointer (some ⟨w.heap.size,0,none⟩)) (.agg (arr 32 (b8 (sumD s.data.toList))))=some (w.heap.size,0,arr 32 (b8 (sumD s.data.toList))):=stN_of (by simp[arr]) hB.out.there (all_one _ _ (λ_=>rfl))
         have hrow:=Hh (Row.setWhole (u:=b8 (sumD s.data.toList)) hB.out)
         go_wp2_with fail
         exact bodyPost_ret (v:=.agg (arr 32 (b8 (sumD s.data.toList)))) (results_cell_row rfl _ _ w.heap.size 31 (arr 32 (b8 (sumD s.data.toList))) (0,0) _ rfl hrow.out.arr Tryz.underlying31 rfl (by kernel_rfl)) rfl ⟨rfl,Below.setAll (Nat.le_refl _) _ _ _ hC⟩
  ·have e56:(((s.size:Int)+1+j)%64!=56)=true:=by
    have:=HZZ.out
    simp;omega
   have HA:=Hh (SB.alloc hst.out.sb (.cells #[.int .u8 0] 5))
   have hbs:=hst.out.bel.size
   go_wp2_with (at_builtin;refine wpList_push rfl _ _ 99 rfl i0 (.int .u8 0) (.int .u8 0) 1 Tryz.underlying99 hi hy0 hy1 hy2 rfl rfl (by exact HA.out) ⟨wr.heap.size,0,none⟩ 1 rfl ?hu rfl ?hb ?h63 ?hby ?_)
   case hu=>simp[go_sem]
   case hb=>simp;omega
   case h63=>unfold maxLen;omega
   case hby=>omega
   intro v2 w2 hs2 hc2
   have hst2:=Hh (hst.out.next (.cells #[.int .u8 0] 5) 0 hs2 hc2)
   clear hs2 hc2 HA
   obtain⟨g2,cap3,hv2⟩:=hst2.out.form
   rw[hv2]
   rw[hv2] at hst2
   clear hv2 v2
   go_wp2_with fail
   go_roundw
   case rel=>exact⟨j+1,g2,cap3,l++[0],by omega,rfl,(by rw[hl.out,List.append_assoc,<-List.replicate_succ']:l++[0]=s.data.toList++[128]++List.replicate (j+1) 0),hst2⟩
   case measure=>simp[sliceLen];omega
end Ms
namespace Ms
attribute [local go_sem ↓] alloc26 alloc63 alloc77 load63n store63n store77n load26n store26n
attribute [local go_sem] stN_uc stN_b8 set_new ldN_drew
def kk (l:List UInt8):List UInt8:=if 64<l.length then dl (sumD l) else l
def xr (l:List UInt8)(x:UInt8)(n i:Nat):Value:=if i<n then .int .u8 (((l.getD i 0 ^^^ x).toNat:Nat):Int) else .int .u8 (((l.getD i 0).toNat:Nat):Int)
theorem xr_hi (l:List UInt8)(x:UInt8)(n i:Nat)(h:n<=i):xr l x n i=.int .u8 (((l.getD i 0).toNat:Nat):Int):=if_neg (by omega)
theorem copied {w:World}{B t:Nat}{l:List UInt8}(x:UInt8)(h:Row w B t 64 zb)(hl:l.length<=64):Row (w.setCells B 0 (byv l)) B t 64 (xr l x 0):=by
 refine Row.congr (Row.setAll (byv l) 0 w _ h (by unfold byv;simp;omega)) λi hi=>?_
 rw[xr_hi _ _ _ _ (Nat.zero_le _)]
 have hb:(byv l).length=l.length:=by simp[byv]
 rw[hb]
 by_cases e:i<l.length
 ·rw[if_pos (by omega)]
  simp[byv,e]
 ·rw[if_neg (by omega)]
  simp[zb,show l.length<=i by omega]
end Ms
namespace Ms
attribute [local go_sem ↓] alloc26 alloc63 alloc77 load63n store63n store77n load26n store26n
attribute [local go_sem] stN_uc stN_b8 set_new ldN_drew
end Ms
namespace Ms
def lgv (G:Nat->Nat->Int)(v:Value)(i:Nat):Value:=if i<256 then .int .u8 (G (i/32) (i%32)) else v
theorem lgv_reg (G:Nat->Nat->Int)(v:Value)(r j:Nat)(hr:r<8)(hj:j<32):lgv G v (r*32+j)=.int .u8 (G r j):=by
 unfold lgv;rw[if_pos (by omega),show(r*32+j)/32=r by omega,show(r*32+j)%32=j by omega]
theorem lgv_ev (G:Nat->Nat->Int)(v:Value):lgv G v 256=v:=if_neg (by omega)
def LG (w:World)(B:Nat)(G:Nat->Nat->Int)(v:Value):Prop:=Row w B 131 257 (lgv G v)
theorem new_any (w:World):Calls Tryz.prog 39 #[] w λe w'=>e=.returned (.pointer (some ⟨w.heap.size,0,none⟩))/\LG w' w.heap.size (λ_ _=>0) (.slice none 0 0)/\Below w.heap.size w w':=by
 go_enter Tryz.func39,Tryz.ntmps39
 go_wp2_with fail
 go_ret
 exact⟨rfl,Row.ofList w 131 _ _ 257 (by kernel_rfl),(Below.refl _ _).alloc (Nat.le_refl _) _⟩
theorem isreg_yes (r:Nat)(w:World)(hr:r<8):Calls Tryz.prog 113 #[.int .i64 (r:Int)] w λe w'=>e=.returned (.bool true)/\w=w':=by
 have d1:decide ((0:Int)<=(r:Int))=true:=by simp
 have d2:decide ((r:Int)<8)=true:=by simp;omega
 go_enter Tryz.func113,Tryz.ntmps113
 go_wp2
 go_ret
 exact⟨rfl,rfl⟩
theorem LG.range {w:World}{B r:Nat}{G:Nat->Nat->Int}{v:Value}(h:LG w B G v)(hr:r<8):w.rangeAt B (r*32) (arr 32 (b8 (G r))).toList:=λj u hu=>by
 have hj:j<32:=by have:=(List.getElem?_eq_some_iff.1 hu).1;simpa[arr] using this
 have:u=b8 (G r) j:=by simpa[arr,hj] using hu.symm
 rw[this,Row.cell h (by omega),lgv_reg _ _ _ _ hr hj];rfl
theorem zz32:(#[Value.int .u8 0,.int .u8 0,.int .u8 0,.int .u8 0,.int .u8 0,.int .u8 0,.int .u8 0,.int .u8 0,.int .u8 0,.int .u8 0,.int .u8 0,.int .u8 0,.int .u8 0,.int .u8 0,.int .u8 0,.int .u8 0,.int .u8 0,.int .u8 0,.int .u8 0,.int .u8 0,.int .u8 0,.int .u8 0,.int .u8 0,.int .u8 0,.int .u8 0,.int .u8 0,.int .u8 0,.int .u8 0,.int .u8 0,.int .u8 0,.int .u8 0,.int .u8 0]:Array Value)=arr 32 zb:=by kernel_rfl
end Ms
namespace Ms
attribute [local go_sem ↓] Go.wp_at_zero Go.wp_at_succ
structure Ev where
 r:Int
 d:Nat->Int
 t:ByteArray
def evc (e:Ev):List Value:=.int .i64 e.r::((arr 32 (b8 e.d)).toList++[.string e.t])
theorem evc_len (e:Ev):(evc e).length=34:=by simp[evc,arr]
def evs (es:List Ev):List Value:=es.flatMap evc
theorem evs_len (es:List Ev):(evs es).length=es.length*34:=by
 induction es with
 | nil=>rfl
 | cons e r ih=>simp only[evs,List.flatMap_cons,List.length_append,evc_len,List.length_cons] at ih ⊢;omega
theorem evs_snoc (es:List Ev)(e:Ev):evs (es++[e])=evs es++evc e:=by simp[evs]
def reg1 (G:Nat->Nat->Int)(e:Ev):Nat->Nat->Int:=λr=>if (r:Int)=e.r then sumD (dl (G r)++dl e.d) else G r
def regs (es:List Ev):Nat->Nat->Int:=es.foldl reg1 λ_ _=>0
theorem regs_snoc (es:List Ev)(e:Ev):regs (es++[e])=reg1 (regs es) e:=by simp[regs]
theorem reg1_byt {G:Nat->Nat->Int}(h:∀r,Byt (G r))(e:Ev)(r:Nat):Byt (reg1 G e r):=by
 unfold reg1;split
 ·exact sumD_byt _
 ·exact h r
theorem foldl_byt (es:List Ev):∀G:Nat->Nat->Int,(∀r,Byt (G r))->∀r,Byt (es.foldl reg1 G r):=by
 induction es with
 | nil=>exact λ G h=>h
 | cons e t ih=>exact λ G h=>ih _ (reg1_byt h e)
theorem regs_byt (es:List Ev)(r:Nat):Byt (regs es r):=foldl_byt es _ (λ_ _=>⟨Int.le_refl _,by decide⟩) r
def LOG (w:World)(base B:Nat)(es:List Ev):Prop:=base<=B/\∃v,LG w B (regs es) v/\w.ownsRow base 62 34 v es.length (evs es)
theorem own_ne {w:World}{base e n B t N size:Nat}{v:Value}{xs:List Value}{f:Nat->Value}(h:w.ownsRow base e size v n xs)(hr:Row w B t N f)(hne:e≠t):v.ownBlock≠some B:=by
 intro he
 rcases h.2 with ⟨rfl,_⟩|⟨g,cap,cur,rfl,_,hh,_⟩
 ·cases he
 ·have:g=B:=by simpa[Value.ownBlock] using he
  subst this
  obtain⟨cs,hc,_⟩:=hr
  rw[hh] at hc
  injection hc with hc
  injection hc with _ h2
  exact hne h2
theorem own_len {w:World}{base e n size:Nat}{v:Value}{xs:List Value}(h:w.ownsRow base e size v n xs):∃a c,v=.slice a n c:=by
 rcases h.2 with ⟨rfl,rfl⟩|⟨g,cap,cur,rfl,_⟩
 ·exact⟨_,_,rfl⟩
 ·exact⟨_,_,rfl⟩
def bldV (x y z:Value):Option (List Value):=match x,y,z with
 | .int k r,.agg cs,.string t=>if cs.size=32 then some (.int k r::(cs.toList++[.string t])) else none
 | _,_,_=>none
theorem arr_of {cs:Array Value}{n:Nat}(h:cs.size=n):cs=arr n (λi=>cs.getD i undef):=by
 apply Array.ext
 ·simp[arr,h]
 ·intro i h1 h2;simp[arr,h1]
theorem build45a (k:IntKind)(r:Int)(f:Nat->Value)(t:ByteArray)(w:World):Sem.run Tryz.prog (Instr.build 62 #[(0,.int k r),(1,.agg (arr 32 f)),(2,.string t)]) w=.ok (.agg (.int k r::((arr 32 f).toList++[.string t])).toArray) w:=by kernel_rfl
theorem slice46a (f:Nat->Value)(w:World):Sem.run Tryz.prog (Instr.buildSlice 59 1 #[(0,.agg (arr 34 f))]) w=.ok (.slice (some ⟨w.heap.size,0,none⟩) 1 1) (w.alloc (.cells (arr 34 f) 62)):=by kernel_rfl
theorem build45 (ρ:Operand->Value)(d:Option Tmp)(x y z:Operand)(ty:TypeId)(p:String)(af:Array Edge)(g:Option (Nat×Bool))(w:World) :
  Sem.run Tryz.prog (execOp ρ { dst:=d,op:=.build 62 #[(0,x),(1,y),(2,z)],type:=ty,pos:=p,after:=af,guard:=g }) w =
   match bldV (ρ x) (ρ y) (ρ z) with
   | some cs=>.ok (.value (.agg cs.toArray)) w
   | none=>Sem.run Tryz.prog (Instr.build 62 #[(0,ρ x),(1,ρ y),(2,ρ z)] >>= λv=>pure (Next.value v)) w:=by
 have e:execOp ρ { dst:=d,op:=.build 62 #[(0,x),(1,y),(2,z)],type:=ty,pos:=p,after:=af,guard:=g }=Instr.build 62 #[(0,ρ x),(1,ρ y),(2,ρ z)] >>= λv=>pure (Next.value v):=by simp[execOp]
 rw[e]
 clear e
 generalize ρ x=X,ρ y=Y,ρ z=Z
 unfold bldV
 split
 ·next h=>
  split at h
  ·split at h
   ·next k r cs t hs=>
    injection h with h
    subst h
    rw[arr_of hs,Sem.run_bind,build45a]
    rfl
   ·cases h
  ·cases h
 ·rfl
def slcV (x:Value):Option (Array Value):=match x with
 | .agg cs=>if cs.size=34 then some cs else none
 | _=>none
theorem slice46 (ρ:Operand->Value)(d:Option Tmp)(x:Operand)(ty:TypeId)(p:String)(af:Array Edge)(g:Option (Nat×Bool))(w:World) :
  Sem.run Tryz.prog (execOp ρ { dst:=d,op:=.buildSlice 59 1 #[(0,x)],type:=ty,pos:=p,after:=af,guard:=g }) w =
   match slcV (ρ x) with
   | some cs=>.ok (.value (.slice (some ⟨w.heap.size,0,none⟩) 1 1)) (w.alloc (.cells cs 62))
   | none=>Sem.run Tryz.prog (Instr.buildSlice 59 1 #[(0,ρ x)] >>= λv=>pure (Next.value v)) w:=by
 have e:execOp ρ { dst:=d,op:=.buildSlice 59 1 #[(0,x)],type:=ty,pos:=p,after:=af,guard:=g }=Instr.buildSlice 59 1 #[(0,ρ x)] >>= λv=>pure (Next.value v):=by simp[execOp]
 rw[e]
 clear e
 generalize ρ x=X
 unfold slcV
 split
 ·next h=>
  split at h
  ·split at h
   ·next cs hs=>
    injection h with h
    subst h
    rw[arr_of hs,Sem.run_bind,slice46a]
    rfl
   ·cases h
  ·cases h
 ·rfl
theorem Tryz.info62:(Tryz.prog.info? 62).map (λi=>(i.zero,i.size,i.bytes))=some (some (.agg (.int .i64 0::((arr 32 zb).toList++[.string ⟨#[]⟩])).toArray),34,56):=by kernel_rfl
open Classical in
noncomputable def ldV (w:World)(v:Value):Option (Array Value):=match v with
 | .pointer (some ⟨b,o,none⟩)=>if ∃cs:Array Value,cs.size=32/\w.rangeAt b o cs.toList then some (arr 32 λj=>(w.cell? ⟨b,o+j,none⟩).getD undef) else none
 | _=>none
theorem ldV_of {w:World}{b o:Nat}{cs:Array Value}(h:w.rangeAt b o cs.toList)(hs:cs.size=32):ldV w (.pointer (some ⟨b,o,none⟩))=some cs:=by
 have h1:∃cs:Array Value,cs.size=32/\w.rangeAt b o cs.toList:=⟨cs,hs,h⟩
 simp only[ldV]
 rw[if_pos h1]
 congr 1
 apply Array.ext
 ·simp[arr,hs]
 ·intro i h1 h2
  have:=h i cs[i] (by simp[h2])
  simp[arr,this]
theorem load26 (ρ:Operand->Value)(d:Option Tmp)(x:Operand)(ty:TypeId)(p:String)(af:Array Edge)(g:Option (Nat×Bool))(w:World) :
  Sem.run Tryz.prog (execOp ρ { dst:=d,op:=.load 31 x,type:=ty,pos:=p,after:=af,guard:=g }) w =
   match ldV w (ρ x) with
   | some cs=>.ok (.value (.agg cs)) w
   | none=>Sem.run Tryz.prog (Instr.loadAt 31 (ρ x) >>= λv=>pure (Next.value v)) w:=by
 show Sem.run Tryz.prog (Instr.loadAt 31 (ρ x) >>= λv=>pure (Next.value v)) w=_
 generalize ρ x=X
 split
 ·next cs h=>
  have h':=h
  unfold ldV at h'
  split at h'
  ·split at h'
   ·next b o hc=>
    obtain⟨cs2,hs,hr⟩:=hc
    rw[ldV_of hr hs] at h
    injection h with h
    subst h
    rw[Sem.run_bind,run_loadAt_mid w b o 31 cs2.toList _ hr Tryz.underlying31 rfl (by rw[Array.length_toList,hs];kernel_rfl)]
    simp[Result.andThen]
   ·cases h'
  ·cases h'
 ·rfl
open Classical in
noncomputable def stV (w:World)(x y:Value):Option (Nat×Nat×Array Value):=match x,y with
 | .pointer (some ⟨b,o,none⟩),.agg cs=>if cs.size=32/\w.there b o 32/\cs.all (·.oneCell')=true then some (b,o,cs) else none
 | _,_=>none
theorem stV_of {w:World}{b o:Nat}{cs:Array Value}(hs:cs.size=32)(ht:w.there b o 32)(h1:cs.all (·.oneCell')=true):stV w (.pointer (some ⟨b,o,none⟩)) (.agg cs)=some (b,o,cs):=if_pos ⟨hs,ht,h1⟩
theorem store26 (ρ:Operand->Value)(d:Option Tmp)(x y:Operand)(ty:TypeId)(p:String)(af:Array Edge)(g:Option (Nat×Bool))(w:World) :
  Sem.run Tryz.prog (execOp ρ { dst:=d,op:=.store 31 x y,type:=ty,pos:=p,after:=af,guard:=g }) w =
   match stV w (ρ x) (ρ y) with
   | some (b,o,cs)=>.ok .skip (w.setCells b o cs.toList)
   | none=>Sem.run Tryz.prog (Instr.storeAt 31 (ρ x) (ρ y) >>= λ_=>pure Next.skip) w:=by
 show Sem.run Tryz.prog (Instr.storeAt 31 (ρ x) (ρ y) >>= λ_=>pure Next.skip) w=_
 generalize ρ x=X,ρ y=Y
 split
 ·next b o cs h=>
  unfold stV at h
  split at h
  ·split at h
   ·next b' o' cs' hc=>
    injection h with h
    injection h with h1 h2
    injection h2 with h2 h3
    subst h1 h2 h3
    rw[Sem.run_bind,run_storeAt_mid w _ _ 31 _ (by rw[hc.1];exact hc.2.1) (by rw[hc.1];kernel_rfl) hc.2.2]
    rfl
   ·cases h
  ·cases h
 ·rfl
attribute [local go_sem ↓] build45 slice46 load26 store26
attribute [local go_sem] bldV slcV
theorem LG.ev {w:World}{B:Nat}{G:Nat->Nat->Int}{v:Value}(h:LG w B G v)(u:Value):LG (w.setCell ⟨B,256,none⟩ u) B G u:=by
 refine Row.congr (Row.set h (i:=256) (by omega) u) λi hi=>?_
 by_cases e:i=256
 ·subst e;rw[upd_hit,lgv_ev]
 ·rw[upd_miss _ _ e];unfold lgv;rw[if_pos (by omega),if_pos (by omega)]
theorem LG.reg {w:World}{B:Nat}{G:Nat->Nat->Int}{v:Value}(h:LG w B G v)(r:Nat)(hr:r<8)(N:Nat->Int):LG (w.setCells B (r*32) (arr 32 (b8 N)).toList) B (λq=>if q=r then N else G q) v:=by
 have hl:(arr 32 (b8 N)).toList.length=32:=by simp[arr]
 refine Row.congr (Row.setAll _ (r*32) w _ h (by omega)) λi hi=>?_
 rw[hl]
 by_cases e:r*32<=i/\i<r*32+32
 ·rw[if_pos e]
  have e2:i-r*32<32:=by omega
  simp only[lgv,if_pos (show i<256 by omega),show i/32=r by omega,if_pos,show i%32=i-r*32 by omega]
  simp[arr,e2,b8]
 ·rw[if_neg e]
  unfold lgv
  by_cases h2:i<256
  ·rw[if_pos h2,if_pos h2];show _=Value.int .u8 ((if i/32=r then N else G (i/32)) (i%32));rw[if_neg (by omega)]
  ·rw[if_neg h2,if_neg h2]
theorem LG.there {w:World}{B:Nat}{G:Nat->Nat->Int}{v:Value}(h:LG w B G v)(r:Nat)(hr:r<8):w.there B (r*32) 32:=λj hj=>⟨by rw[Row.cell h (by omega)];rfl,Row.frozen h _⟩
theorem arr_one (N:Nat->Int):(arr 32 (b8 N)).all (·.oneCell')=true:=by kernel_rfl
theorem own_set {w:World}{base e n B t N size:Nat}{v:Value}{xs:List Value}{f:Nat->Value}(h:w.ownsRow base e size v n xs)(hr:Row w B t N f)(hne:e≠t)(w':World)(k:Ch (λb=>b=B) w w'):w'.ownsRow base e size v n xs:=by
 have h1:=own_ne h hr hne
 exact h.kept (row:=some B) ⟨k.os,k.tape,k.output,k.size,λj hj hjn=>k.block j hj (λe=>hjn (by rw[e]))⟩ (.inr h1)
theorem Ch.setAll {C:Nat->Prop}{a:World}{B:Nat}(hC:C B):∀(vs:List Value) (o:Nat) (w:World),Ch C a w->Ch C a (w.setCells B o vs)
 | [],_,_,h=>h
 | u::r,o,_,h=>Ch.setAll hC r (o+1) _ (h.setCell (p:=⟨B,o,none⟩) (λ_=>hC) u)
theorem own_below {w w':World}{base e n size B0:Nat}{v:Value}{xs:List Value}(h:w.ownsRow base e size v n xs)(hb:Below B0 w w')(hB:w.heap.size<=B0):w'.ownsRow base e size v n xs:=
 h.kept (row:=none) ⟨hb.os,hb.tape,hb.output,hb.size,λk hk _=>hb.block k (by omega)⟩ (by cases v.ownBlock<;>simp)
end Ms
namespace Ms
attribute [local go_sem ↓] alloc26 load26n store26n
attribute [local go_sem] stN_uc stN_b8 set_new ldN_drew
end Ms
namespace Ms
attribute [local go_sem ↓] alloc26 load26n store26n
attribute [local go_sem ↓] Go.wp_at_zero Go.wp_at_succ
attribute [local go_sem] stN_uc stN_b8 set_new ldN_drew
theorem arr_dl {D:Nat->Int}(h:Byt D):arr 32 (b8 D)=((dl D).map Extern.Stop.cell).toArray:=by
 unfold arr dl
 rw[List.map_map]
 congr 1
 apply List.map_congr_left
 intro i _
 have:=h i
 have e:((((D i).toNat%2^8:Nat)):Int)=D i:=by omega
 simp only[Function.comp_def,Extern.Stop.cell,b8,UInt8.toNat_ofNat']
 exact congrArg (Value.int .u8) e.symm
theorem eqD {D E:Nat->Int}(hD:Byt D)(hE:Byt E)(w:World):(binOp .eql 31 (.agg (arr 32 (b8 D))) (.agg (arr 32 (b8 E)))).run Tryz.prog w=.ok (.bool (dl D==dl E)) w:=by
 rw[arr_dl hD,arr_dl hE]
 exact run_eql_bytes w 31 5 32 Tryz.underlying31 Tryz.underlying5 (λ_=>by kernel_rfl) (dl D) (dl E) (dl_len D) (dl_len E)
theorem neD {D E:Nat->Int}(hD:Byt D)(hE:Byt E)(w:World):(binOp .neq 31 (.agg (arr 32 (b8 D))) (.agg (arr 32 (b8 E)))).run Tryz.prog w=.ok (.bool (!(dl D==dl E))) w:=by
 have h:Sem.run Tryz.prog (Op.equal 31 (.agg (arr 32 (b8 D))) (.agg (arr 32 (b8 E)))) w=.ok (dl D==dl E) w:=by
  rw[arr_dl hD,arr_dl hE]
  exact run_equalIn_bytes w 9998 31 5 32 Tryz.underlying31 Tryz.underlying5 (λ_=>by kernel_rfl) (dl D) (dl E) (dl_len D) (dl_len E)
 simp[binOp,h]
end Ms
namespace Ms
attribute [local go_sem ↓] alloc26 load26n store26n
attribute [local go_sem] stN_uc stN_b8 set_new ldN_drew
theorem rangeAt_below {w w':World}{b o B0:Nat}{cs:List Value}(h:w.rangeAt b o cs)(hb:Below B0 w w')(hB:b<B0):w'.rangeAt b o cs:=λj u hu=>(hb.cell (p:=⟨b,o+j,none⟩) hB).trans (h j u hu)
def RdE (w:World)(v:Value)(es:List Ev):Prop:=∃a c,v=.slice a es.length c/\(es≠[]->∃b o,a=some ⟨b,o,none⟩/\b<w.heap.size/\∀i e,es[i]? = some e->w.rangeAt b (o+i*34) (evc e))
theorem RdE.below {w w':World}{v:Value}{es:List Ev}{B0:Nat}(h:RdE w v es)(hb:Below B0 w w')(hB:w.heap.size<=B0):RdE w' v es:=by
 obtain⟨a,c,rfl,h⟩:=h
 refine⟨a,c,rfl,λhne=>?_⟩
 obtain⟨b,o,rfl,hl,hr⟩:=h hne
 exact⟨b,o,rfl,by have:=hb.size;omega,λi e he=>rangeAt_below (hr i e he) hb (by omega)⟩
def OE (w:World)(base:Nat)(v:Value)(es:List Ev):Prop:=w.ownsRow base 62 34 v es.length (evs es)
theorem evs_at (es:List Ev):∀(i:Nat) (e:Ev),es[i]? = some e->∀j u,(evc e)[j]? = some u->(evs es)[i*34+j]? = some u:=by
 induction es with
 | nil=>intro i e h;simp at h
 | cons x r ih=>
  intro i e h j u hu
  have hj:j<34:=by have:=(List.getElem?_eq_some_iff.1 hu).1;rw[evc_len] at this;exact this
  show(evc x++evs r)[i*34+j]? = some u
  cases i with
  | zero=>
   have:x=e:=by simpa using h
   subst this
   rw[List.getElem?_append_left (by rw[evc_len];omega)]
   simpa using hu
  | succ i=>
   rw[List.getElem?_append_right (by rw[evc_len];omega),evc_len,show(i+1)*34+j-34=i*34+j by omega]
   exact ih i e (by simpa using h) j u hu
theorem OE.rd {w:World}{base:Nat}{v:Value}{es:List Ev}(h:OE w base v es):RdE w v es:=by
 obtain⟨hl,⟨rfl,h0⟩|⟨g,cap,cur,rfl,hb,hh,h1,h2,h3,h4⟩⟩:=h
 ·have:es=[]:=List.eq_nil_of_length_eq_zero h0
  subst this
  exact⟨none,0,rfl,λh=>absurd rfl h⟩
 ·refine⟨_,_,rfl,λ_=>⟨g,0,rfl,heap_lt hh,λi e he j u hu=>?_⟩⟩
  have:=evs_at es i e he j u hu
  have hlt:=(List.getElem?_eq_some_iff.1 this).1
  rw[<-h4,List.getElem?_take] at this
  split at this
  ·rw[cell_of_row w g _ cur 62 (0,0) hh,<-Array.getElem?_toList,show 0+i*34+j=i*34+j by omega]
   exact this
  ·cases this
theorem LOG.cells {w:World}{base B:Nat}{es:List Ev}(h:LOG w base B es):∃v,w.cell? ⟨B,256,none⟩=some v/\OE w base v es/\B<w.heap.size:=by
 obtain⟨_,v,hL,hO⟩:=h
 exact⟨v,by rw[Row.cell hL (i:=256) (by omega),lgv_ev],hO,hL.lt⟩
theorem app0 (W:World)(h c:Nat)(a:Option Addr):(Builtin.append_ #[59,59] 59 #[.slice (some ⟨h,0,none⟩) 0 0,.slice a 0 c]).run Tryz.prog W=.ok (.slice (some ⟨h,0,none⟩) 0 0) W:=by
 obtain⟨i0,hi0,hz0,hz1,hz2⟩:=info_parts Tryz.info62
 cases a<;>simp[Builtin.append_,run_underlying Tryz.underlying59,sizeOf,typeInfo,hi0,Builtin.lenOf,Builtin.firstCells,storeCells,loadCells,loadCellsFrom]
def NewE (w:World)(es:List Ev)(e:Ending)(w':World):Prop:=∃v,e=.returned v/\OE w' w.heap.size v es/\Below w.heap.size w w'
theorem clone_any (v:Value)(es:List Ev)(w:World)(h:RdE w v es)(hl:es.length<=1000):Calls Tryz.prog 67 #[v] w (NewE w es):=by
 obtain⟨a,c,rfl,hr⟩:=h
 have hnil:=λ W=>Lib.run_eql_slice_nil (P:=Tryz.prog) W 59 62 a es.length c 0 0 Tryz.underlying59
 cases a with
 | none=>
  have he:es=[]:=by
   rcases es with _|⟨x,r⟩
   ·rfl
   ·obtain⟨b,o,hx,_⟩:=hr (by simp);cases hx
  subst he
  have hnil0:∀W,(binOp .eql 59 (.slice none 0 c) (.slice none 0 0)).run Tryz.prog W=.ok (.bool true) W:=hnil
  clear hnil
  go_enter Tryz.func67,Tryz.ntmps67
  go_wp2_with fail
  go_ret
  exact⟨_,rfl,⟨rfl,.inl ⟨rfl,rfl⟩⟩,Below.refl _ _⟩
 | some ad=>
  simp only[Option.isNone_some] at hnil
  have hmk:∀W,(Instr.buildSlice 59 0 #[]).run Tryz.prog W=.ok (.slice (some ⟨W.heap.size,0,none⟩) 0 0) (W.alloc (.cells #[] 62)):=λ_=>by kernel_rfl
  have ho:Hid ((w.alloc (.cells #[] 62)).ownsRow w.heap.size 62 34 (.slice (some ⟨w.heap.size,0,none⟩) 0 0) 0 []):=⟨rfl,.inr ⟨w.heap.size,0,#[],rfl,Nat.le_refl _,heap_alloc_new w _,Nat.le_refl _,by simp[maxLen],rfl,rfl⟩⟩
  by_cases he:es=[]
  ·subst he
   have hnil0:∀W,(binOp .eql 59 (.slice (some ad) 0 c) (.slice none 0 0)).run Tryz.prog W=.ok (.bool false) W:=hnil
   clear hnil
   have ha:=app0 (w.alloc (.cells #[] 62)) w.heap.size c (some ad)
   go_enter Tryz.func67,Tryz.ntmps67
   go_wp2_with fail
   go_ret
   exact⟨_,rfl,ho.out,(Below.refl _ _).alloc (Nat.le_refl _) _⟩
  ·obtain⟨b,o,hx,hbl,hrg⟩:=hr he
   injection hx with hx
   subst hx
   have hpos:0<es.length:=List.length_pos_iff.2 he
   obtain⟨i0,hi0,hz0,hz1,hz2⟩:=info_parts Tryz.info62
   have hnews:Hid (∀j u,(evs es)[j]? = some u->(w.alloc (.cells #[] 62)).cell? ((⟨b,o,none⟩:Addr).add j)=some u):=λj u hu=>by
    have hj:j<es.length*34:=by have:=(List.getElem?_eq_some_iff.1 hu).1;rw[evs_len] at this;exact this
    have hi:j/34<es.length:=by omega
    have hee:es[j/34]? = some es[j/34]:=List.getElem?_eq_getElem hi
    have hjj:(evc es[j/34])[j%34]? = some ((evc es[j/34])[j%34]'(by rw[evc_len];omega)):=List.getElem?_eq_getElem _
    have h1:=evs_at es _ _ hee _ _ hjj
    rw[show j/34*34+j%34=j by omega,hu] at h1
    injection h1 with h1
    have h2:=hrg _ _ hee _ _ hjj
    rw[Addr.add_mid,show o+j=o+j/34*34+j%34 by omega,h1]
    rw[World.cell?_of_block (w:=w) (Below.heap_alloc w _ b hbl)]
    exact h2
   have hone:Hid (∀u∈evs es,u.oneCell'=true):=λu hu=>by
    obtain⟨x,_,hx⟩:=List.mem_flatMap.1 hu
    rcases List.mem_cons.1 hx with rfl|hx
    ·rfl
    rcases List.mem_append.1 hx with hx|hx
    ·simp only[arr,List.mem_map] at hx;obtain⟨i,_,rfl⟩:=hx;rfl
    ·rw[List.mem_singleton.1 hx];rfl
   have HE:=Hh he
   clear he hr
   go_enter Tryz.func67,Tryz.ntmps67
   go_wp2_with (at_builtin;refine wpList_append_lies _ rfl _ _ 59 rfl w.heap.size 62 i0 _ 34 56 Tryz.underlying59 hi0 hz0 hz1 hz2 (by kernel_rfl) (by omega) _ 0 [] rfl (by exact ho.out) ⟨b,o,none⟩ es.length c (evs es) rfl (evs_len es) (by exact hnews.out) hone.out hpos (by simp only[maxLen];omega) (by omega) (by simp) (w.heap.size+1) (by simp) ?_)
   intro g cap w' hown hgrow hat hlt
   have hb:Below w.heap.size w w':=Below.grown ((Below.refl _ _).alloc (Nat.le_refl _) _) hgrow (by simp) (λk hk=>by
    have:w.heap.size=k:=by simpa[Value.ownBlock] using hk
    omega)
   have HO:=Hh hown
   clear hown hgrow hat
   go_wp2_with fail
   go_ret
   exact⟨_,rfl,HO.out,hb⟩
theorem events_any (base B:Nat)(es:List Ev)(w:World)(h:LOG w base B es)(hl:es.length<=1000):Calls Tryz.prog 28 #[.pointer (some ⟨B,0,none⟩)] w (NewE w es):=by
 obtain⟨v,hv,hO,hB⟩:=h.cells
 have HO:=Hh hO.rd
 clear hO h
 go_enter Tryz.func28,Tryz.ntmps28
 go_wp2_with fail
 refine(clone_any v es _ HO.out hl).mono ?_
 rintro e w' ⟨v',rfl,hO',hb⟩
 have HO':=Hh hO'
 clear hO'
 go_wp2_with fail
 go_ret
 exact⟨_,rfl,HO'.out,hb⟩
end Ms
namespace Ms
def FP (B:Nat)(v:Value)(k:Nat):Prop:=k=B\/v.ownBlock=some k
def LOGN (w0:World)(v0:Value)(w:World)(base B:Nat)(es:List Ev):Prop:=base<=B/\∃v,LG w B (regs es) v/\w.ownsRow base 62 34 v es.length (evs es)/\∀g,v.ownBlock=some g->v0.ownBlock=some g\/w0.heap.size<=g
def RLOGN (w0:World)(v0:Value)(w:World)(base B:Nat)(es:List Ev):Prop:=base<=B/\∃v,Row w B 174 1 (λ_=>v)/\w.ownsRow base 62 34 v es.length (evs es)/\∀g,v.ownBlock=some g->v0.ownBlock=some g\/w0.heap.size<=g
theorem own_new {w0:World}{v0:Value}{g n cap:Nat}(h:v0.ownBlock=some g\/w0.heap.size<=g):∀k,(Value.slice (some ⟨g,0,none⟩) n cap).ownBlock=some k->v0.ownBlock=some k\/w0.heap.size<=k:=λk hk=>by
 have e:g=k:=by simpa[Value.ownBlock] using hk
 rw[<-e];exact h
section
attribute [local go_sem ↓] Go.wp_at_zero Go.wp_at_succ build45 slice46 load26 store26
attribute [local go_sem] bldV slcV
theorem measure_okF (base B r:Nat)(es:List Ev)(t s:ByteArray)(w:World)(hr:r<8)(ht:t.size<=64)(hes:es.length<256)(hs:s.size<=1073741824)(hR:Rnd w)(h0:0<base)(v:Value)(hbB:base<=B)(hL:LG w B (regs es) v)(hO:w.ownsRow base 62 34 v es.length (evs es)) :
  Calls Tryz.prog 60 #[.pointer (some ⟨B,0,none⟩),.int .i64 (r:Int),.string t,.string s] w λe w'=>e=.returned (.int .i64 0)/\LOGN w v w' base B (es++[⟨r,sumD s.data.toList,t⟩])/\Ch (FP B v) w w':=by
 obtain⟨va,vc,rfl⟩:=own_len hO
 have hBl:=hL.lt
 have h00:0<w.heap.size:=by omega
 have c256:w.cell? ⟨B,256,none⟩=some (.slice va es.length vc):=Row.cell hL (i:=256) (by omega)
 have hlen:(es.length:Int)<256:=by omega
 have d1:decide ((t.size:Int) > 64)=false:=by simp;omega
 have d2:decide ((es.length:Int) ≥ 256)=false:=by simp;omega
 have HL:=Hh hL
 have HO:=Hh hO
 have HR:=Hh hR
 clear hL hO hR
 go_enter Tryz.func60,Tryz.ntmps60
 go_wp2_with (first|(go_at_call 113;refine(isreg_yes r _ hr).mono ?_;rintro e w1 ⟨rfl,rfl⟩)|(go_at_call 14;refine(sum_any s _ hs HR.out (by omega)).mono ?_;rintro e w1 ⟨rfl,hb⟩;have HB:=Hh hb;clear hb)|(rw[zz32];refine wpList_store_mid rfl 31 _ _ rfl w1.heap.size 0 (arr 32 (b8 (sumD s.data.toList))) rfl rfl (by exact(Row.ofList w1 31 (arr 32 zb) zb 32 rfl).there) (by kernel_rfl) (by kernel_rfl) ?_))
 have hbs:=HB.out.size
 have DR:Row ((w1.alloc (.cells (arr 32 zb) 31)).setCells w1.heap.size 0 (arr 32 (b8 (sumD s.data.toList))).toList) w1.heap.size 31 32 (b8 (sumD s.data.toList)):=Row.setWhole (Row.ofList w1 31 (arr 32 zb) zb 32 rfl)
 have hBW:Below w.heap.size w ((w1.alloc (.cells (arr 32 zb) 31)).setCells w1.heap.size 0 (arr 32 (b8 (sumD s.data.toList))).toList):=Below.setAll (by omega) _ _ _ (HB.out.alloc (by omega) _)
 have hsz:w1.heap.size<((w1.alloc (.cells (arr 32 zb) 31)).setCells w1.heap.size 0 (arr 32 (b8 (sumD s.data.toList))).toList).heap.size:=DR.lt
 generalize (w1.alloc (.cells (arr 32 zb) 31)).setCells w1.heap.size 0 (arr 32 (b8 (sumD s.data.toList))).toList=W at DR hBW hsz ⊢
 generalize hT:w1.heap.size=T at DR hsz hbs ⊢
 clear hT HB w1
 have hBlt:=HL.out.lt
 have L2:LG W B (regs es) (.slice va es.length vc):=HL.out.below hBW hBlt
 have O2:W.ownsRow base 62 34 (.slice va es.length vc) es.length (evs es):=HO.out.kept (row:=none) ⟨hBW.os,hBW.tape,hBW.output,hBW.size,λk hk _=>hBW.block k hk⟩ (by cases hv:(Value.slice va es.length vc).ownBlock<;>simp)
 generalize hD:sumD s.data.toList=D at DR ⊢
 have hcs:(arr 32 (b8 D)).toList.length=32:=by simp[arr]
 have hc1:∀u∈(arr 32 (b8 D)).toList,u.oneCell'=true:=λu hu=>by
  simp only[arr,List.mem_map] at hu;obtain⟨i,_,rfl⟩:=hu;rfl
 obtain⟨cs,hcsd⟩:∃cs,cs=(arr 32 (b8 D)).toList:=⟨_,rfl⟩
 have rT:W.rangeAt T 0 cs:=by
  intro j u hu
  rw[hcsd] at hu
  have hj:j<32:=by have:=(List.getElem?_eq_some_iff.1 hu).1;rw[hcs] at this;exact this
  have:u=b8 D j:=by simpa[arr,hj] using hu.symm
  rw[this,Nat.zero_add,Row.cell DR hj]
 rw[<-hcsd] at hcs hc1
 have hu26:=Tryz.underlying31
 have hi26:(Tryz.prog.info? 31).map (·.size)=some cs.length:=by rw[hcs];kernel_rfl
 have e256:W.cell? ⟨B,256,none⟩=some (.slice va es.length vc):=Row.cell L2 (i:=256) (by omega)
 have f256:W.frozen? ⟨B,256,none⟩=false:=Row.frozen L2 256
 have hne:(Value.slice va es.length vc).ownBlock≠some B:=own_ne O2 L2 (by decide)
 have hneT:(Value.slice va es.length vc).ownBlock≠some T:=own_ne O2 DR (by decide)
 have HO2:=Hh O2
 have HL2:=Hh L2
 have HDR:=Hh DR
 have HBW:=Hh hBW
 have HD:=Hh hD
 have Hcsd:=Hh hcsd
 have lB:B<W.heap.size:=L2.lt
 clear O2 L2 DR hBW hD hcsd c256 HO HL
 obtain⟨i0,hi0,hz0,hz1,hz2⟩:=info_parts Tryz.info62
 have hnews:∀(W':World) (X:Nat),W'.heap[X]? = some (.cells (.int .i64 (r:Int)::(cs++[.string t])).toArray 62)->∀j u,(Value.int .i64 (r:Int)::(cs++[.string t]))[j]? = some u->W'.cell? ((⟨X,0,none⟩:Addr).add j)=some u:=λ W' X h j u hu=>World.news_of_block h j u (by simpa using hu)
 have hone:∀u∈(Value.int .i64 (r:Int)::(cs++[.string t])),u.oneCell'=true:=λu hu=>by
  rcases List.mem_cons.1 hu with rfl|hu
  ·rfl
  rcases List.mem_append.1 hu with hu|hu
  ·exact hc1 u hu
  ·rw[List.mem_singleton.1 hu];rfl
 have hnl:(Value.int .i64 (r:Int)::(cs++[.string t])).length=1*34:=by simp[hcs]
 have Hone:=Hh hone
 have Hnews:=Hh hnews
 have Hnl:=Hh hnl
 clear hone hnews hnl
 have hl0:ldV W.drew (.pointer (some ⟨T,0,none⟩))=some cs.toArray:=ldV_of (by simpa using rT) (by simpa using hcs)
 have hl1:∀o,ldV (W.alloc o).drew (.pointer (some ⟨T,0,none⟩))=some cs.toArray:=λo=>ldV_of (by simpa using World.rangeAt_alloc rT o) (by simpa using hcs)
 have hBn:¬B=W.heap.size:=by omega
 have hgc:∀o w2,(W.alloc o).drew.grownBy w2 (Value.slice va es.length vc).ownBlock->w2.cell? ⟨B,256,none⟩=some (.slice va es.length vc):=λo w2 hg=>by
  have h1:=(HL2.out.alloc o).drew
  rw[World.cell?_of_block (w:=(W.alloc o).drew) (hg.block B h1.lt (λh=>hne h.symm)),Row.cell h1 (i:=256) (by omega)]
  rw[lgv_ev]
 have hgf:∀o w2,(W.alloc o).drew.grownBy w2 (Value.slice va es.length vc).ownBlock->w2.frozen? ⟨B,256,none⟩=false:=λo w2 hg=>by
  have h1:=(HL2.out.alloc o).drew
  rw[World.frozen?_of_block (w:=(W.alloc o).drew) (hg.block B h1.lt (λh=>hne h.symm))]
  exact Row.frozen h1 256
 have HGC:=Hh hgc
 have HGF:=Hh hgf
 clear hgc hgf
 go_region_law
  ((refine step_append_lies _ (by rfl) _ _ _ (by rfl) base 62 i0 _ 34 56 Tryz.underlying59 hi0 hz0 hz1 hz2 (by kernel_rfl) (by omega) (.slice va es.length vc) es.length (evs es) (by rfl) ((HO2.out.alloc _).drew)
     ⟨W.heap.size,0,none⟩ 1 1 (.int .i64 (r:Int)::(cs++[.string t])) (by rfl) Hnl.out (Hnews.out _ _ (heap_alloc_new W _)) Hone.out (by omega) (by simp only[maxLen];omega) (by omega) (by simp;omega) (W.heap.size+1) (by simp) ?_;intro g cap w2 hown2 hgrow hat hlt;have hc2:=HGC.out _ _ hgrow;have hf2:=HGF.out _ _ hgrow))
 all_goals
  have L3:LG w2 B (regs es) (.slice va es.length vc):=Row.ch (w:=(W.alloc (.cells (.int .i64 (r:Int)::(cs++[.string t])).toArray 62)).drew) (HL2.out.alloc _).drew (Ch.of_grown (C:=λb=>(Value.slice va es.length vc).ownBlock=some b) hgrow (λk hk _=>hk)) hne
  have D3:Row w2 T 31 32 (b8 D):=Row.ch (w:=(W.alloc (.cells (.int .i64 (r:Int)::(cs++[.string t])).toArray 62)).drew) (HDR.out.alloc _).drew (Ch.of_grown (C:=λb=>(Value.slice va es.length vc).ownBlock=some b) hgrow (λk hk _=>hk)) hneT
  have B3:Below base w w2:=Below.grown (((HBW.out.mono (by omega)).alloc (by omega) _).drew) hgrow (by simp;omega) (λk hk=>(HO2.out.lt k hk).1)
  have C3:Ch (FP B (.slice va es.length vc)) w w2:=Ch.andThen (((Ch.of_below HBW.out _).alloc (.cells (.int .i64 (r:Int)::(cs++[.string t])).toArray 62)).drew) (Ch.of_grown (C:=λb=>(Value.slice va es.length vc).ownBlock=some b) hgrow (λk hk _=>hk)) (λi hi _=>.inr hi)
  have HG:Hid ((Value.slice va es.length vc).ownBlock=some g\/w.heap.size<=g):=by
   rcases hat with h|h
   ·exact .inl h
   ·exact .inr (by rw[h];have:=HBW.out.size;omega)
  have C4:Hid (Ch (FP B (.slice va es.length vc)) w (w2.setCell ⟨B,256,none⟩ (.slice (some ⟨g,0,none⟩) (es.length+1) cap))):=C3.setCell (p:=⟨B,256,none⟩) (λ_=>.inl rfl) _
  have L4:=L3.ev (.slice (some ⟨g,0,none⟩) (es.length+1) cap)
  have D4:Row (w2.setCell ⟨B,256,none⟩ (.slice (some ⟨g,0,none⟩) (es.length+1) cap)) T 31 32 (b8 D):=Row.far D3 (by show T≠B;omega) _
  have O4:=own_set hown2 L3 (by decide) (w2.setCell ⟨B,256,none⟩ (.slice (some ⟨g,0,none⟩) (es.length+1) cap)) ((Ch.refl (λb=>b=B) w2).setCell (p:=⟨B,256,none⟩) (λ_=>rfl) _)
  have B4:Below base w (w2.setCell ⟨B,256,none⟩ (.slice (some ⟨g,0,none⟩) (es.length+1) cap)):=B3.setCell (p:=⟨B,256,none⟩) hbB _
  clear L3 D3 B3 C3 hc2 hf2 hgrow hat hlt hown2 hl0 hl1 e256 f256 rT
  generalize w2.setCell ⟨B,256,none⟩ (.slice (some ⟨g,0,none⟩) (es.length+1) cap)=X at L4 D4 O4 B4 C4 ⊢
  have R4:Hid (Rnd X.drew):=HR.out.below B4.drew h0
  have hX0:0<X.drew.heap.size:=by have:=L4.drew.lt;omega
  have rT4:X.drew.rangeAt T 0 cs:=by
   intro j u hu
   rw[Hcsd.out] at hu
   have hj:j<32:=by have:=(List.getElem?_eq_some_iff.1 hu).1;simpa[arr] using this
   have:u=b8 D j:=by simpa[arr,hj] using hu.symm
   rw[this,Nat.zero_add,Row.cell D4.drew hj]
  have hl2:ldV X.drew (.pointer (some ⟨T,0,none⟩))=some (arr 32 (b8 D)):=ldV_of (by rw[<-Hcsd.out];exact rT4) (by simp[arr])
  have hl3:ldV X.drew (.pointer (some ⟨B,r*32,none⟩))=some (arr 32 (b8 (regs es r))):=ldV_of (LG.range (L4.drew) hr) (by simp[arr])
  have r8:(r:Int)<8:=by omega
  have HL4:=Hh L4
  have HO4:=Hh O4
  have HB4:=Hh B4
  have hDB:Hid (Byt D):=by rw[<-HD.out];exact sumD_byt _
  clear L4 D4 O4 B4 rT4 hu26 hi26 HO2 HL2 HDR HBW Hone Hnews Hnl HGC HGF hne hneT hi0 hz0 hz1 hz2 hc1 hcs
  go_wp2_with fail
  go_region_law (first|(go_simp;go_at_call 114;refine(extend_any (regs es r) D _ (regs_byt _ _) hDB.out (by exact R4.out) hX0).mono ?_;rintro e w3 ⟨rfl,hb3⟩;have hst3:=stV_of (w:=w3) (b:=B) (o:=r*32) (cs:=arr 32 (b8 (sumD (dl (regs es r)++dl D)))) (by simp[arr]) (LG.there (HL4.out.drew.below hb3 HL4.out.lt) r hr) (arr_one _)))
  all_goals
   have B5:Below base w (w3.setCells B (r*32) (arr 32 (b8 (sumD (dl (regs es r)++dl D)))).toList):=Below.setAll hbB _ _ _ (HB4.out.drew.trans (hb3.mono (by have:=HL4.out.lt;show base<=X.heap.size;omega)))
   have C5:Hid (Ch (FP B (.slice va es.length vc)) w (w3.setCells B (r*32) (arr 32 (b8 (sumD (dl (regs es r)++dl D)))).toList)):=Ch.setAll (.inl rfl) _ _ _ (C4.out.drew.andThen (Ch.of_below hb3 (λ_=>False)) (λ_ h _=>h.elim))
   have L5:=LG.reg (HL4.out.drew.below hb3 HL4.out.lt) r hr (sumD (dl (regs es r)++dl D))
   have O5:=own_set (own_below (w:=X.drew) HO4.out.drew hb3 (Nat.le_refl _)) (HL4.out.drew.below hb3 HL4.out.lt) (by decide) (w3.setCells B (r*32) (arr 32 (b8 (sumD (dl (regs es r)++dl D)))).toList) (Ch.setAll (C:=λb=>b=B) rfl _ _ _ (Ch.refl _ _))
   have hfin:Hid (LOGN w (.slice va es.length vc) (w3.setCells B (r*32) (arr 32 (b8 (sumD (dl (regs es r)++dl D)))).toList) base B (es++[⟨r,sumD s.data.toList,t⟩])):=by
    refine⟨hbB,.slice (some ⟨g,0,none⟩) (es.length+1) cap,?_,?_,?_⟩
    ·rw[regs_snoc]
     have e:reg1 (regs es) ⟨r,sumD s.data.toList,t⟩=λq=>if q=r then sumD (dl (regs es r)++dl D) else regs es q:=by
      funext q
      unfold reg1
      by_cases hq:q=r
      ·subst hq;rw[if_pos rfl,if_pos rfl,HD.out]
      ·rw[if_neg (by show ¬(q:Int)=(r:Int);omega),if_neg hq]
     rw[e]
     exact L5
    ·rw[evs_snoc,List.length_append]
     rw[Hcsd.out] at O5
     have e:evc ⟨r,sumD s.data.toList,t⟩=Value.int .i64 (r:Int)::((arr 32 (b8 D)).toList++[.string t]):=by rw[<-HD.out];rfl
     rw[e]
     exact O5
    ·exact own_new HG.out
   clear L5 O5 hb3 hst3 hl2 hl3
   clear B5
   generalize w3.setCells B (r*32) (arr 32 (b8 (sumD (dl (regs es r)++dl D)))).toList=Z at hfin C5 ⊢
   go_wp2_with fail
   go_ret
   exact⟨rfl,hfin.out,C5.out⟩
end
end Ms
namespace Ms
theorem load45n (ρ:Operand->Value)(d:Option Tmp)(x:Operand)(ty:TypeId)(p:String)(af:Array Edge)(g:Option (Nat×Bool))(w:World) :
  Sem.run Tryz.prog (execOp ρ { dst:=d,op:=.load 62 x,type:=ty,pos:=p,after:=af,guard:=g }) w =
   match ldN 34 w (ρ x) with
   | some cs=>.ok (.value (.agg cs)) w
   | none=>Sem.run Tryz.prog (Instr.loadAt 62 (ρ x) >>= λv=>pure (Next.value v)) w:=load_n 62 34 _ Tryz.underlying62 rfl (by kernel_rfl) ρ d x ty p af g w
theorem evc_size (e:Ev):(evc e).toArray.size=34:=by simp[evc_len]
theorem evc_one (e:Ev):(evc e).toArray.all (·.oneCell')=true:=by
 apply all_oneCell_toArray
 intro u hx
 rcases List.mem_cons.1 hx with rfl|hx
 ·rfl
 rcases List.mem_append.1 hx with hx|hx
 ·simp only[arr,List.mem_map] at hx;obtain⟨i,_,rfl⟩:=hx;rfl
 ·rw[List.mem_singleton.1 hx];rfl
attribute [local go_sem ↓] alloc26 load26n store26n load45n
attribute [local go_sem] stN_uc stN_b8 set_new ldN_drew
end Ms
end Go.Proofs.YtdinbpdpalgohaaGreatDoor
