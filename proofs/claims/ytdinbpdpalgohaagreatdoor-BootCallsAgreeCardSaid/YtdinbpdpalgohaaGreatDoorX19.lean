/- Walks and laws: CG DK DL CH CI CD. Conditions: those that each theorem names. -/
import Derived.Test.YtdinbpdpalgohaaGreatDoorX18
import Derived.Test.YtdinbpdpalgohaaGreatDoorX17
import Derived.Test.YtdinbpdpalgohaaGreatDoorX16
set_option maxHeartbeats 4000000
set_option maxRecDepth 100000
namespace Go.Proofs.YtdinbpdpalgohaaGreatDoor
open Go.RowKit
section
attribute [local go_sem ↓] alloc34 load34 store34 build34d build34o
attribute [local go_sem] bl4V ecl_list cs32
def catV (c:BC):Int:=if c.raw=true then c.tr else 1+((mo c.tr 3:Nat):Int)
theorem rsum_str (s:ByteArray)(w:World)(hs:s.size<=1073741824):Calls Tryz.prog 65 #[.string s] w λe w'=>e=.returned (.agg (Ms.arr 32 (Ms.b8 (dgF (sumS s)))))/\Below w.heap.size w w':=by
 have h:=Ms.rsum_any s w hs
 have e:=sumD_dg s.data.toList
 unfold dgA at e
 show Calls _ _ _ _ λe w'=>e=.returned (.agg (Ms.arr 32 (Ms.b8 (dgF (Ms.dl (Ms.sumD s.data.toList))))))/\_
 rw[e]
 exact h
theorem res1c {fn:Func}{p:Tmp}{ty:TypeId}(h:fn.results=#[.cell p ty])(tmps:Array Value)(w:World)(g:Nat)(cs:Array Value)
  (hp:tmps.getD p undef=.pointer (some ⟨g,0,none⟩)) (hl:(loadVar ty ⟨g,0,none⟩).run Tryz.prog w=.ok (.agg cs) w) :
  (results fn tmps).run Tryz.prog w=.ok (.agg cs) w:=by
 have hp':tmps[p]?.getD undef=.pointer (some ⟨g,0,none⟩):=by simpa using hp
 simp[results,h,hp',asAddr,hl]
theorem centry_any (c:BC)(w:World):Calls Tryz.prog 62 #[cBa c] w λe w'=>e=.returned (.agg (Ms.arr 35 (ecl (cidV c) (sumS (imgB c.im)) (!c.ina) (catV c))))/\Below w.heap.size w w':=by
 obtain⟨im,him⟩:∃im,imgB c.im=im:=⟨_,rfl⟩
 have hims:im.size<=1073741824:=by have:=imgB_size c.im;rw[<-him];omega
 have HIM:Hid (∀W,Calls Tryz.prog 66 #[.int .i64 c.im] W λe w'=>e=.returned (.string im)/\W=w'):=λ W=>by rw[<-him];exact image_any c.im W
 have HSM:Hid (∀W,Calls Tryz.prog 65 #[.string im] W λe w'=>e=.returned (.agg (Ms.arr 32 (Ms.b8 (dgF (sumS im)))))/\Below W.heap.size W w'):=λ W=>rsum_str im W hims
 have HMD:Hid (∀W,Calls Tryz.prog 11 #[.int .i64 c.tr,.int .i64 3] W λe w'=>e=.returned (.int .i64 ((mo c.tr 3:Nat):Int))/\W=w'):=λ W=>mod_any c.tr 3 W (by omega) (by omega)
 have HID:Hid (∀W,Calls Tryz.prog 64 #[cBa c] W λe w'=>e=.returned (.int .i64 (cidV c))/\Below W.heap.size W w'):=λ W=>cid_any c W
 have hm3:mo c.tr 3<3:=mo_lt c.tr 3 (by omega)
 have hr:(c.raw=false/\catV c=1+((mo c.tr 3:Nat):Int))\/(c.raw=true/\catV c=c.tr):=by
  unfold catV
  cases c.raw
  ·exact .inl ⟨rfl,if_neg (by simp)⟩
  ·exact .inr ⟨rfl,if_pos rfl⟩
 have HRV:=Hh hr
 rw[him]
 generalize catV c=cat at *
 generalize cidV c=ci at *
 generalize mo c.tr 3=mt at *
 generalize sumS im=D at *
 clear him hims hr
 unfold cBa at *
 have e1:(w.alloc (.cells #[.int .i64 c.kd,.int .i64 c.id,.int .i64 c.im,.int .i64 c.tr,c.ol,.bool c.ina,.bool c.raw] 54)).heap.size=w.heap.size+1:=by simp
 have HX:Hid (CX ((w.alloc (.cells #[.int .i64 c.kd,.int .i64 c.id,.int .i64 c.im,.int .i64 c.tr,c.ol,.bool c.ina,.bool c.raw] 54)).alloc (.cells (Ms.arr 35 (ecl 0 [] false 0)) 34)) w.heap.size 0 c):=(CX.made w c).below ((Below.refl _ _).alloc (Nat.le_refl _) _) (by simp)
 have HR:Hid (Row ((w.alloc (.cells #[.int .i64 c.kd,.int .i64 c.id,.int .i64 c.im,.int .i64 c.tr,c.ol,.bool c.ina,.bool c.raw] 54)).alloc (.cells (Ms.arr 35 (ecl 0 [] false 0)) 34)) (w.heap.size+1) 34 35 (ecl 0 [] false 0)):=by rw[<-e1];exact nE_row _
 have HB:Hid (Below w.heap.size w ((w.alloc (.cells #[.int .i64 c.kd,.int .i64 c.id,.int .i64 c.im,.int .i64 c.tr,c.ol,.bool c.ina,.bool c.raw] 54)).alloc (.cells (Ms.arr 35 (ecl 0 [] false 0)) 34))):=((Below.refl _ _).alloc (Nat.le_refl _) _).alloc (by simp) _
 clear e1
 go_enter Tryz.func62,Tryz.ntmps62
 go_upto_region 1 with fail
 generalize (w.alloc (.cells #[.int .i64 c.kd,.int .i64 c.id,.int .i64 c.im,.int .i64 c.tr,c.ol,.bool c.ina,.bool c.raw] 54)).alloc (.cells (Ms.arr 35 (ecl 0 [] false 0)) 34)=W1 at *
 obtain⟨T,hT⟩:∃T,w.heap.size=T:=⟨_,rfl⟩
 have HT:=Hh hT
 rw[hT] at HX HR ⊢
 clear hT
 have HSB:Hid (∀W W',(CX W T 0 c/\Row W (T+1) 34 35 (ecl 0 [] false 0))->Below W.heap.size W W'->(CX W' T 0 c/\Row W' (T+1) 34 35 (ecl 0 [] false 0))):=λ W W' h b=>⟨h.1.below b h.1.lt,h.2.below b h.2.lt⟩
 go_cut [3] (λs3 wx=>∃E,s3=.pointer (some ⟨E,0,none⟩)/\T+1<E/\Hid (Row wx E 34 35 (ecl ci D (!c.ina) (1+(mt:Int))))/\Hid (CX wx T 0 c/\Row wx (T+1) 34 35 (ecl 0 [] false 0))/\Hid (Below w.heap.size w wx))
 case first=>
  have S0:Hid (CX W1.drew T 0 c/\Row W1.drew (T+1) 34 35 (ecl 0 [] false 0)):=HSB.out W1 _ ⟨HX.out,HR.out⟩ ((Below.refl _ _).drew)
  have HB0:Hid (Below w.heap.size w W1.drew):=HB.out.drew
  clear HB HX HR
  have hwk:IntKind.i64.wrap (1+(mt:Int))=1+(mt:Int):=IntWalk.i64_in _ ⟨by omega,by omega⟩
  refine wp_region_ptw (λ Y=>CX Y T 0 c/\Row Y (T+1) 34 35 (ecl 0 [] false 0)) (.one 0 0 (.one 2 0 (.one 3 0 (.one 6 0 (.one 7 0 (.one 8 0 (.one 9 0 (.one 10 0 (.two 1 14 (.one 4 0 (.two 5 14 (.one 11 0 (.one 12 0 (.one 13 0 (.one 14 1 (.one 15 1 .nil))))) (.one 5 1 (.one 11 0 (.one 12 0 (.one 13 0 (.one 15 1 .nil))))))) (.one 1 1 (.one 4 0 (.one 5 1 (.one 11 0 (.one 12 0 (.one 13 0 (.one 15 1 .nil)))))))))))))))) (by kernel_rfl) (by kernel_rfl) ?_
  generalize W1.drew=Wd at *
  iterate 8 (apply wpTw_go;rfl;rfl;exact S0.out;(rintro Y ⟨⟨c0,c1,c2,c3,c4,c5,c6,_⟩,_⟩;go_simp;exact rfl);intro K hK;go_simp;refine hK _ ?_;clear hK K)
  refine wpTw_two rfl rfl ?_ ?_
  ·skip
   intro K hK
   go_simp
   refine(HID.out _).mono ?_
   rintro e w1 ⟨rfl,b1⟩
   have S1:Hid (CX w1 T 0 c/\Row w1 (T+1) 34 35 (ecl 0 [] false 0)):=HSB.out _ _ S0.out b1
   have HB1:Hid (Below w.heap.size w w1):=HB0.out.trans (b1.mono HB0.out.size)
   refine hK _ _ S1.out ?_
   clear hK K b1 S0 HB0
   refine wpTw_call rfl rfl S1.out (.string im) 66 #[.int .i64 c.im] (by intro X hX;go_simp) (λ X _=>HIM.out X) ?_
   intro K hK
   go_simp
   refine hK _ ?_
   clear hK K
   refine wpTw_two rfl rfl ?_ ?_
   ·skip
    intro K hK
    go_simp
    refine(HSM.out _).mono ?_
    rintro e w2 ⟨rfl,b2⟩
    have S2:Hid (CX w2 T 0 c/\Row w2 (T+1) 34 35 (ecl 0 [] false 0)):=HSB.out _ _ S1.out b2
    have HB2:Hid (Below w.heap.size w w2):=HB1.out.trans (b2.mono HB1.out.size)
    refine hK _ _ S2.out ?_
    clear hK K b2 S1 HB1
    refine wpTw_call rfl rfl S2.out (.int .i64 ((mt:Nat):Int)) 11 #[.int .i64 c.tr,.int .i64 3] (by intro X hX;go_simp) (λ X _=>HMD.out X) ?_
    intro K hK
    go_simp
    refine hK _ ?_
    clear hK K
    iterate 2 (apply wpTw_go;rfl;rfl;exact S2.out;(intro Y _;go_simp;exact rfl);intro K hK;go_simp;refine hK _ ?_;clear hK K)
    apply wpTw_one
    rfl
    intro K hK
    go_simp
    have S3:Hid (CX (w2.alloc (.cells (Ms.arr 35 (ecl 0 [] false 0)) 34)) T 0 c/\Row (w2.alloc (.cells (Ms.arr 35 (ecl 0 [] false 0)) 34)) (T+1) 34 35 (ecl 0 [] false 0)):=HSB.out _ _ S2.out ((Below.refl _ _).alloc (Nat.le_refl _) _)
    have HB3:Hid (Below w.heap.size w (w2.alloc (.cells (Ms.arr 35 (ecl 0 [] false 0)) 34))):=HB2.out.alloc HB2.out.size _
    have HN3:Hid (Row (w2.alloc (.cells (Ms.arr 35 (ecl 0 [] false 0)) 34)) w2.heap.size 34 35 (ecl 0 [] false 0)):=nE_row _
    have hE:T+1<w2.heap.size:=S2.out.2.lt
    refine hK _ _ S3.out ?_
    clear hK K S2 HB2
    generalize w2.alloc (.cells (Ms.arr 35 (ecl 0 [] false 0)) 34)=w3 at *
    generalize w2.heap.size=E at *
    have hst:=st34 HN3.out ci D (!c.ina) (1+(mt:Int))
    have S4:Hid (CX (w3.setCells E 0 (Ms.arr 35 (ecl ci D (!c.ina) (1+(mt:Int)))).toList) T 0 c/\Row (w3.setCells E 0 (Ms.arr 35 (ecl ci D (!c.ina) (1+(mt:Int)))).toList) (T+1) 34 35 (ecl 0 [] false 0)):=
     have b:=Ms.Below.setAll (B:=E) (Nat.le_refl E) (Ms.arr 35 (ecl ci D (!c.ina) (1+(mt:Int)))).toList 0 w3 (Below.refl E w3)
     ⟨S3.out.1.below b (by omega),S3.out.2.below b hE⟩
    have HB4:Hid (Below w.heap.size w (w3.setCells E 0 (Ms.arr 35 (ecl ci D (!c.ina) (1+(mt:Int)))).toList)):=Ms.Below.setAll (by have:=HT.out;omega) _ _ _ HB3.out
    have HN4:Hid (Row (w3.setCells E 0 (Ms.arr 35 (ecl ci D (!c.ina) (1+(mt:Int)))).toList) E 34 35 (ecl ci D (!c.ina) (1+(mt:Int)))):=Ms.Row.setWhole HN3.out
    apply wpTw_one
    rfl
    intro K hK
    go_simp
    refine hK _ _ S4.out ?_
    clear hK K hst S3 HB3 HN3
    refine wpTw_done ?_
    go_wp2_with fail
    go_meet
    exact⟨E,rfl,hE,HN4,S4,HB4⟩
   ·skip
    intro K hK
    go_simp
    have S5:Hid (CX (w1.alloc (.cells (Ms.arr 35 (ecl 0 [] false 0)) 34)) T 0 c/\Row (w1.alloc (.cells (Ms.arr 35 (ecl 0 [] false 0)) 34)) (T+1) 34 35 (ecl 0 [] false 0)):=HSB.out _ _ S1.out ((Below.refl _ _).alloc (Nat.le_refl _) _)
    have HB5:Hid (Below w.heap.size w (w1.alloc (.cells (Ms.arr 35 (ecl 0 [] false 0)) 34))):=HB1.out.alloc HB1.out.size _
    have HN5:Hid (Row (w1.alloc (.cells (Ms.arr 35 (ecl 0 [] false 0)) 34)) w1.heap.size 34 35 (ecl 0 [] false 0)):=nE_row _
    have hE:T+1<w1.heap.size:=S1.out.2.lt
    refine hK _ _ S5.out ?_
    clear hK K S1 HB1
    generalize w1.alloc (.cells (Ms.arr 35 (ecl 0 [] false 0)) 34)=w5 at *
    generalize w1.heap.size=E at *
    apply wpTw_one
    rfl
    intro K hK
    go_simp
    refine(HSM.out _).mono ?_
    rintro e w6 ⟨rfl,b6⟩
    have S6:Hid (CX w6 T 0 c/\Row w6 (T+1) 34 35 (ecl 0 [] false 0)):=HSB.out _ _ S5.out b6
    have HB6:Hid (Below w.heap.size w w6):=HB5.out.trans (b6.mono HB5.out.size)
    have HN6:Hid (Row w6 E 34 35 (ecl 0 [] false 0)):=HN5.out.below b6 HN5.out.lt
    refine hK _ _ S6.out ?_
    clear hK K b6 S5 HB5 HN5
    refine wpTw_call rfl rfl S6.out (.int .i64 ((mt:Nat):Int)) 11 #[.int .i64 c.tr,.int .i64 3] (by intro X hX;go_simp) (λ X _=>HMD.out X) ?_
    intro K hK
    go_simp
    refine hK _ ?_
    clear hK K
    iterate 2 (apply wpTw_go;rfl;rfl;exact S6.out;(intro Y _;go_simp;exact rfl);intro K hK;go_simp;refine hK _ ?_;clear hK K)
    have hst:=st34 HN6.out ci D (!c.ina) (1+(mt:Int))
    have S7:Hid (CX (w6.setCells E 0 (Ms.arr 35 (ecl ci D (!c.ina) (1+(mt:Int)))).toList) T 0 c/\Row (w6.setCells E 0 (Ms.arr 35 (ecl ci D (!c.ina) (1+(mt:Int)))).toList) (T+1) 34 35 (ecl 0 [] false 0)):=
     have b:=Ms.Below.setAll (B:=E) (Nat.le_refl E) (Ms.arr 35 (ecl ci D (!c.ina) (1+(mt:Int)))).toList 0 w6 (Below.refl E w6)
     ⟨S6.out.1.below b (by omega),S6.out.2.below b hE⟩
    have HB7:Hid (Below w.heap.size w (w6.setCells E 0 (Ms.arr 35 (ecl ci D (!c.ina) (1+(mt:Int)))).toList)):=Ms.Below.setAll (by have:=HT.out;omega) _ _ _ HB6.out
    have HN7:Hid (Row (w6.setCells E 0 (Ms.arr 35 (ecl ci D (!c.ina) (1+(mt:Int)))).toList) E 34 35 (ecl ci D (!c.ina) (1+(mt:Int)))):=Ms.Row.setWhole HN6.out
    apply wpTw_one
    rfl
    intro K hK
    go_simp
    refine hK _ _ S7.out ?_
    clear hK K hst S6 HB6 HN6
    refine wpTw_done ?_
    go_wp2_with fail
    go_meet
    exact⟨E,rfl,hE,HN7,S7,HB7⟩
  ·skip
   intro K hK
   go_simp
   have S8:Hid (CX (Wd.alloc (.cells (Ms.arr 35 (ecl 0 [] false 0)) 34)) T 0 c/\Row (Wd.alloc (.cells (Ms.arr 35 (ecl 0 [] false 0)) 34)) (T+1) 34 35 (ecl 0 [] false 0)):=HSB.out _ _ S0.out ((Below.refl _ _).alloc (Nat.le_refl _) _)
   have HB8:Hid (Below w.heap.size w (Wd.alloc (.cells (Ms.arr 35 (ecl 0 [] false 0)) 34))):=HB0.out.alloc HB0.out.size _
   have HN8:Hid (Row (Wd.alloc (.cells (Ms.arr 35 (ecl 0 [] false 0)) 34)) Wd.heap.size 34 35 (ecl 0 [] false 0)):=nE_row _
   have hE:T+1<Wd.heap.size:=S0.out.2.lt
   refine hK _ _ S8.out ?_
   clear hK K S0 HB0
   generalize Wd.alloc (.cells (Ms.arr 35 (ecl 0 [] false 0)) 34)=w8 at *
   generalize Wd.heap.size=E at *
   apply wpTw_one
   rfl
   intro K hK
   go_simp
   refine(HID.out _).mono ?_
   rintro e w9 ⟨rfl,b9⟩
   have S9:Hid (CX w9 T 0 c/\Row w9 (T+1) 34 35 (ecl 0 [] false 0)):=HSB.out _ _ S8.out b9
   have HB9:Hid (Below w.heap.size w w9):=HB8.out.trans (b9.mono HB8.out.size)
   have HN9:Hid (Row w9 E 34 35 (ecl 0 [] false 0)):=HN8.out.below b9 HN8.out.lt
   refine hK _ _ S9.out ?_
   clear hK K b9 S8 HB8 HN8
   refine wpTw_call rfl rfl S9.out (.string im) 66 #[.int .i64 c.im] (by intro X hX;go_simp) (λ X _=>HIM.out X) ?_
   intro K hK
   go_simp
   refine hK _ ?_
   clear hK K
   apply wpTw_one
   rfl
   intro K hK
   go_simp
   refine(HSM.out _).mono ?_
   rintro e w10 ⟨rfl,b10⟩
   have S10:Hid (CX w10 T 0 c/\Row w10 (T+1) 34 35 (ecl 0 [] false 0)):=HSB.out _ _ S9.out b10
   have HB10:Hid (Below w.heap.size w w10):=HB9.out.trans (b10.mono HB9.out.size)
   have HN10:Hid (Row w10 E 34 35 (ecl 0 [] false 0)):=HN9.out.below b10 HN9.out.lt
   refine hK _ _ S10.out ?_
   clear hK K b10 S9 HB9 HN9
   refine wpTw_call rfl rfl S10.out (.int .i64 ((mt:Nat):Int)) 11 #[.int .i64 c.tr,.int .i64 3] (by intro X hX;go_simp) (λ X _=>HMD.out X) ?_
   intro K hK
   go_simp
   refine hK _ ?_
   clear hK K
   iterate 2 (apply wpTw_go;rfl;rfl;exact S10.out;(intro Y _;go_simp;exact rfl);intro K hK;go_simp;refine hK _ ?_;clear hK K)
   have hst:=st34 HN10.out ci D (!c.ina) (1+(mt:Int))
   have S11:Hid (CX (w10.setCells E 0 (Ms.arr 35 (ecl ci D (!c.ina) (1+(mt:Int)))).toList) T 0 c/\Row (w10.setCells E 0 (Ms.arr 35 (ecl ci D (!c.ina) (1+(mt:Int)))).toList) (T+1) 34 35 (ecl 0 [] false 0)):=
    have b:=Ms.Below.setAll (B:=E) (Nat.le_refl E) (Ms.arr 35 (ecl ci D (!c.ina) (1+(mt:Int)))).toList 0 w10 (Below.refl E w10)
    ⟨S10.out.1.below b (by omega),S10.out.2.below b hE⟩
   have HB11:Hid (Below w.heap.size w (w10.setCells E 0 (Ms.arr 35 (ecl ci D (!c.ina) (1+(mt:Int)))).toList)):=Ms.Below.setAll (by have:=HT.out;omega) _ _ _ HB10.out
   have HN11:Hid (Row (w10.setCells E 0 (Ms.arr 35 (ecl ci D (!c.ina) (1+(mt:Int)))).toList) E 34 35 (ecl ci D (!c.ina) (1+(mt:Int)))):=Ms.Row.setWhole HN10.out
   apply wpTw_one
   rfl
   intro K hK
   go_simp
   refine hK _ _ S11.out ?_
   clear hK K hst S10 HB10 HN10
   refine wpTw_done ?_
   go_wp2_with fail
   go_meet
   exact⟨E,rfl,hE,HN11,S11,HB11⟩
 case rest=>
  clear HX HR HB
  obtain⟨E,rfl,hE,HN,HS,HB⟩:=hcut
  have c6:=HS.out.1.c6
  rcases HRV.out with ⟨hr,hv⟩|⟨hr,hv⟩
  ·have HV:=Hh hv
   rw[hr] at c6
   clear hv
   have l0:=ld34 HN.out
   have hst:=st34 HS.out.2 ci D (!c.ina) (1+(mt:Int))
   have HRF:Hid (Row (wc.setCells (T+1) 0 (Ms.arr 35 (ecl ci D (!c.ina) (1+(mt:Int)))).toList) (T+1) 34 35 (ecl ci D (!c.ina) (1+(mt:Int)))):=Ms.Row.setWhole HS.out.2
   have HBF:Hid (Below w.heap.size w (wc.setCells (T+1) 0 (Ms.arr 35 (ecl ci D (!c.ina) (1+(mt:Int)))).toList)):=Ms.Below.setAll (by have:=HT.out;omega) _ _ _ HB.out
   go_wp2_with fail
   exact bodyPost_ret (v:=.agg (Ms.arr 35 (ecl ci D (!c.ina) (1+(mt:Int))))) (res1c rfl _ _ (T+1) (Ms.arr 35 (ecl ci D (!c.ina) (1+(mt:Int)))) rfl (ret34 HRF.out)) rfl ⟨by rw[HV.out],HBF.out⟩
  ·have HV:=Hh hv
   rw[hr] at c6
   clear hv
   have c3:=HS.out.1.c3
   have c34:=HN.out.cell (i:=34) (by omega)
   have f34:=HN.out.frozen 34
   have HN2:Hid (Row (wc.setCell ⟨E,34,none⟩ (.int .i64 c.tr)) E 34 35 (ecl ci D (!c.ina) c.tr)):=(HN.out.set (i:=34) (by omega) _).congr λj hj=>by
    unfold ecl upd
    by_cases h1:j=34
    ·subst h1;simp
    ·simp only[if_neg h1]
     by_cases h2:j=0
     ·simp[h2]
     ·by_cases h3:j<33
      ·simp[h2,h3]
      ·have h4:j=33:=by omega
       simp[h4]
   have HS2:Hid (Row (wc.setCell ⟨E,34,none⟩ (.int .i64 c.tr)) (T+1) 34 35 (ecl 0 [] false 0)):=HS.out.2.below ((Below.refl E wc).setCell (p:=⟨E,34,none⟩) (Nat.le_refl _) _) hE
   have HB2:Hid (Below w.heap.size w (wc.setCell ⟨E,34,none⟩ (.int .i64 c.tr))):=HB.out.setCell (p:=⟨E,34,none⟩) (by have:=HT.out;show _<=E;omega) _
   have l0:=ld34 HN2.out
   have hst:=st34 HS2.out ci D (!c.ina) c.tr
   have HRF:Hid (Row ((wc.setCell ⟨E,34,none⟩ (.int .i64 c.tr)).setCells (T+1) 0 (Ms.arr 35 (ecl ci D (!c.ina) c.tr)).toList) (T+1) 34 35 (ecl ci D (!c.ina) c.tr)):=Ms.Row.setWhole HS2.out
   have HBF:Hid (Below w.heap.size w ((wc.setCell ⟨E,34,none⟩ (.int .i64 c.tr)).setCells (T+1) 0 (Ms.arr 35 (ecl ci D (!c.ina) c.tr)).toList)):=Ms.Below.setAll (by have:=HT.out;omega) _ _ _ HB2.out
   go_wp2_with fail
   exact bodyPost_ret (v:=.agg (Ms.arr 35 (ecl ci D (!c.ina) c.tr))) (res1c rfl _ _ (T+1) (Ms.arr 35 (ecl ci D (!c.ina) c.tr)) rfl (ret34 HRF.out)) rfl ⟨by rw[HV.out],HBF.out⟩
end
section
attribute [local go_sem ↓] alloc34 load34 store34 Ms.alloc26 Ms.load26n Ms.store26n
attribute [local go_sem] Ms.set_new Ms.stN_b8 cs32
section
variable {w w':World}{N M S L n:Nat}{O:Nat->Prop}{b:BM}
theorem rjudge_any (h:QW w N O M S L n b)(i:Nat){v:Value}{l:List ByteArray}(hv:RdT w v l)(hs:∀x∈l,x.size<=1073741824):Calls Tryz.prog 125 #[fptr M,.int .i64 (i:Int),v] w λe w'=>e=.returned (.int .i64 (exC b.st.V i l))/\Below w.heap.size w w':=by
 have HEN0:=Hh (rentry_any h (i:Int))
 have HW:=Hh h
 obtain⟨res,hres⟩:∃r,exC b.st.V i l=r:=⟨_,rfl⟩
 have HRES:=Hh hres
 rw[hres]
 obtain⟨va,vc,rfl,hvc,hvcm⟩:=hv.shape
 have HT:=Hh hv
 have HIZ:=Hh hs
 obtain⟨il,hil⟩:∃q,l.length=q:=⟨_,rfl⟩
 have HIL:=Hh hil
 rw[hil] at HT hvc ⊢
 clear h hres hv hs hil
 rcases hO:entO b.st.V (i:Int) with _|en
 ·have HEN:Hid (Calls Tryz.prog 75 #[fptr M,.int .i64 (i:Int)] w λe w'=>e=.returned (.tuple #[.agg (Ms.arr 35 (ecl 0 [] false 0)),.int .i64 0,.int .i64 6])/\Below w.heap.size w w'):=by
   have:=HEN0.out
   unfold entT at this
   rw[hO] at this
   exact this
  have HR:Hid (res=6):=by
   show _=_
   rw[<-HRES.out]
   unfold exC
   rw[hO]
  have hst9:=λ(W:World)=>st34 (nE_row W) 0 [] false 0
  clear hO HEN0 HRES
  go_enter Tryz.func125,Tryz.ntmps125
  go_wp2_with fail
  refine HEN.out.mono ?_
  rintro e w1 ⟨rfl,b1⟩
  have HB:Hid (Below w.heap.size w (w1.alloc (.cells (Ms.arr 35 (ecl 0 [] false 0)) 34))):=b1.alloc b1.size _
  clear b1 HEN
  go_wp2_with fail
  go_ret
  rw[HR.out]
  exact⟨rfl,HB.out⟩
 have HEX:=Hh (exC_some (l:=l) hO)
 obtain⟨h1,h2,h3,h4,h5⟩:=entO_some hO
 obtain⟨ei,d,ea,m,u⟩:=en
 have hd:d.length=32:=h3
 have hm:m<=255:=h4
 have hu:u<=255:=h5
 have HEN:Hid (Calls Tryz.prog 75 #[fptr M,.int .i64 (i:Int)] w λe w'=>e=.returned (.tuple #[.agg (Ms.arr 35 (ecl ei d ea m)),.int .i64 (u:Int),.int .i64 0])/\Below w.heap.size w w'):=by
  have:=HEN0.out
  unfold entT at this
  rw[hO] at this
  exact this
 have HRE:Hid (res=if l.length<=i\/(l.getD i ⟨#[]⟩).size=0 then 6 else if ea=false then 9 else if sumS (l.getD i ⟨#[]⟩)≠d then 21 else if d∈denV b.st.V then 13 else if m<=u then 14 else 0):=by
  show _=_
  rw[<-HRES.out,HEX.out]
 have HD:=Hh hd
 have hst9:=λ(W:World)=>st34 (nE_row W) ei d ea m
 clear h1 h2 h3 h4 h5 hO HEN0 HRES HEX hd
 go_enter Tryz.func125,Tryz.ntmps125
 go_wp2_with fail
 refine HEN.out.mono ?_
 rintro e w1 ⟨rfl,b1⟩
 have hB:Below w.heap.size w (w1.alloc (.cells (Ms.arr 35 (ecl ei d ea m)) 34)):=b1.alloc b1.size _
 have HB:=Hh hB
 have HW2:=Hh (HW.out.below hB)
 have HT2:=Hh (HT.out.below hB)
 have HR2:Hid (Row (w1.alloc (.cells (Ms.arr 35 (ecl ei d ea m)) 34)) w1.heap.size 34 35 (ecl ei d ea m)):=Row.ofList w1 _ _ _ 35 rfl
 clear b1 hB HEN HW HT
 by_cases hil:i<il
 ·have hiI:¬(i:Int) ≥ il:=by omega
  have hiI2:(i:Int)<il:=by omega
  have hx:i<l.length:=by rw[HIL.out];exact hil
  obtain⟨g,o,c',e,_,_,_,hc⟩:=HT2.out.cellAt hx
  rw[HIL.out] at e
  injection e with e1 _ e3
  subst e1 e3
  obtain⟨sx,hsx⟩:∃q,l[i]=q:=⟨_,rfl⟩
  have hsz:sx.size<=1073741824:=by rw[<-hsx];exact HIZ.out _ (List.getElem_mem hx)
  have HGD:Hid (l.getD i ⟨#[]⟩=sx):=by
   show _=_
   rw[List.getD_eq_getElem?_getD,List.getElem?_eq_getElem hx,<-hsx];rfl
  rw[hsx] at hc
  rw[HGD.out] at HRE
  clear hsx hx
  obtain⟨em,hem⟩:∃q,(sx.toList==[])=q:=⟨_,rfl⟩
  have HEM:Hid (em=true↔sx.size=0):=by
   show _↔_
   rw[<-hem,ByteArray.toList_eq,bsz,beq_iff_eq]
   exact List.length_eq_zero_iff.symm
  cases em
  case true=>
   have HR:Hid (res=6):=by
    show _=_
    rw[HRE.out,if_pos (.inr (HEM.out.1 rfl))]
   go_wp2_with fail
   go_ret
   rw[HR.out]
   exact⟨rfl,HB.out⟩
  case false=>
   have hn0:¬(l.length<=i\/sx.size=0):=by
    rw[HIL.out]
    rintro (q|q)
    ·omega
    ·have:=HEM.out.2 q;cases this
   rw[if_neg hn0] at HRE
   clear hn0 HEM
   have c33:(w1.alloc (.cells (Ms.arr 35 (ecl ei d ea m)) 34)).cell? ⟨w1.heap.size,33,none⟩=some (.bool ea):=HR2.out.cell (i:=33) (by omega)
   cases ea
   ·have HR:Hid (res=9):=by
     show _=_
     rw[HRE.out,if_pos rfl]
    go_wp2_with fail
    go_ret
    rw[HR.out]
    exact⟨rfl,HB.out⟩
   ·rw[if_neg (by decide)] at HRE
    have HC:=Hh hc
    go_upto_region 6 with fail
    clear hst9 c33
    generalize w1.alloc (.cells (Ms.arr 35 (ecl ei d true m)) 34)=w2 at *
    generalize w1.heap.size=E at *
    have HBd:Hid (Below w.heap.size w w2.drew):=HB.out.drew
    have HWd:=Hh (HW2.out.below ((Below.refl _ _).drew))
    have S1:Hid (w2.drew.cell? ⟨g,o+i,none⟩=some (.string sx)/\Row w2.drew E 34 35 (ecl ei d true m)):=⟨HC.out,HR2.out.drew⟩
    have HSM:=Hh (rsum_str sx w2.drew hsz)
    have HGL:Hid (g<w2.drew.heap.size):=by obtain⟨_,_,_,_,_,h3,_⟩:=HT2.out;exact h3 g rfl
    clear HB HW2 HR2 HC hc HT2 hem
    obtain⟨q,hq⟩:∃q,decide (sumS sx=d)=q:=⟨_,rfl⟩
    have heq:∀Y,(binOp .neq 31 (.agg (Ms.arr 32 (Ms.b8 (dgF (sumS sx))))) (.agg (Ms.arr 32 (Ms.b8 (dgF d))))).run Tryz.prog Y=.ok (.bool (!q)) Y:=λ Y=>by rw[<-hq];exact neDg (sumS_len _) HD.out Y
    have HQ:=Hh hq
    clear hq
    refine wp_region_pl (λ Y=>Y.cell? ⟨g,o+i,none⟩=some (.string sx)/\Row Y E 34 35 (ecl ei d true m)) ((0,0)::(1,0)::(2,0)::(3,0)::(5,0)::(6,0)::(4,1)::(7,0)::[]) (by kernel_rfl) (by kernel_rfl) ?_
    generalize w2.drew=w3 at *
    iterate 6 (apply wpP_go;rfl;rfl;exact S1.out;(rintro Y ⟨s0,s1⟩;have ld:=ld_dg s1;go_simp;exact rfl);intro K hK;go_simp;refine hK _ ?_;clear hK K)
    apply wpP_one
    rfl
    intro K hK
    go_simp
    refine HSM.out.mono ?_
    rintro e w4 ⟨rfl,b4⟩
    have HB4:Hid (Below w.heap.size w w4):=HBd.out.trans (b4.mono HBd.out.size)
    have HW4:=Hh (HWd.out.below b4)
    have S2:Hid (w4.cell? ⟨g,o+i,none⟩=some (.string sx)/\Row w4 E 34 35 (ecl ei d true m)):=⟨(b4.cell (p:=⟨g,o+i,none⟩) HGL.out).trans S1.out.1,S1.out.2.below b4 S1.out.2.lt⟩
    refine hK _ _ S2.out ?_
    clear hK K b4 HSM S1 HWd HBd HGL
    cases q
    ·iterate 1 (apply wpP_go;rfl;rfl;exact S2.out;(rintro Y ⟨s0,s1⟩;have ld:=ld_dg s1;go_simp;exact rfl);intro K hK;go_simp;refine hK _ ?_;clear hK K)
     refine wpP_done ?_
     have HR:Hid (res=21):=by
      show _=_
      rw[HRE.out,if_pos (of_decide_eq_false HQ.out)]
     clear S2 heq
     go_wp2_with fail
     go_ret
     rw[HR.out]
     exact⟨rfl,HB4.out⟩
    ·iterate 1 (apply wpP_go;rfl;rfl;exact S2.out;(rintro Y ⟨s0,s1⟩;have ld:=ld_dg s1;go_simp;exact rfl);intro K hK;go_simp;refine hK _ ?_;clear hK K)
     refine wpP_done ?_
     have HE4:=Hh S2.out.2
     have hrr:=HRE.out
     rw[if_neg (λq=>q (of_decide_eq_true HQ.out))] at hrr
     have HRF:=Hh hrr
     clear S2 heq hrr HRE HQ
     have hdnd:=rdenied_any HW4.out
     obtain⟨dn,hdn⟩:∃q,denV b.st.V=q:=⟨_,rfl⟩
     rw[hdn] at hdnd HRF
     have HDY:=Hh hdnd
     clear hdnd hdn
     go_wp2_with fail
     refine HDY.out.mono ?_
     rintro e w5 ⟨v5,rfl,ho5,b5⟩
     have HRD5:=Hh ho5.rd
     have HD32:Hid (∀d∈dn,d.length=32):=ho5.2.1
     have hl1000:dn.length<=1000:=ho5.2.2
     obtain⟨va2,vc2,rfl,hvc2,hvcm2⟩:=ho5.rd.shape
     have HE5:=Hh (HE4.out.below b5 HE4.out.lt)
     have HB5:Hid (Below w.heap.size w w5):=HB4.out.trans (b5.mono HB4.out.size)
     clear ho5 b5 HDY HW4 HE4 HB4
     obtain⟨n2,hn2⟩:∃q,dn.length=q:=⟨_,rfl⟩
     have HLN:=Hh hn2
     rw[hn2] at HRD5 hvc2 hl1000 ⊢
     clear hn2
     have HN0:Hid (d∉dn.take 0):=λh=>(by cases h)
     go_wp2_with fail
     go_loopw [11] (λz wr=>∃j:Nat,j<=n2/\z=.int .i64 (j:Int)/\Hid (d∉dn.take j)/\Hid (RdD wr (.slice va2 n2 vc2) dn)/\Hid (Row wr E 34 35 (ecl ei d true m))/\Hid (Below w.heap.size w wr)) (λz _=>n2-(intOf z).toNat)
     case atStart=>exact⟨0,by omega,rfl,HN0,HRD5,HE5,HB5⟩
     case round=>
      clear HN0 HRD5 HE5 HB5
      obtain⟨j,hj,rfl,HN,HRD,HE,HB⟩:=hrel
      by_cases hjl:j<n2
      ·have y1:(j:Int)<n2:=by omega
       have hjd:j<dn.length:=by rw[HLN.out];exact hjl
       obtain⟨g2,o2,c2',e,_,_,hld⟩:=HRD.out.at hjd
       rw[HLN.out] at e
       injection e with e1 _ e3
       subst e1 e3
       have HDL:=Hh (HD32.out _ (List.getElem_mem hjd))
       have HTK:=Hh (List.take_succ_eq_append_getElem hjd)
       have HM:=Hh (List.getElem_mem hjd)
       generalize dn[j]=dj at *
       obtain⟨cj,hcj⟩:∃q,Ms.arr 32 (Ms.b8 (dgF dj))=q:=⟨_,rfl⟩
       obtain⟨q,hq⟩:∃q,decide (dj=d)=q:=⟨_,rfl⟩
       have heq:∀Y,(binOp .eql 31 (.agg cj) (.agg (Ms.arr 32 (Ms.b8 (dgF d))))).run Tryz.prog Y=.ok (.bool q) Y:=λ Y=>by rw[<-hcj,<-hq];exact eqDg HDL.out HD.out Y
       rw[hcj] at hld
       have HQ:=Hh hq
       have S1:Hid (Ms.ldN 32 wr.drew (.pointer (some ⟨g2,o2+j*32,none⟩))=some cj/\Row wr.drew E 34 35 (ecl ei d true m)):=⟨by rw[Ms.ldN_drew];exact hld,HE.out.drew⟩
       have HRDn:=Hh (HRD.out.below ((Below.refl _ wr).drew))
       have HEn:Hid (Row wr.drew E 34 35 (ecl ei d true m)):=HE.out.drew
       have HBn:Hid (Below w.heap.size w wr.drew):=HB.out.drew
       clear hld hcj hq HRD HE HB
       go_wp2_with fail
       refine wp_region_pl (λ Y=>Ms.ldN 32 Y (.pointer (some ⟨g2,o2+j*32,none⟩))=some cj/\Row Y E 34 35 (ecl ei d true m)) ((0,0)::(1,0)::(2,0)::(3,0)::(4,0)::(5,0)::(6,0)::[]) (by kernel_rfl) (by kernel_rfl) ?_
       generalize wr.drew=wn at *
       iterate 7 (apply wpP_go;rfl;rfl;exact S1.out;(rintro Y ⟨s0,s1⟩;have ld:=ld_dg s1;go_simp;exact rfl);intro K hK;go_simp;refine hK _ ?_;clear hK K)
       refine wpP_done ?_
       clear S1 heq
       cases q
       ·have HN2:Hid (d∉dn.take (j+1)):=by
         show _∉_
         rw[HTK.out]
         intro q
         rcases List.mem_append.1 q with q|q
         ·exact HN.out q
         ·exact of_decide_eq_false HQ.out (List.mem_singleton.1 q).symm
        go_wp2_with fail
        go_roundw
        case rel=>exact⟨j+1,by omega,by go_num,HN2,HRDn,HEn,HBn⟩
        case measure=>simp[intOf];omega
       ·have HR:Hid (res=13):=by
         show _=_
         rw[HRF.out,if_pos (by rw[<-of_decide_eq_true HQ.out];exact HM.out)]
        go_wp2_with fail
        go_ret
        rw[HR.out]
        exact⟨rfl,HBn.out⟩
      ·have y1:¬(j:Int)<n2:=by omega
       have ej:j=n2:=by omega
       subst ej
       have hnd:d∉dn:=by
        have:=HN.out
        rw[List.take_of_length_le (by rw[HLN.out];omega)] at this
        exact this
       have c34:wr.cell? ⟨E,34,none⟩=some (.int .i64 (m:Int)):=HE.out.cell (i:=34) (by omega)
       by_cases hmu:m<=u
       ·have hmI:(u:Int) ≥ m:=by omega
        have HR:Hid (res=14):=by
         show _=_
         rw[HRF.out,if_neg hnd,if_pos hmu]
        clear hnd
        go_wp2_with fail
        go_ret
        rw[HR.out]
        exact⟨rfl,HB.out⟩
       ·have hmI:¬(u:Int) ≥ m:=by omega
        have HR:Hid (res=0):=by
         show _=_
         rw[HRF.out,if_neg hnd,if_neg hmu]
        clear hnd
        go_wp2_with fail
        go_ret
        rw[HR.out]
        exact⟨rfl,HB.out⟩
 ·have hiI:(i:Int) ≥ il:=by omega
  have HR:Hid (res=6):=by
   show _=_
   rw[HRE.out,if_pos (.inl (by rw[HIL.out];omega))]
  go_wp2_with fail
  go_ret
  rw[HR.out]
  exact⟨rfl,HB.out⟩
end
end
section
attribute [local go_sem ↓] alloc34 load34 store34
attribute [local go_sem] Ms.set_new Ms.stN_b8 cs32
section
variable {w w':World}{N M S L n:Nat}{O:Nat->Prop}{b:BM}{v:Value}{l:List ByteArray}
theorem QW.pushLog {w2:World}{u vl:Value}{l':List (Int×Int)}(h:QW w N O M S L n b)(c3:w.cell? ⟨M,3,none⟩=some vl)(hg:w.grownBy w2 vl.ownBlock)(hu:w2.ownsRow N 40 2 u l'.length (stv l'))(ho:∀g,u.ownBlock=some g->vl.ownBlock=some g\/w.heap.size<=g) :
  QW (w2.setCell ⟨M,3,none⟩ u) N (λk=>O k\/u.ownBlock=some k) M S L n { b with log:=l' }:=by
 obtain⟨R,D,DS,X,y,ve,vc,vl',h⟩:=h
 have e3:=h.c3
 rw[c3] at e3
 injection e3 with e3
 subst e3
 have hMlt:=h.t.lt
 have hvM:=h.vlM
 have huM:∀g,u.ownBlock=some g->g≠M:=λg hk e=>by
  rcases ho g hk with q|q
  ·exact hvM g q e
  ·omega
 have cg:Ch (λk=>vl.ownBlock=some k) w w2:=Ch.of_grown hg (λk hk _=>hk)
 have c:Ch (λk=>k=M\/vl.ownBlock=some k) w (w2.setCell ⟨M,3,none⟩ u):=(cg.mono (λi hi _=>.inr hi)).setCell (p:=⟨M,3,none⟩) (λ_=>.inl rfl) u
 have nt:∀{k q},R k=q->q≠4->¬(k=M\/vl.ownBlock=some k):=λ {k q} e1 e2 e=>by
  rcases e with e|e
  ·rw[e,h.rM] at e1;omega
  ·rw[h.rl k e] at e1;omega
 have lt:∀k,R k≠0->k<w.heap.size:=λk e=>(h.oN k (h.hO k e)).2
 have kp:∀{k q},R k=q->q≠0->q≠4->(if u.ownBlock=some k then 4 else R k)=q:=λ {k q} e1 e2 e3=>by
  rw[if_neg (λe=>by
   rcases ho k e with q'|q'
   ·rw[h.rl k q'] at e1;omega
   ·have:=lt k (by omega);omega)]
  exact e1
 have h0:=h.h0
 have hs:0<w.heap.size:=Nat.lt_of_lt_of_le h.h0 h.hN
 have hM:=h.oN M (h.hO M (by rw[h.rM];omega))
 refine⟨λk=>if u.ownBlock=some k then 4 else R k,D,DS,X,y,ve,vc,u,?_⟩
 exact {
  f:=h.f.ch c (λk hk=>nt (h.rD k hk) (by omega))
  s:=h.s.ch c (λk hk=>nt (h.rS k hk) (by omega))
  g:=Row.ch h.g c (nt h.rL (by omega))
  e:=ownN_ch h.e c (λk hk=>nt (h.rE k hk) (by omega))
  t:=((h.t.ch cg (λq=>hvM M q rfl)).set (i:=3) (by omega) u).congr (mgv_3 _ _ _ _ _ _)
  c:=h.c.ch c (λk hk=>nt (h.rC k hk) (by omega))
  l:=ownN_ch hu ((Ch.refl (λk=>k=M) w2).setCell (p:=⟨M,3,none⟩) (λ_=>rfl) u) (λk hk q=>huM k hk q)
  rD:=λk hk=>kp (h.rD k hk) (by omega) (by omega)
  rS:=λk hk=>kp (h.rS k hk) (by omega) (by omega)
  rL:=kp h.rL (by omega) (by omega)
  rE:=λk hk=>kp (h.rE k hk) (by omega) (by omega)
  rM:=by
   show(if u.ownBlock=some M then 4 else R M)=4
   split
   ·rfl
   ·exact h.rM
  rl:=λk hk=>if_pos hk
  rC:=λk hk=>kp (h.rC k hk) (by omega) (by omega)
  hO:=λk hk=>by
   by_cases e:u.ownBlock=some k
   ·exact .inr e
   ·have hk:(if u.ownBlock=some k then 4 else R k)≠0:=hk
    rw[if_neg e] at hk
    exact .inl (h.hO k hk)
  oN:=λk hk=>by
   rcases hk with hk|hk
   ·exact⟨(h.oN k hk).1,Nat.lt_of_lt_of_le (h.oN k hk).2 c.size⟩
   ·obtain⟨q1,q2⟩:=ownN_rg hu hk
    exact⟨q2,Nat.lt_of_lt_of_le q1.lt (by simp[World.setCell])⟩
  rnd:=rnd_ch h.rnd c (λq=>by
   rcases q with q|q
   ·omega
   ·have:=(h.oN 0 (h.hO 0 (by rw[h.rl 0 q];omega))).1;omega) hs
  h0:=h0
  hN:=Nat.le_trans h.hN c.size }
def QTR (w:World)(N:Nat)(O:Nat->Prop)(M S L n:Nat)(r:(Int×Int)×Int×BM)(e:Ending)(w':World):Prop:=e=.returned (.tuple #[.agg #[.int .i64 r.1.1,.int .i64 r.1.2],.int .i64 r.2.1])/\QLeft w w' N O M S L n r.2.2
theorem rtry_any (h:QW w N O M S L n b)(hb:b.st.blk<b.fl.B)(hc:∀x∈b.cand,isId x=true)(hes:b.es.length<256)(hlg:b.log.length<=1000)(hv:RdT w v l)(hvO:∀g,v.ownBlock=some g->¬O g)(hs:∀x∈l,x.size<=1073741824) :
  Calls Tryz.prog 74 #[fptr M,v] w (QTR w N O M S L (n+1) (tryB b l)):=by
 obtain⟨r,hr⟩:∃r,tryB b l=r:=⟨_,rfl⟩
 have HRE:=Hh hr
 rw[hr]
 clear hr
 unfold tryB at HRE
 have HB0:Hid (Below w.heap.size w (w.alloc (.cells #[.int .i64 0,.int .i64 0] 40))):=(Below.refl _ _).alloc (Nat.le_refl _) _
 have HR0:Hid (Row (w.alloc (.cells #[.int .i64 0,.int .i64 0] 40)) w.heap.size 40 2 (stp 0 0)):=Row.ofList w _ _ _ 2 rfl
 have HWW:=Hh h
 have HW0:=Hh (h.below HB0.out)
 obtain⟨vc,c2,hvc,hvcO⟩:=HW0.out.c2
 have HVC:=Hh hvc
 have HVCO:=Hh hvcO
 obtain⟨E,hE⟩:∃E,w.heap.size=E:=⟨_,rfl⟩
 have HE:=Hh hE
 have HnE:Hid (¬O E):=λq=>by have:=(h.oN E q).2;omega
 rw[hE] at HR0
 have hsz:E<(w.alloc (.cells #[.int .i64 0,.int .i64 0] 40)).heap.size:=HR0.out.lt
 clear h hvc hvcO hE
 rcases hcd:b.cand with _|⟨x,cr⟩
 ·rw[hcd] at HVC HRE
  have e0:r=((0,0),6,b):=HRE.out.symm
  subst e0
  obtain⟨a,c,rfl,h1,h2⟩:=HVC.out.shape
  have HC0:Hid (Ch O w (w.alloc (.cells #[.int .i64 0,.int .i64 0] 40))):=Ch.of_below HB0.out _
  have HQ0:=Hh (HW0.out.mono (Nat.le_succ n))
  have HOO:Hid (∀k,O k->O k\/w.heap.size<=k):=λk hk=>.inl hk
  clear hcd HRE
  go_enter Tryz.func74,Tryz.ntmps74
  go_upto_region 1 with fail
  rw[HE.out]
  generalize w.alloc (.cells #[.int .i64 0,.int .i64 0] 40)=W0 at *
  have z0:W0.cell? ⟨E,0,none⟩=some (.int .i64 0):=HR0.out.cell (i:=0) (by omega)
  have z1:W0.cell? ⟨E,1,none⟩=some (.int .i64 0):=HR0.out.cell (i:=1) (by omega)
  have fz0:=HR0.out.frozen 0
  have fz1:=HR0.out.frozen 1
  have HRF:=Hh (((HR0.out.set (i:=0) (by omega) (.int .i64 0)).set (i:=1) (by omega) (.int .i64 0)).congr (v':=stp 0 0) (λj hj=>by
   rcases(by omega:j=0\/j=1) with e|e<;>subst e<;>rfl))
  have HCF:Hid (Ch O w ((W0.setCell ⟨E,0,none⟩ (.int .i64 0)).setCell ⟨E,1,none⟩ (.int .i64 0))):=(HC0.out.setCell (p:=⟨E,0,none⟩) (λq=>by have h1:E<w.heap.size:=q;have:=HE.out;omega) _).setCell (p:=⟨E,1,none⟩) (λq=>by have h1:E<w.heap.size:=q;have:=HE.out;omega) _
  have HPF:=Hh (HQ0.out.ch (((Ch.refl (λq=>q=E) W0).setCell (p:=⟨E,0,none⟩) (λ_=>rfl) (.int .i64 0)).setCell (p:=⟨E,1,none⟩) (λ_=>rfl) (.int .i64 0)) (λq hq=>by
   subst hq
   exact⟨HnE.out,by have:=HWW.out.pos;have:=HE.out;omega⟩))
  go_wp2_with fail
  exact bodyPost_ret (v:=.tuple #[.agg #[.int .i64 0,.int .i64 0],.int .i64 6]) (res2 rfl _ _ E #[.int .i64 0,.int .i64 0] _ rfl rfl (ret40 HRF.out)) rfl ⟨rfl,_,HOO.out,HPF.out,HCF.out⟩
 ·rw[hcd] at HVC HRE
  obtain⟨g,o,c,rfl,h1,h2,hx,hgl,hrt⟩:=HVC.out.tail
  have HRT:=Hh hrt
  have hid:isId x=true:=hc x (by rw[hcd];exact List.mem_cons_self ..)
  have hii:=isId_iff.1 hid
  obtain⟨k,rfl⟩:∃k:Nat,x=(k:Int):=⟨x.toNat,by omega⟩
  have hk:k<16:=by omega
  have hkt:((k:Int)).toNat=k:=rfl
  have hjd:=rjudge_any HW0.out k (hv.below HB0.out) hs
  simp only[hkt] at HRE
  have HZ:Hid (exC b.st.V k l=0->∃d a m u,d.length=32/\m<=255/\u<m/\k<l.length/\entO b.st.V (k:Int)=some ⟨k,d,a,m,u⟩/\exE b.st.V (k:Int)=⟨k,d,a,m,u⟩):=λq=>by
   obtain⟨e,q1,q2,_,_,_,_,q3⟩:=exC_zero q
   have q4:=entO_some q1
   obtain⟨ei,d,a,m,u⟩:=e
   have e5:ei=(k:Int):=q4.1
   subst e5
   exact⟨d,a,m,u,q4.2.2.1,q4.2.2.2.1,q3,q2,q1,by unfold exE;rw[q1];rfl⟩
  obtain⟨ce,hce⟩:∃c,exC b.st.V k l=c:=⟨_,rfl⟩
  rw[hce] at hjd HRE HZ
  have HJD:=Hh hjd
  have HVT:=Hh (hv.below HB0.out)
  obtain⟨va0,vc0,rfl,hva1,hva2⟩:=hv.shape
  have HS:=Hh hs
  have HVO:=Hh hvO
  clear hcd hce hjd hid hii hkt hc hv hs hvO hrt
  go_enter Tryz.func74,Tryz.ntmps74
  go_upto_region 4 with fail
  rw[HE.out]
  have hM0:M<(w.alloc (.cells #[.int .i64 0,.int .i64 0] 40)).heap.size:=HW0.out.M_lt
  generalize w.alloc (.cells #[.int .i64 0,.int .i64 0] 40)=W0 at *
  go_wp2_with fail
  refine HJD.out.mono ?_
  rintro e w1 ⟨rfl,b1⟩
  have HB2:Hid (Below W0.heap.size W0 (w1.alloc (.cells #[.int .i64 (k:Int),.int .i64 ce] 40))):=b1.alloc b1.size _
  have HT2:Hid (Row (w1.alloc (.cells #[.int .i64 (k:Int),.int .i64 ce] 40)) w1.heap.size 40 2 (stp (k:Int) ce)):=Row.ofList w1 _ _ _ 2 rfl
  have HTW:Hid (W0.heap.size<=w1.heap.size):=b1.size
  clear b1 HJD
  go_upto_if 33 with fail
  generalize w1.heap.size=T at *
  generalize w1.alloc (.cells #[.int .i64 (k:Int),.int .i64 ce] 40)=W2 at *
  have HBw:Hid (Below w.heap.size w W2):=HB0.out.trans (HB2.out.mono HB0.out.size)
  have HW2:=Hh (HWW.out.below HBw.out)
  have HR2:=Hh (HR0.out.ch (Ch.of_below HB2.out (λ_=>False)) id)
  have HV2:=Hh (HVT.out.below HB2.out)
  have HRT2:=Hh (HRT.out.below HB2.out)
  have c22:W2.cell? ⟨M,2,none⟩=some (.slice (some ⟨g,o,none⟩) (cr.length+1) c):=(HB2.out.cell (p:=⟨M,2,none⟩) hM0).trans c2
  have HTE:Hid (w.heap.size<=T/\E≠T):=⟨by have:=HTW.out;have:=HB0.out.size;omega,by have:=HTW.out;omega⟩
  have HnT:Hid (¬O T):=λq=>by have:=(HWW.out.oN T q).2;have:=HTE.out.1;omega
  clear hM0 c2 HB2 HR0 HVT HRT HW0 HTW hsz
  go_cut [] (λwt=>∃(b2:BM) (O2:Nat->Prop),Hid (QW wt N O2 M S L (n+1) b2)/\Hid (∀q,O2 q->O q\/w.heap.size<=q)/\Hid (Ch O w wt)/\Hid (¬O2 E/\¬O2 T)/\Hid (Row wt E 40 2 (stp 0 0))/\Hid (Row wt T 40 2 (stp (k:Int) ce))/\Hid (b2.log=b.log/\r=(((k:Int),ce),0,{ b2 with log:=b.log++[((k:Int),ce)] })))
  case first=>
   by_cases hc0:ce=0
   ·subst hc0
    obtain⟨ed,ea,en,eu,hd32,hn255,hun,hkl,hO,hxE⟩:=HZ.out rfl
    obtain⟨er,f1,s1,hsp⟩:∃er f s,setB b (nmE k) (entS ed ea en (eu+1))=(er,{ b with fl:=f,st:=s }):=⟨_,_,_,rfl⟩
    have HEN:Hid (Calls Tryz.prog 75 #[fptr M,.int .i64 (k:Int)] W2 λe w'=>e=.returned (.tuple #[.agg (Ms.arr 35 (ecl k ed ea en)),.int .i64 (eu:Int),.int .i64 0])/\Below W2.heap.size W2 w'):=by
     have:=rentry_any HW2.out (k:Int)
     unfold entT at this
     rw[hO] at this
     exact this
    have HR5:Hid (r=if er≠0 then ((0,0),er,{ b with fl:=f1,st:=s1 }) else (((k:Int),0),0,{ b with fl:=f1,st:=s1,cand:=[],log:=b.log++[((k:Int),0)],last:=(k:Int),es:=b.es++[⟨4,Ms.sumD (l.getD k ⟨#[]⟩).data.toList,bootT⟩] })):=by
     show _=_
     rw[<-HRE.out,if_pos rfl,hxE]
     show(if (setB b (nmE k) (entS ed ea en (eu+1))).1≠0 then _ else _)=_
     rw[hsp]
    have HSP:=Hh hsp
    have t1:W2.cell? ⟨T,1,none⟩=some (.int .i64 0):=HT2.out.cell (i:=1) (by omega)
    have hwu:IntKind.i64.wrap ((eu:Int)+1)=((eu+1:Nat):Int):=by rw[IntWalk.i64_in _ ⟨by omega,by omega⟩];rfl
    have hst9:=λ(W:World)=>st34 (nE_row W) (k:Int) ed ea en
    clear HRE HZ HRT2 hO hxE hsp c22
    go_wp2_with fail
    refine HEN.out.mono ?_
    rintro e w3 ⟨rfl,b3⟩
    have HB4:Hid (Below W2.heap.size W2 (w3.alloc (.cells (Ms.arr 35 (ecl k ed ea en)) 34))):=b3.alloc b3.size _
    have HQ4:Hid (Row (w3.alloc (.cells (Ms.arr 35 (ecl k ed ea en)) 34)) w3.heap.size 34 35 (ecl k ed ea en)):=Row.ofList w3 _ _ _ 35 rfl
    have HQW:Hid (W2.heap.size<=w3.heap.size):=b3.size
    clear b3 HEN
    go_upto_region 7 with fail
    clear hst9 t1
    generalize w3.heap.size=Q at *
    generalize w3.alloc (.cells (Ms.arr 35 (ecl k ed ea en)) 34)=w4 at *
    have HB5:Hid (Below W2.heap.size W2 w4.drew):=HB4.out.drew
    have HW5:=Hh (HW2.out.below HB5.out)
    have S1:Hid (w4.drew.cell? ⟨M,0,none⟩=some (fptr S)/\Row w4.drew Q 34 35 (ecl k ed ea en)):=⟨HW5.out.c0,HQ4.out.drew⟩
    clear HB4 HQ4
    refine wp_region_pl (λ Y=>Y.cell? ⟨M,0,none⟩=some (fptr S)/\Row Y Q 34 35 (ecl k ed ea en)) ((0,0)::(1,0)::(2,0)::(3,0)::(4,0)::(6,0)::(7,0)::(8,0)::(5,1)::(9,1)::(10,1)::(11,0)::[]) (by kernel_rfl) (by kernel_rfl) ?_
    generalize w4.drew=w5 at *
    iterate 8 (apply wpP_go;rfl;rfl;exact S1.out;(rintro Y ⟨m0,r0⟩;have hld:=ld34 r0;go_simp;exact rfl);intro K hK;go_simp;refine hK _ ?_;clear hK K)
    have HNM:=Hh (rname_any k hk w5)
    apply wpP_one
    rfl
    intro K hK
    go_simp
    refine HNM.out.mono ?_
    rintro e w6 ⟨rfl,b6⟩
    have HB6:Hid (Below W2.heap.size W2 w6):=HB5.out.trans (b6.mono HB5.out.size)
    have HW6:=Hh (HW5.out.below b6)
    have S2:Hid (w6.cell? ⟨M,0,none⟩=some (fptr S)/\Row w6 Q 34 35 (ecl k ed ea en)):=⟨HW6.out.c0,S1.out.2.below b6 S1.out.2.lt⟩
    refine hK _ _ S2.out ?_
    clear hK K b6 HNM S1 HW5 HB5
    have HVL:Hid (Calls Tryz.prog 122 #[.agg (Ms.arr 35 (ecl k ed ea en)),.int .i64 ((eu+1:Nat):Int)] w6 λe w'=>e=.returned (.string (vlB ed ea en (eu+1)))/\Below w6.heap.size w6 w'):=rvalue_any k hd32 ea en (eu+1) hn255 (by omega) w6
    apply wpP_one
    rfl
    intro K hK
    go_simp
    refine HVL.out.mono ?_
    rintro e w7 ⟨rfl,b7⟩
    have HB7:Hid (Below W2.heap.size W2 w7):=HB6.out.trans (b7.mono HB6.out.size)
    have HW7:=Hh (HW6.out.below b7)
    have S3:Hid (w7.cell? ⟨M,0,none⟩=some (fptr S)/\Row w7 Q 34 35 (ecl k ed ea en)):=⟨HW7.out.c0,S2.out.2.below b7 S2.out.2.lt⟩
    refine hK _ _ S3.out ?_
    clear hK K b7 HVL S2 HW6 HB6
    have hset:=HW7.out.setB hb (ke:=nmB k) (va:=vlB ed ea en (eu+1)) (by rw[nmB_size];omega) (by rw[vlB_size hd32];omega) (nmB_list k) (vlB_list ed ea en (eu+1))
    rw[HSP.out] at hset
    have HST:=Hh hset
    have HR7:=Hh (HR2.out.below HB7.out HR2.out.lt)
    have HT7:=Hh (HT2.out.below HB7.out HT2.out.lt)
    have HV7:=Hh (HV2.out.below HB7.out)
    have HC7:Hid (Ch O w w7):=Ch.of_below (HBw.out.trans (HB7.out.mono HBw.out.size)) O
    have HS7:Hid (w.heap.size<=w7.heap.size):=HC7.out.size
    have HQO:Hid (¬O Q):=λq=>by have h1:=(HWW.out.oN Q q).2;have h2:=HQW.out;have h3:=HBw.out.size;omega
    clear hset
    apply wpP_one
    rfl
    intro K hK
    go_simp
    refine HST.out.mono ?_
    rintro e w8 ⟨rfl,hl⟩
    obtain⟨O1,q0,q2,q3⟩:=hl
    have S4:Hid (w8.cell? ⟨M,0,none⟩=some (fptr S)/\Row w8 Q 34 35 (ecl k ed ea en)):=⟨q2.c0,S3.out.2.ch q3 HQO.out⟩
    refine hK _ _ S4.out ?_
    clear hK K S3 HST HW7 HB7
    iterate 1 (apply wpP_go;rfl;rfl;exact S4.out;(rintro Y ⟨m0,r0⟩;have hld:=ld34 r0;go_simp;exact rfl);intro K hK;go_simp;refine hK _ ?_;clear hK K)
    refine wpP_done ?_
    have HQ0:Hid (∀q,O1 q->O q\/w.heap.size<=q):=λq hq=>(q0 q hq).imp id (λq=>Nat.le_trans HS7.out q)
    have HQ2:=Hh q2
    have HR8:=Hh (HR7.out.ch q3 HnE.out)
    have HT8:=Hh (HT7.out.ch q3 HnT.out)
    have HV8:=Hh (HV7.out.ch q3 HVO.out)
    have HC8:Hid (Ch O w w8):=HC7.out.trans q3
    have HnE1:Hid (¬O1 E):=λq=>by
     rcases q0 E q with h|h
     ·exact HnE.out h
     ·have h1:=HR7.out.lt;omega
    have HnT1:Hid (¬O1 T):=λq=>by
     rcases q0 T q with h|h
     ·exact HnT.out h
     ·have h1:=HT7.out.lt;omega
    have HVO1:Hid (∀g',(Value.slice va0 l.length vc0).ownBlock=some g'->¬O1 g'):=λg' hg' q=>by
     rcases q0 g' q with h|h
     ·exact HVO.out g' hg' h
     ·obtain⟨_,_,_,_,_,h3,_⟩:=HV7.out
      have:=h3 g' hg'
      omega
    clear S4 q0 q2 q3 HR7 HT7 HV7 HC7 HSP
    by_cases he0:er=0
    ·subst he0
     obtain⟨gi,oi,ci,e,_,_,hgi,hci⟩:=HV8.out.cellAt hkl
     injection e with e1 _ e3
     subst e1 e3
     have hgd:l.getD k ⟨#[]⟩=l[k]:=by rw[List.getD_eq_getElem?_getD,List.getElem?_eq_getElem hkl];rfl
     have HSZ:=Hh (HS.out _ (List.getElem_mem hkl))
     have e0:=HR5.out
     rw[if_neg (by simp),hgd] at e0
     have HRR:=Hh e0
     have hklI:(k:Int)<l.length:=by omega
     clear HR5 hgd e0
     generalize l[k]=img at *
     have HMS:=Hh ((HQ2.out.drew).measure 4 ⟨#[98,111,111,116]⟩ img (by omega) (by decide) hes HSZ.out)
     have S1:Hid (w8.drew.cell? ⟨M,1,none⟩=some (fptr L)/\w8.drew.cell? ⟨gi,oi+k,none⟩=some (.string img)):=⟨HQ2.out.c1,hci⟩
     have HnG:Hid (¬O1 gi):=HVO1.out gi rfl
     clear hci
     go_wp2_with fail
     refine wp_region_pl (λ Y=>Y.cell? ⟨M,1,none⟩=some (fptr L)/\Y.cell? ⟨gi,oi+k,none⟩=some (.string img)) ((0,0)::(1,0)::(2,0)::(3,0)::(4,0)::(5,0)::(6,0)::(7,0)::(8,1)::[]) (by kernel_rfl) (by kernel_rfl) ?_
     iterate 8 (apply wpP_go;rfl;rfl;exact S1.out;(rintro Y ⟨s0,s2⟩;go_simp;exact rfl);intro K hK;go_simp;refine hK _ ?_;clear hK K)
     apply wpP_one
     rfl
     intro K hK
     go_simp
     refine HMS.out.mono ?_
     rintro e w9 ⟨rfl,hl⟩
     obtain⟨O2,p0,p2,p3⟩:=hl
     have S3:Hid (w9.cell? ⟨M,1,none⟩=some (fptr L)/\w9.cell? ⟨gi,oi+k,none⟩=some (.string img)):=⟨p2.c1,(p3.cell ⟨gi,oi+k,none⟩ hgi HnG.out).trans S1.out.2⟩
     refine hK _ _ S3.out ?_
     clear hK K
     refine wpP_done ?_
     have f2:=p2.frz 2
     obtain⟨vc2,c2,_⟩:=p2.c2
     have hP1:=p2.setCand (u:=.slice none 0 0) (l':=[]) (RdI.nil _) (λ_ _ _ h=>(by cases h))
     have f4:=hP1.frz 4
     have c4:=hP1.c4
     have HWt:=Hh (hP1.setLast (k:Int))
     have hOM:O M:=HWW.out.OM
     have HRt:Hid (Row ((w9.setCell ⟨M,2,none⟩ (.slice none 0 0)).setCell ⟨M,4,none⟩ (.int .i64 (k:Int))) E 40 2 (stp 0 0)):=(((show Row w8.drew _ _ _ _ from HR8.out).ch p3 HnE1.out).far (λq=>HnE.out (by rw[q];exact hOM)) _).far (λq=>HnE.out (by rw[q];exact hOM)) _
     have HTt:Hid (Row ((w9.setCell ⟨M,2,none⟩ (.slice none 0 0)).setCell ⟨M,4,none⟩ (.int .i64 (k:Int))) T 40 2 (stp (k:Int) 0)):=(((show Row w8.drew _ _ _ _ from HT8.out).ch p3 HnT1.out).far (λq=>HnT.out (by rw[q];exact hOM)) _).far (λq=>HnT.out (by rw[q];exact hOM)) _
     have HCt:Hid (Ch O w ((w9.setCell ⟨M,2,none⟩ (.slice none 0 0)).setCell ⟨M,4,none⟩ (.int .i64 (k:Int)))):=(((HC8.out.drew).andThen p3 (λi hi hl=>(HQ0.out i hi).elim id (λq=>by omega))).setCell (p:=⟨M,2,none⟩) (λ_=>hOM) _).setCell (p:=⟨M,4,none⟩) (λ_=>hOM) _
     have HOt:Hid (∀q,O2 q->O q\/w.heap.size<=q):=λq hq=>by
      rcases p0 q hq with h|h
      ·exact HQ0.out q h
      ·right
       have h1:=HC8.out.size
       have h:w8.heap.size<=q:=h
       omega
     have HnT2:Hid (¬O2 E/\¬O2 T):=⟨λq=>(p0 E q).elim HnE1.out (λq=>by
      have h1:=HR8.out.lt
      have q:w8.heap.size<=E:=q
      omega),λq=>(p0 T q).elim HnT1.out (λq=>by
      have h1:=HT8.out.lt
      have q:w8.heap.size<=T:=q
      omega)⟩
     clear S1 S3 HMS p0 p2 p3 hP1
     go_wp2_with fail
     go_meet
     exact⟨_,O2,HWt,HOt,HCt,HnT2,HRt,HTt,rfl,HRR.out⟩
    ·have heb:(er != 0)=true:=by rw[bne_iff_ne];exact he0
     have e0:=HR5.out
     rw[if_pos he0] at e0
     subst e0
     clear HR5
     have z0:w8.cell? ⟨E,0,none⟩=some (.int .i64 0):=HR8.out.cell (i:=0) (by omega)
     have z1:w8.cell? ⟨E,1,none⟩=some (.int .i64 0):=HR8.out.cell (i:=1) (by omega)
     have fz0:=HR8.out.frozen 0
     have fz1:=HR8.out.frozen 1
     have HRF:=Hh (((HR8.out.set (i:=0) (by omega) (.int .i64 0)).set (i:=1) (by omega) (.int .i64 0)).congr (v':=stp 0 0) (λj hj=>by
      rcases(by omega:j=0\/j=1) with e|e<;>subst e<;>rfl))
     have HCF:Hid (Ch O w ((w8.setCell ⟨E,0,none⟩ (.int .i64 0)).setCell ⟨E,1,none⟩ (.int .i64 0))):=(HC8.out.setCell (p:=⟨E,0,none⟩) (λq=>by have h1:E<w.heap.size:=q;have:=HE.out;omega) _).setCell (p:=⟨E,1,none⟩) (λq=>by have h1:E<w.heap.size:=q;have:=HE.out;omega) _
     have HPF:=Hh (HQ2.out.ch (((Ch.refl (λq=>q=E) w8).setCell (p:=⟨E,0,none⟩) (λ_=>rfl) (.int .i64 0)).setCell (p:=⟨E,1,none⟩) (λ_=>rfl) (.int .i64 0)) (λq hq=>by
      subst hq
      exact⟨HnE1.out,by have:=HWW.out.pos;have:=HE.out;omega⟩))
     go_wp2_with fail
     exact bodyPost_ret (v:=.tuple #[.agg #[.int .i64 0,.int .i64 0],.int .i64 er]) (res2 rfl _ _ E #[.int .i64 0,.int .i64 0] _ rfl rfl (ret40 HRF.out)) rfl ⟨rfl,_,HQ0.out,HPF.out,HCF.out⟩
   ·have hcb:(ce==0)=false:=by simpa using hc0
    have HRR:Hid (r=(((k:Int),ce),0,{ b with cand:=cr,log:=b.log++[((k:Int),ce)] })):=by show _=_;rw[<-HRE.out,if_neg hc0]
    have t1:W2.cell? ⟨T,1,none⟩=some (.int .i64 ce):=HT2.out.cell (i:=1) (by omega)
    have f2:=HW2.out.frz 2
    obtain⟨o2,d2,hA,hB,hR⟩:∃o2 d2,(c=1->o2=o/\d2=0)/\(c≠1->o2=o+1/\d2=c-1)/\RdI W2 (.slice (some ⟨g,o2,none⟩) cr.length d2) cr:=by
     by_cases h:c=1
     ·have hcr:cr=[]:=List.eq_nil_of_length_eq_zero (by omega)
      subst hcr
      refine⟨o,0,λ_=>⟨rfl,rfl⟩,λq=>absurd h q,_,_,rfl,Nat.le_refl _,by unfold maxLen;omega,λq hq=>?_,λq=>absurd rfl q⟩
      obtain⟨_,_,_,_,_,h3,_⟩:=HRT2.out
      exact h3 q hq
     ·exact⟨o+1,c-1,λq=>absurd q h,λ_=>⟨rfl,rfl⟩,HRT2.out⟩
    have hnt:=HW2.out.setCand (u:=.slice (some ⟨g,o2,none⟩) cr.length d2) hR (λvc hvc g' hg'=>by
     rw[c22] at hvc
     injection hvc with hvc
     rw[<-hvc]
     exact hg')
    have HWt:=Hh (hnt.mono (Nat.le_succ n))
    have HRt:Hid (Row (W2.setCell ⟨M,2,none⟩ (.slice (some ⟨g,o2,none⟩) cr.length d2)) E 40 2 (stp 0 0)):=HR2.out.far (by
     intro q
     exact HnE.out (by rw[q];exact HWW.out.OM)) _
    have HTt:Hid (Row (W2.setCell ⟨M,2,none⟩ (.slice (some ⟨g,o2,none⟩) cr.length d2)) T 40 2 (stp (k:Int) ce)):=HT2.out.far (by
     intro q
     exact HnT.out (by rw[q];exact HWW.out.OM)) _
    have HCt:Hid (Ch O w (W2.setCell ⟨M,2,none⟩ (.slice (some ⟨g,o2,none⟩) cr.length d2))):=(Ch.of_below HBw.out O).setCell (p:=⟨M,2,none⟩) (λ_=>HWW.out.OM) _
    have HOt:Hid (∀q,O q->O q\/w.heap.size<=q):=λq hq=>.inl hq
    clear hnt HRE HZ HRT2 HV2 hR
    by_cases h:c=1
    ·obtain⟨rfl,rfl⟩:=hA h
     subst h
     have hcr:cr=[]:=List.eq_nil_of_length_eq_zero (by omega)
     subst hcr
     clear hA hB
     go_wp2_with fail
     go_meet
     exact⟨_,O,HWt,HOt,HCt,Hh (And.intro HnE.out HnT.out),HRt,HTt,rfl,HRR.out⟩
    ·obtain⟨rfl,rfl⟩:=hB h
     clear hA hB
     have hcI:¬(c:Int)-1=0:=by omega
     have hcN:c-1≠0:=by omega
     go_wp2_with fail
     go_meet
     exact⟨_,O,HWt,HOt,HCt,Hh (And.intro HnE.out HnT.out),HRt,HTt,rfl,HRR.out⟩
  case rest=>
   clear HW2 HR2 HT2 HV2 HRT2 HRE HZ c22 HVC HVCO
   obtain⟨b2,O2,HWt,HOt,HCt,HnO,HRt,HTt,HBR⟩:=hcut
   obtain⟨vl,c3,hvl,hvlO⟩:=HWt.out.c3
   have hlog:=HBR.out.1
   have hrr:=HBR.out.2
   subst hrr
   rw[hlog] at hvl
   obtain⟨va,vcap,rfl⟩:=Ms.own_len hvl
   obtain⟨ll,hll⟩:∃n,b.log.length=n:=⟨_,rfl⟩
   have HLL:=Hh hll
   have hll2:ll<=1000:=by rw[<-hll];exact hlg
   have HVL:=Hh hvl
   rw[hll] at c3 hvlO HVL
   have HVLO:=Hh hvlO
   obtain⟨i0,hi0,hz0,hz1,hz2⟩:=info_parts Tryz.infoSt
   have HW1:=Hh (HWt.out.drew)
   have HR1:Hid (Row wc.drew E 40 2 (stp 0 0)):=HRt.out.drew
   have HT1:Hid (Row wc.drew T 40 2 (stp (k:Int) ce)):=HTt.out.drew
   have HC1:Hid (Ch O w wc.drew):=HCt.out.drew
   have HV1:Hid (wc.drew.ownsRow N 40 2 (.slice va ll vcap) ll (stv b.log)):=ownN_ch HVL.out (Ch.refl (λ_=>False) wc).drew (λ_ _ h=>h)
   have S1:Hid (wc.drew.cell? ⟨M,3,none⟩=some (.slice va ll vcap)/\wc.drew.cell? ⟨T,0,none⟩=some (.int .i64 (k:Int))/\wc.drew.cell? ⟨T,1,none⟩=some (.int .i64 ce)):=⟨c3,HTt.out.cell (i:=0) (by omega),HTt.out.cell (i:=1) (by omega)⟩
   clear hvl hvlO hll c3 HBR HWt HRt HTt HCt HVL
   go_wp2_with fail
   refine wp_region_pl (λ Y=>Y.cell? ⟨M,3,none⟩=some (.slice va ll vcap)/\Y.cell? ⟨T,0,none⟩=some (.int .i64 (k:Int))/\Y.cell? ⟨T,1,none⟩=some (.int .i64 ce)) ((0,0)::(1,0)::(2,0)::(3,0)::(4,0)::(5,0)::(6,1)::(7,1)::(8,1)::(9,1)::(10,2)::[]) (by kernel_rfl) (by kernel_rfl) ?_
   generalize wc.drew=w1 at *
   iterate 6 (apply wpP_go;rfl;rfl;exact S1.out;(rintro Y ⟨s0,s1,s2⟩;go_simp;exact rfl);intro K hK;go_simp;refine hK _ ?_;clear hK K)
   have HB12:Hid (Below w1.heap.size w1 (w1.alloc (.cells #[.int .i64 (k:Int),.int .i64 ce] 40))):=(Below.refl _ _).alloc (Nat.le_refl _) _
   have HW12:=Hh (HW1.out.below HB12.out)
   have HR12:=Hh (HR1.out.below HB12.out HR1.out.lt)
   have HT12:=Hh (HT1.out.below HB12.out HT1.out.lt)
   have HC12:Hid (Ch O w (w1.alloc (.cells #[.int .i64 (k:Int),.int .i64 ce] 40))):=HC1.out.alloc _
   have S2:Hid ((w1.alloc (.cells #[.int .i64 (k:Int),.int .i64 ce] 40)).cell? ⟨M,3,none⟩=some (.slice va ll vcap)/\(w1.alloc (.cells #[.int .i64 (k:Int),.int .i64 ce] 40)).cell? ⟨T,0,none⟩=some (.int .i64 (k:Int))/\(w1.alloc (.cells #[.int .i64 (k:Int),.int .i64 ce] 40)).cell? ⟨T,1,none⟩=some (.int .i64 ce)):=⟨(HB12.out.cell (p:=⟨M,3,none⟩) HW1.out.M_lt).trans S1.out.1,HT12.out.cell (i:=0) (by omega),HT12.out.cell (i:=1) (by omega)⟩
   have HV12:Hid ((w1.alloc (.cells #[.int .i64 (k:Int),.int .i64 ce] 40)).ownsRow N 40 2 (.slice va ll vcap) ll (stv b.log)):=ownN_ch HV1.out ((Ch.refl (λ_=>False) w1).alloc _) (λ_ _ h=>h)
   have HN12:Hid (∀j u,([.int .i64 (k:Int),.int .i64 ce]:List Value)[j]? = some u->(w1.alloc (.cells #[.int .i64 (k:Int),.int .i64 ce] 40)).cell? ((⟨w1.heap.size,0,none⟩:Addr).add j)=some u):=World.news_of_block (heap_alloc_new w1 _) |> λh=>h
   have HON:Hid (∀u∈([.int .i64 (k:Int),.int .i64 ce]:List Value),u.oneCell'=true):=λu hu=>by
    rcases List.mem_cons.1 hu with rfl|hu
    ·rfl
    ·rw[List.mem_singleton.1 hu];rfl
   have HNl:Hid (N<=w1.heap.size):=HW1.out.N_le
   have f3:=HW12.out.frz 3
   apply wpP_one
   rfl
   intro K hK
   go_simp
   refine hK _ _ S2.out ?_
   clear hK K
   apply wpP_one
   rfl
   intro K hK
   refine step_append_lies _ (by rfl) _ _ _ (by rfl) N 40 i0 _ 2 16 Tryz.underlying96 hi0 hz0 hz1 hz2 (by kernel_rfl) (by omega) (.slice va ll vcap) ll (stv b.log) (by rfl) HV12.out
    ⟨w1.heap.size,0,none⟩ 1 1 ([.int .i64 (k:Int),.int .i64 ce]:List Value) (by rfl) (by rfl) HN12.out HON.out (by omega) (by simp only[maxLen];omega) (by omega) (by simp;have:=HNl.out;omega) (w1.heap.size+1) (by simp) ?_
   intro g2 cap2 w5 hown5 hgrow5 hat5 hlt5
   have hc5:Ch (λq=>(Value.slice va ll vcap).ownBlock=some q) (w1.alloc (.cells #[.int .i64 (k:Int),.int .i64 ce] 40)) w5:=Ch.of_grown hgrow5 (λq hq _=>hq)
   have hvT:¬(Value.slice va ll vcap).ownBlock=some T:=λq=>HnO.out.2 (HVLO.out T q).1
   have hvE:¬(Value.slice va ll vcap).ownBlock=some E:=λq=>HnO.out.1 (HVLO.out E q).1
   have hvM:¬(Value.slice va ll vcap).ownBlock=some M:=λq=>(HVLO.out M q).2 rfl
   have HR5:=Hh (HR12.out.ch hc5 hvE)
   have HT5:=Hh (HT12.out.ch hc5 hvT)
   have S5:Hid (w5.cell? ⟨M,3,none⟩=some (.slice va ll vcap)/\w5.cell? ⟨T,0,none⟩=some (.int .i64 (k:Int))/\w5.cell? ⟨T,1,none⟩=some (.int .i64 ce)):=⟨(hc5.cell ⟨M,3,none⟩ HW12.out.M_lt hvM).trans S2.out.1,HT5.out.cell (i:=0) (by omega),HT5.out.cell (i:=1) (by omega)⟩
   have f35:w5.frozen? ⟨M,3,none⟩=false:=(hc5.frozen ⟨M,3,none⟩ HW12.out.M_lt hvM).trans f3
   have HU:Hid (∀q,(Value.slice (some ⟨g2,0,none⟩) (ll+1) cap2).ownBlock=some q->O2 q\/w1.heap.size<=q):=λq hq=>by
    have e:g2=q:=by simpa[Value.ownBlock] using hq
    rw[<-e]
    rcases hat5 with h|h
    ·exact .inl (HVLO.out g2 h).1
    ·exact .inr (by omega)
   have HP:=Hh (HW12.out.pushLog (u:=(.slice (some ⟨g2,0,none⟩) (ll+1) cap2)) (l':=b.log++[((k:Int),ce)]) S2.out.1 hgrow5 (by rw[stv_snoc,List.length_append,HLL.out];exact hown5) (λq hq=>by
    have e:g2=q:=by simpa[Value.ownBlock] using hq
    rw[<-e]
    rcases hat5 with h|h
    ·exact .inl h
    ·exact .inr (by rw[h];simp)))
   have HR6:Hid (Row (w5.setCell ⟨M,3,none⟩ (.slice (some ⟨g2,0,none⟩) (ll+1) cap2)) E 40 2 (stp 0 0)):=HR5.out.far (λq=>HnE.out (by rw[q];exact HWW.out.OM)) _
   have HT6:Hid (Row (w5.setCell ⟨M,3,none⟩ (.slice (some ⟨g2,0,none⟩) (ll+1) cap2)) T 40 2 (stp (k:Int) ce)):=HT5.out.far (λq=>HnT.out (by rw[q];exact HWW.out.OM)) _
   have HC6:Hid (Ch O w (w5.setCell ⟨M,3,none⟩ (.slice (some ⟨g2,0,none⟩) (ll+1) cap2))):=(HC12.out.andThen hc5 (λi hi hl=>(HOt.out i (HVLO.out i hi).1).elim id (λq=>by omega))).setCell (p:=⟨M,3,none⟩) (λ_=>HWW.out.OM) _
   have HS1:Hid (w.heap.size<=w1.heap.size):=HC1.out.size
   have HE1:Hid (E<w1.heap.size):=HR1.out.lt
   go_simp
   refine hK _ _ S5.out ?_
   clear hK K
   iterate 2 (apply wpP_one;rfl;intro K hK;go_simp;refine hK _ _ S5.out ?_;clear hK K)
   have c35:=S5.out.1
   apply wpP_two
   rfl
   intro K hK
   go_simp
   refine hK _ _ ?_
   clear hK K
   refine wpP_done ?_
   clear S1 S2 S5 f35 f3 c35 HW1 HR1 HT1 HC1 HV1 HB12 HW12 HR12 HT12 HC12 HV12 HN12 HON hown5 hgrow5 hat5 hlt5 hc5 hvT hvE hvM HR5 HT5
   generalize w5.setCell ⟨M,3,none⟩ (.slice (some ⟨g2,0,none⟩) (ll+1) cap2)=W6 at *
   have t0:W6.cell? ⟨T,0,none⟩=some (.int .i64 (k:Int)):=HT6.out.cell (i:=0) (by omega)
   have t1:W6.cell? ⟨T,1,none⟩=some (.int .i64 ce):=HT6.out.cell (i:=1) (by omega)
   have z0:W6.cell? ⟨E,0,none⟩=some (.int .i64 0):=HR6.out.cell (i:=0) (by omega)
   have z1:W6.cell? ⟨E,1,none⟩=some (.int .i64 0):=HR6.out.cell (i:=1) (by omega)
   have fz0:=HR6.out.frozen 0
   have fz1:=HR6.out.frozen 1
   have HRF:=Hh (((HR6.out.set (i:=0) (by omega) (.int .i64 (k:Int))).set (i:=1) (by omega) (.int .i64 ce)).congr (v':=stp (k:Int) ce) (λj hj=>by
    rcases(by omega:j=0\/j=1) with e|e<;>subst e<;>rfl))
   have HCF:Hid (Ch O w ((W6.setCell ⟨E,0,none⟩ (.int .i64 (k:Int))).setCell ⟨E,1,none⟩ (.int .i64 ce))):=(HC6.out.setCell (p:=⟨E,0,none⟩) (λq=>by have h1:E<w.heap.size:=q;have:=HE.out;omega) _).setCell (p:=⟨E,1,none⟩) (λq=>by have h1:E<w.heap.size:=q;have:=HE.out;omega) _
   have HPF:=Hh (HP.out.ch (((Ch.refl (λq=>q=E) W6).setCell (p:=⟨E,0,none⟩) (λ_=>rfl) (.int .i64 (k:Int))).setCell (p:=⟨E,1,none⟩) (λ_=>rfl) (.int .i64 ce)) (λq hq=>by
    subst hq
    refine⟨λh=>?_,by have:=HWW.out.pos;have:=HE.out;omega⟩
    rcases h with h|h
    ·exact HnO.out.1 h
    ·rcases HU.out _ h with h|h
     ·exact HnO.out.1 h
     ·have:=HE1.out;omega))
   have HOF:Hid (∀q,(O2 q\/(Value.slice (some ⟨g2,0,none⟩) (ll+1) cap2).ownBlock=some q)->O q\/w.heap.size<=q):=λq hq=>by
    rcases hq with h|h
    ·exact HOt.out q h
    ·rcases HU.out q h with h|h
     ·exact HOt.out q h
     ·right
      have:=HS1.out;omega
   go_wp2_with fail
   exact bodyPost_ret (v:=.tuple #[.agg #[.int .i64 (k:Int),.int .i64 ce],.int .i64 0]) (res2 rfl _ _ E #[.int .i64 (k:Int),.int .i64 ce] _ rfl rfl (ret40 HRF.out)) rfl ⟨rfl,_,HOF.out,HPF.out,HCF.out⟩
end
end
def im5:List ByteArray:=[kern,⟨#[107,101,114,110,101,108,32,50]⟩,⟨#[114,101,99,111,118,101,114,121]⟩,⟨#[0]⟩,kern]
def imgL (c:BC):List ByteArray:=(im5.set (mo c.id 5) (imgB c.im)).take (mo c.tr 3+3)
theorem imgL_len (c:BC):(imgL c).length=mo c.tr 3+3:=by
 have h3:mo c.tr 3<3:=mo_lt c.tr 3 (by omega)
 unfold imgL
 rw[List.length_take,List.length_set]
 show min _ 5=_
 omega
theorem imgL_size (c:BC):∀x∈imgL c,x.size<=1073741824:=by
 intro x hx
 have h1:=List.mem_of_mem_take hx
 rcases List.mem_or_eq_of_mem_set h1 with h2|rfl
 ·have:∀y∈im5,y.size<=1073741824:=by decide
  exact this x h2
 ·have:=imgB_size c.im;omega
theorem images_any (c:BC)(w:World):Calls Tryz.prog 26 #[cBa c] w λe w'=>∃g,e=.returned (.slice (some ⟨g,0,none⟩) (mo c.tr 3+3) 5)/\w.heap.size<=g/\RdT w' (.slice (some ⟨g,0,none⟩) (mo c.tr 3+3) 5) (imgL c)/\Below w.heap.size w w':=by
 have HFIN:Hid (∀W G,w.heap.size<=G->Row W G 9 5 (upd (λi=>.string (im5.getD i ⟨#[]⟩)) (mo c.id 5) (.string (imgB c.im)))->RdT W (.slice (some ⟨G,0,none⟩) (mo c.tr 3+3) 5) (imgL c)):=λ W G hG hR=>by
  have hl:=imgL_len c
  have h3:mo c.tr 3<3:=mo_lt c.tr 3 (by omega)
  refine⟨some ⟨G,0,none⟩,5,by rw[hl],by rw[hl];omega,by unfold maxLen;omega,λg hg=>?_,λ_=>⟨G,0,rfl,λi x hx=>?_⟩⟩
  ·have e:G=g:=by simpa[Value.ownBlock] using hg
   rw[<-e];exact hR.lt
  ·have hi:i<(imgL c).length:=(List.getElem?_eq_some_iff.1 hx).1
   rw[hl] at hi
   rw[Nat.zero_add,hR.cell (i:=i) (by omega)]
   unfold imgL at hx
   rw[List.getElem?_take,if_pos hi,List.getElem?_set] at hx
   unfold upd
   by_cases e:i=mo c.id 5
   ·subst e
    rw[if_pos rfl] at hx
    rw[if_pos rfl]
    have:mo c.id 5<im5.length:=by show _<5;omega
    rw[if_pos this] at hx
    injection hx with hx
    rw[hx]
   ·rw[if_neg (λq=>e q.symm)] at hx
    rw[if_neg e]
    show some (Value.string (im5.getD i ⟨#[]⟩))=_
    rw[List.getD_eq_getElem?_getD,hx]
    rfl
 obtain⟨im,him⟩:∃im,imgB c.im=im:=⟨_,rfl⟩
 have HIM:Hid (∀W,Calls Tryz.prog 66 #[.int .i64 c.im] W λe w'=>e=.returned (.string im)/\W=w'):=λ W=>by rw[<-him];exact image_any c.im W
 have HI1:Hid (∀W,Calls Tryz.prog 66 #[.int .i64 1] W λe w'=>e=.returned (.string ⟨#[107,101,114,110,101,108]⟩)/\W=w'):=λ W=>image_any 1 W
 have HI2:Hid (∀W,Calls Tryz.prog 66 #[.int .i64 2] W λe w'=>e=.returned (.string ⟨#[107,101,114,110,101,108,32,50]⟩)/\W=w'):=λ W=>image_any 2 W
 have HI3:Hid (∀W,Calls Tryz.prog 66 #[.int .i64 3] W λe w'=>e=.returned (.string ⟨#[114,101,99,111,118,101,114,121]⟩)/\W=w'):=λ W=>image_any 3 W
 have HI4:Hid (∀W,Calls Tryz.prog 66 #[.int .i64 4] W λe w'=>e=.returned (.string ⟨#[0]⟩)/\W=w'):=λ W=>image_any 4 W
 have HM5:Hid (∀W,Calls Tryz.prog 11 #[.int .i64 c.id,.int .i64 5] W λe w'=>e=.returned (.int .i64 ((mo c.id 5:Nat):Int))/\W=w'):=λ W=>mod_any c.id 5 W (by omega) (by omega)
 have HM3:Hid (∀W,Calls Tryz.prog 11 #[.int .i64 c.tr,.int .i64 3] W λe w'=>e=.returned (.int .i64 ((mo c.tr 3:Nat):Int))/\W=w'):=λ W=>mod_any c.tr 3 W (by omega) (by omega)
 have hk:mo c.id 5<5:=mo_lt c.id 5 (by omega)
 have hq:mo c.tr 3<3:=mo_lt c.tr 3 (by omega)
 rw[him] at HFIN
 generalize imgL c=L at *
 generalize mo c.id 5=k at *
 generalize mo c.tr 3=q at *
 have hkI:(k:Int)<5:=by omega
 clear him
 unfold cBa
 have HX:Hid (CX (w.alloc (.cells #[.int .i64 c.kd,.int .i64 c.id,.int .i64 c.im,.int .i64 c.tr,c.ol,.bool c.ina,.bool c.raw] 54)) w.heap.size 0 c):=CX.made w c
 have HB:Hid (Below w.heap.size w (w.alloc (.cells #[.int .i64 c.kd,.int .i64 c.id,.int .i64 c.im,.int .i64 c.tr,c.ol,.bool c.ina,.bool c.raw] 54))):=(Below.refl _ _).alloc (Nat.le_refl _) _
 go_enter Tryz.func26,Tryz.ntmps26
 go_upto_region 1 with fail
 generalize (w.alloc (.cells #[.int .i64 c.kd,.int .i64 c.id,.int .i64 c.im,.int .i64 c.tr,c.ol,.bool c.ina,.bool c.raw] 54))=W1 at *
 obtain⟨T,hT⟩:∃T,w.heap.size=T:=⟨_,rfl⟩
 have HT:=Hh hT
 rw[hT] at HX ⊢
 clear hT
 have HX2:Hid (CX (W1.alloc (.cells #[.string ⟨#[107,101,114,110,101,108]⟩,.string ⟨#[107,101,114,110,101,108,32,50]⟩,.string ⟨#[114,101,99,111,118,101,114,121]⟩,.string ⟨#[0]⟩,.string ⟨#[107,101,114,110,101,108]⟩] 9)) T 0 c):=HX.out.below ((Below.refl _ _).alloc (Nat.le_refl _) _) HX.out.lt
 have HB2:Hid (Below w.heap.size w (W1.alloc (.cells #[.string ⟨#[107,101,114,110,101,108]⟩,.string ⟨#[107,101,114,110,101,108,32,50]⟩,.string ⟨#[114,101,99,111,118,101,114,121]⟩,.string ⟨#[0]⟩,.string ⟨#[107,101,114,110,101,108]⟩] 9))):=HB.out.alloc HB.out.size _
 have HR2:Hid (Row (W1.alloc (.cells #[.string ⟨#[107,101,114,110,101,108]⟩,.string ⟨#[107,101,114,110,101,108,32,50]⟩,.string ⟨#[114,101,99,111,118,101,114,121]⟩,.string ⟨#[0]⟩,.string ⟨#[107,101,114,110,101,108]⟩] 9)) W1.heap.size 9 5 (λi=>.string (im5.getD i ⟨#[]⟩))):=Row.ofList W1 9 _ _ 5 rfl
 have hTG:T<W1.heap.size:=HX.out.lt
 clear HX HB
 go_wp2_with fail
 refine(HI1.out _).mono ?_
 rintro e w' ⟨rfl,rfl⟩
 go_wp2_with fail
 refine(HI2.out _).mono ?_
 rintro e w' ⟨rfl,rfl⟩
 go_wp2_with fail
 refine(HI3.out _).mono ?_
 rintro e w' ⟨rfl,rfl⟩
 go_wp2_with fail
 refine(HI4.out _).mono ?_
 rintro e w' ⟨rfl,rfl⟩
 go_wp2_with fail
 refine(HI1.out _).mono ?_
 rintro e w' ⟨rfl,rfl⟩
 go_wp2_with fail
 generalize W1.alloc (.cells #[.string ⟨#[107,101,114,110,101,108]⟩,.string ⟨#[107,101,114,110,101,108,32,50]⟩,.string ⟨#[114,101,99,111,118,101,114,121]⟩,.string ⟨#[0]⟩,.string ⟨#[107,101,114,110,101,108]⟩] 9)=W2 at *
 generalize W1.heap.size=G at *
 have S0:Hid (CX W2.drew T 0 c):=HX2.out.below ((Below.refl _ _).drew) HX2.out.lt
 have HB0:Hid (Below w.heap.size w W2.drew):=HB2.out.drew
 have HR0:Hid (Row W2.drew G 9 5 (λi=>.string (im5.getD i ⟨#[]⟩))):=HR2.out.drew
 clear HX2 HB2 HR2
 refine wp_region_ptw (λ Y=>CX Y T 0 c) (.one 0 0 (.one 1 0 (.one 2 0 (.one 4 0 (.one 5 0 (.one 3 0 (.one 6 0 (.one 7 1 (.one 8 1 .nil))))))))) (by kernel_rfl) (by kernel_rfl) ?_
 generalize W2.drew=W3 at *
 iterate 5 (apply wpTw_go;rfl;rfl;exact S0.out;(rintro Y ⟨c0,c1,c2,c3,c4,c5,c6,_⟩;go_simp;exact rfl);intro K hK;go_simp;refine hK _ ?_;clear hK K)
 refine wpTw_call rfl rfl S0.out (.int .i64 ((k:Nat):Int)) 11 #[.int .i64 c.id,.int .i64 5] (by intro X hX;go_simp) (λ X _=>HM5.out X) ?_
 intro K hK
 go_simp
 refine hK _ ?_
 clear hK K
 refine wpTw_call rfl rfl S0.out (.string im) 66 #[.int .i64 c.im] (by intro X hX;go_simp) (λ X _=>HIM.out X) ?_
 intro K hK
 go_simp
 refine hK _ ?_
 clear hK K
 apply wpTw_one
 rfl
 intro K hK
 go_simp
 refine hK _ _ S0.out ?_
 clear hK K
 have ck:=HR0.out.cell hk
 have fk:=HR0.out.frozen k
 have S1:Hid (CX (W3.setCell ⟨G,k,none⟩ (.string im)) T 0 c):=S0.out.below ((Below.refl G W3).setCell (p:=⟨G,k,none⟩) (Nat.le_refl _) _) hTG
 have HB1:Hid (Below w.heap.size w (W3.setCell ⟨G,k,none⟩ (.string im))):=HB0.out.setCell (p:=⟨G,k,none⟩) (by have:=HT.out;show _<=G;omega) _
 have HR1:Hid (Row (W3.setCell ⟨G,k,none⟩ (.string im)) G 9 5 (upd (λi=>.string (im5.getD i ⟨#[]⟩)) k (.string im))):=HR0.out.set hk _
 apply wpTw_one
 rfl
 intro K hK
 go_simp
 refine hK _ _ S1.out ?_
 clear hK K
 refine wpTw_done ?_
 have HRD:Hid (RdT (W3.setCell ⟨G,k,none⟩ (.string im)) (.slice (some ⟨G,0,none⟩) (q+3) 5) L):=HFIN.out _ _ (by have:=HT.out;omega) HR1.out
 clear S0 HB0 HR0 HR1 HFIN ck fk
 generalize W3.setCell ⟨G,k,none⟩ (.string im)=W4 at *
 have c3:=S1.out.c3
 have hwq:IntKind.i64.wrap ((q:Int)+3)=((q+3:Nat):Int):=by rw[IntWalk.i64_in _ ⟨by omega,by omega⟩];omega
 have hq5:((q+3:Nat):Int)<=5:=by omega
 have hq5n:q+3<=5:=by omega
 go_wp2_with fail
 refine(HM3.out _).mono ?_
 rintro e w' ⟨rfl,rfl⟩
 go_wp2_with fail
 go_ret
 exact⟨G,rfl,by have:=HT.out;omega,HRD.out,HB1.out⟩
def ordStep (out:List Int)(x:Int):List Int:=if ((mo x 5:Nat):Int)∈out then out else out++[((mo x 5:Nat):Int)]
def ordF (l:List Int):List Int:=l.foldl ordStep []
theorem ordF_step {l:List Int}{i:Nat}(hi:i<l.length):ordF (l.take (i+1))=ordStep (ordF (l.take i)) l[i]:=by
 unfold ordF
 rw[List.take_succ_eq_append_getElem hi,List.foldl_append]
 rfl
theorem foldS_len:∀(l out:List Int),(l.foldl ordStep out).length<=out.length+l.length
 | [],out=>by simp
 | x::r,out=>by
  have h:=foldS_len r (ordStep out x)
  have h2:(ordStep out x).length<=out.length+1:=by
   unfold ordStep
   split
   ·omega
   ·simp
  simp only[List.foldl_cons,List.length_cons]
  omega
theorem ordF_len (l:List Int):(ordF l).length<=l.length:=by have:=foldS_len l [];simpa[ordF] using this
def ordC (c:BC):List Int:=if c.raw=true then c.od else ordF c.od
theorem cord_any (c:BC)(w:World)(hrd:RdJ w c.ol c.od)(hlen:c.od.length<=20):Calls Tryz.prog 63 #[cBa c] w λe w'=>∃v,e=.returned v/\RdJ w' v (ordC c)/\Below w.heap.size w w':=by
 obtain⟨kd,id,im,tr,ol,od,ina,raw⟩:=c
 replace hrd:RdJ w ol od:=hrd
 have hX:=CX.made w ⟨kd,id,im,tr,ol,od,ina,raw⟩
 have HB:Hid (Below w.heap.size w (w.alloc (.cells #[.int .i64 kd,.int .i64 id,.int .i64 im,.int .i64 tr,ol,.bool ina,.bool raw] 54))):=(Below.refl _ _).alloc (Nat.le_refl _) _
 have HRD:Hid (RdJ (w.alloc (.cells #[.int .i64 kd,.int .i64 id,.int .i64 im,.int .i64 tr,ol,.bool ina,.bool raw] 54)) ol od):=hrd.below HB.out (Nat.le_refl _)
 have HSZ:Hid ((w.alloc (.cells #[.int .i64 kd,.int .i64 id,.int .i64 im,.int .i64 tr,ol,.bool ina,.bool raw] 54)).heap.size=w.heap.size+1):=by show _=_;simp
 have hl:od.length<=20:=hlen
 obtain⟨a,cp,rfl,hcp,hcpm⟩:=hrd.shape
 clear hrd hlen
 unfold ordC
 unfold cBa
 simp only at hX ⊢
 have HX:=Hh hX
 clear hX
 obtain⟨n,hn⟩:∃n,od.length=n:=⟨_,rfl⟩
 have HN:=Hh hn
 rw[hn] at HRD HX HB HSZ hl hcp ⊢
 clear hn
 obtain⟨i0,hi0,hz0,hz1,hz2⟩:=info_parts Tryz.infoInt
 cases raw
 ·simp only[Bool.false_eq_true,if_false]
  go_enter Tryz.func63,Tryz.ntmps63
  go_upto_region 1 with fail
  generalize (w.alloc (.cells #[.int .i64 kd,.int .i64 id,.int .i64 im,.int .i64 tr,.slice a n cp,.bool ina,.bool false] 54))=W1 at *
  obtain⟨T,hT⟩:∃T,w.heap.size=T:=⟨_,rfl⟩
  have HT:=Hh hT
  rw[hT] at HX HSZ ⊢
  clear hT
  have c6:=HX.out.c6
  go_wp2_with fail
  have HO0:Hid (OwI W1 (T+1) (.slice none 0 0) (ordF (od.take 0))):=by
   show World.ownsRow _ _ _ _ _ _ _
   exact⟨rfl,.inl ⟨rfl,rfl⟩⟩
  go_loopw [3,4] (λx z wr=>∃i:Nat,i<=n/\z=.int .i64 (i:Int)/\Hid (OwI wr (T+1) x (ordF (od.take i)))/\Hid (Below (T+1) W1 wr)) (λ_ z _=>n-(intOf z).toNat)
  case atStart=>exact⟨0,by omega,rfl,HO0,Below.refl _ _⟩
  case round=>
   clear HO0 c6
   obtain⟨i,hi,rfl,HO,HB1⟩:=hrel
   obtain⟨xa,xc,rfl⟩:=Ms.own_len HO.out
   have c4:=(HX.out.below HB1.out (Nat.lt_succ_self T)).c4
   have hsw:T+1<=wr.heap.size:=by have:=HB1.out.size;have:=HSZ.out;omega
   by_cases hlt:i<n
   ·have y0:(i:Int)<n:=by omega
    have hil:i<od.length:=by rw[HN.out];exact hlt
    obtain⟨g,o,c',e,_,_,hc⟩:=(HRD.out.below HB1.out (by have:=HSZ.out;omega)).cellAt hil
    rw[HN.out] at e
    injection e with e1 _ e3
    subst e1 e3
    have HST:=Hh (ordF_step hil)
    have hol:(ordF (od.take i)).length<=20:=by have:=ordF_len (od.take i);rw[List.length_take] at this;omega
    have HMD:Hid (∀W,Calls Tryz.prog 11 #[.int .i64 od[i],.int .i64 5] W λe w'=>e=.returned (.int .i64 ((mo od[i] 5:Nat):Int))/\W=w'):=λ W=>mod_any _ 5 W (by omega) (by omega)
    unfold ordStep at HST
    generalize od[i]=xi at *
    generalize mo xi 5=k at *
    generalize ordF (od.take i)=out at *
    obtain⟨ln,hln⟩:∃ln,out.length=ln:=⟨_,rfl⟩
    have HLN:=Hh hln
    rw[hln] at HO hol ⊢
    clear hln hil
    go_wp2_with fail
    refine(HMD.out _).mono ?_
    rintro e w' ⟨rfl,rfl⟩
    clear HMD
    go_wp2_with fail
    go_loopw [6,7] (λx z wq=>∃j:Nat,j<=ln/\x=.bool (decide ((k:Int)∉out.take j))/\z=.int .i64 (j:Int)/\wq=wr) (λ_ z _=>ln-(intOf z).toNat)
    case atStart=>exact⟨0,by omega,by simp,rfl,rfl⟩
    case round=>
     obtain⟨j,hj,rfl,rfl,rfl⟩:=hrel
     by_cases hjl:j<ln
     ·have y1:(j:Int)<ln:=by omega
      have hjo:j<out.length:=by rw[HLN.out];exact hjl
      obtain⟨g3,o3,c3',e,_,_,hc3⟩:=HO.out.rd.cellAt hjo
      rw[HLN.out] at e
      injection e with e1 _ e3
      subst e1 e3
      have HKN:Hid (decide ((k:Int)∉out.take (j+1))=(decide ((k:Int)∉out.take j)&&decide (out[j]≠(k:Int)))):=by
       show _=_
       rw[List.take_succ_eq_append_getElem hjo,Bool.eq_iff_iff]
       simp only[decide_eq_true_eq,Bool.and_eq_true,List.mem_append,List.mem_singleton,not_or]
       exact⟨λh=>⟨h.1,λq=>h.2 q.symm⟩,λh=>⟨h.1,λq=>h.2 q.symm⟩⟩
      generalize out[j]=oj at *
      generalize decide ((k:Int)∉out.take j)=fr at *
      clear hjo
      cases fr
      ·rw[Bool.false_and] at HKN
       go_wp2_with fail
       go_roundw
       case rel=>exact⟨j+1,by omega,by rw[HKN.out],by go_num,by trivial⟩
       case measure=>simp[intOf];omega
      ·rw[Bool.true_and] at HKN
       by_cases he:oj=(k:Int)
       ·have e0:decide (oj≠(k:Int))=false:=by simp[he]
        rw[e0] at HKN
        subst he
        clear e0
        go_wp2_with fail
        go_roundw
        case rel=>exact⟨j+1,by omega,by rw[HKN.out],by go_num,by trivial⟩
        case measure=>simp[intOf];omega
       ·have e0:decide (oj≠(k:Int))=true:=by simp[he]
        rw[e0] at HKN
        clear e0
        have hne:(oj != (k:Int))=true:=by simp[he]
        go_wp2_with fail
        go_roundw
        case rel=>exact⟨j+1,by omega,by rw[HKN.out],by go_num,by trivial⟩
        case measure=>simp[intOf];omega
     ·have ej:j=out.length:=by rw[HLN.out];omega
      have y1:¬(j:Int)<ln:=by omega
      rw[ej,List.take_length]
      rw[ej] at y1
      by_cases hm:(k:Int)∈out
      ·have e0:decide ((k:Int)∉out)=false:=by simp[hm]
       have HO2:Hid (OwI wr (T+1) (.slice xa ln xc) (ordF (od.take (i+1)))):=by rw[HST.out,if_pos hm];exact HO
       rw[e0]
       clear e0 hm HST
       go_wp2_with fail
       go_roundw
       case rel=>exact⟨i+1,by omega,by go_num,HO2,HB1⟩
       case measure=>simp[intOf];omega
      ·have e0:decide ((k:Int)∉out)=true:=by simp[hm]
       have HSE:Hid (ordF (od.take (i+1))=out++[(k:Int)]):=by show _=_;rw[HST.out,if_neg hm]
       rw[e0]
       have HC1:Hid ((wr.alloc (.cells #[.int .i64 (k:Int)] 3)).ownsRow (T+1) 3 1 (.slice xa ln xc) ln (ints out)):=by
        have h9:=HO.out
        unfold OwI at h9
        rw[HLN.out] at h9
        exact ownN_ch h9 ((Ch.refl (λ_=>False) wr).alloc _) (λ_ _ h=>h)
       have HN1:Hid (∀j u,(ints [(k:Int)])[j]? = some u->(wr.alloc (.cells #[.int .i64 (k:Int)] 3)).cell? ((⟨wr.heap.size,0,none⟩:Addr).add j)=some u):=World.news_of_block (heap_alloc_new wr _) |> λh=>h
       have HB3:Hid (Below (T+1) W1 (wr.alloc (.cells #[.int .i64 (k:Int)] 3))):=HB1.out.alloc hsw _
       have HLC:Hid ((ints out).length=ln):=by rw[ints_len];exact HLN.out
       clear e0 hm HST HO
       go_wp2_with (at_builtin;refine wpList_append_lies _ rfl _ _ 36 rfl (T+1) 3 i0 _ 1 8 Tryz.underlying36 hi0 hz0 hz1 hz2 (by kernel_rfl) (by omega) _ ln (ints out) rfl (by exact HC1.out) ⟨wr.heap.size,0,none⟩ 1 1 (ints [(k:Int)]) rfl rfl (by exact HN1.out) (ints_one _) (by omega) (by simp only[maxLen];omega) (by omega) (by simp;omega) (wr.heap.size+1) (by simp) ?_)
       intro g2 cap2 w5 hown5 hgrow5 hat5 hlt5
       have HB5:Hid (Below (T+1) W1 w5):=Below.grown HB3.out hgrow5 (by simp;omega) (λk hk=>(HC1.out.lt k hk).1)
       have HC5:Hid (OwI w5 (T+1) (.slice (some ⟨g2,0,none⟩) (ln+1) cap2) (ordF (od.take (i+1)))):=by
        rw[HSE.out]
        show World.ownsRow _ _ _ _ _ _ _
        rw[ints_snoc,List.length_append,HLN.out]
        exact hown5
       clear hown5 hgrow5 hat5 hlt5 HC1 HN1 HB3
       go_wp2_with fail
       go_roundw
       case rel=>exact⟨i+1,by omega,by go_num,HC5,HB5⟩
       case measure=>simp[intOf];omega
   ·have ei:i=n:=by omega
    have y0:¬(i:Int)<n:=by omega
    subst ei
    rw[List.take_of_length_le (by rw[HN.out];omega)] at *
    have HV:=Hh HO.out.rd.j
    have HBF:Hid (Below w.heap.size w wr):=HB.out.trans (HB1.out.mono (by have:=HT.out;omega))
    go_wp2_with fail
    go_ret
    exact⟨_,rfl,HV.out,HBF.out⟩
 ·simp only[if_true]
  go_enter Tryz.func63,Tryz.ntmps63
  go_upto_region 1 with fail
  generalize (w.alloc (.cells #[.int .i64 kd,.int .i64 id,.int .i64 im,.int .i64 tr,.slice a n cp,.bool ina,.bool true] 54))=W1 at *
  have c6:=HX.out.c6
  have c4:=HX.out.c4
  go_wp2_with fail
  go_ret
  exact⟨_,rfl,HRD.out,HB.out⟩
section
attribute [local go_sem ↓] Ms.alloc26 Ms.load26n Ms.store26n
section
variable {w:World}{v1 v2:Value}
theorem equalDg_same {l:List Str}(h1:RdD w v1 l)(h2:RdD w v2 l)(hl:∀d∈l,d.length=32):Calls Tryz.prog 22 #[v1,v2] w λe w'=>e=.returned (.bool true)/\Below w.heap.size w w':=by
 obtain⟨a1,c1,rfl,x1,y1⟩:=h1.shape
 obtain⟨a2,c2,rfl,x2,y2⟩:=h2.shape
 have H1:=Hh h1
 have H2:=Hh h2
 have HL:=Hh hl
 have HB0:Hid (Below w.heap.size w w):=Below.refl _ _
 obtain⟨L,hL⟩:∃L,l.length=L:=⟨_,rfl⟩
 have HLL:=Hh hL
 rw[hL] at H1 H2 x1 x2 ⊢
 clear h1 h2 hl hL
 go_enter Tryz.func22,Tryz.ntmps22
 go_wp2_with fail
 go_loopw [5] (λz wr=>∃i:Nat,i<=L/\z=.int .i64 (i:Int)/\Hid (RdD wr (.slice a1 L c1) l)/\Hid (RdD wr (.slice a2 L c2) l)/\Hid (Below w.heap.size w wr)) (λz _=>L-(intOf z).toNat)
 case atStart=>exact⟨0,by omega,rfl,H1,H2,HB0⟩
 case round=>
  clear H1 H2 HB0
  obtain⟨i,hi,rfl,H1,H2,HB⟩:=hrel
  by_cases hlt:i<L
  ·have y0:(i:Int)<L:=by omega
   have hil:i<l.length:=by rw[HLL.out];exact hlt
   obtain⟨g1,o1,c',e,_,_,k1⟩:=H1.out.at hil
   rw[HLL.out] at e
   injection e with e1 _ e3
   subst e1 e3
   obtain⟨g2,o2,c',e,_,_,k2⟩:=H2.out.at hil
   rw[HLL.out] at e
   injection e with e1 _ e3
   subst e1 e3
   have hd:=HL.out _ (List.getElem_mem hil)
   generalize l[i]=d at *
   have hne:∀Y,(binOp .neq 31 (.agg (Ms.arr 32 (Ms.b8 (dgF d)))) (.agg (Ms.arr 32 (Ms.b8 (dgF d))))).run Tryz.prog Y=.ok (.bool false) Y:=λ Y=>by rw[neDg hd hd];simp
   have S1:Hid (Ms.ldN 32 wr.drew (.pointer (some ⟨g1,o1+i*32,none⟩))=some (Ms.arr 32 (Ms.b8 (dgF d)))/\Ms.ldN 32 wr.drew (.pointer (some ⟨g2,o2+i*32,none⟩))=some (Ms.arr 32 (Ms.b8 (dgF d)))):=⟨by rw[Ms.ldN_drew];exact k1,by rw[Ms.ldN_drew];exact k2⟩
   clear k1 k2 hd hil
   go_wp2_with fail
   refine wp_region_pl (λ Y=>Ms.ldN 32 Y (.pointer (some ⟨g1,o1+i*32,none⟩))=some (Ms.arr 32 (Ms.b8 (dgF d)))/\Ms.ldN 32 Y (.pointer (some ⟨g2,o2+i*32,none⟩))=some (Ms.arr 32 (Ms.b8 (dgF d)))) ((0,0)::(1,0)::(2,0)::(3,0)::(4,0)::(5,0)::(6,0)::(7,0)::(8,0)::[]) (by kernel_rfl) (by kernel_rfl) ?_
   iterate 9 (apply wpP_go;rfl;rfl;exact S1.out;(rintro Y ⟨s0,s1⟩;go_simp;exact rfl);intro K hK;go_simp;refine hK _ ?_;clear hK K)
   refine wpP_done ?_
   clear S1 hne
   have H1n:Hid (RdD wr.drew (.slice (some ⟨g1,o1,none⟩) L c1) l):=H1.out
   have H2n:Hid (RdD wr.drew (.slice (some ⟨g2,o2,none⟩) L c2) l):=H2.out
   have HBn:Hid (Below w.heap.size w wr.drew):=HB.out.drew
   clear H1 H2 HB
   generalize wr.drew=wn at *
   go_wp2_with fail
   go_roundw
   case rel=>exact⟨i+1,by omega,by go_num,H1n,H2n,HBn⟩
   case measure=>simp[intOf];omega
  ·have y0:¬(i:Int)<L:=by omega
   go_wp2_with fail
   go_ret
   exact⟨rfl,HB.out⟩
end
theorem BF.own {w w':World}{N M S L n:Nat}{F C:Nat->Prop}{b:BM}(h:BF w N F M S L n b)(c:Ch C w w')(hC:∀k,C k->k<w.heap.size->F k/\0<k):BF w' N F M S L n b:=by
 obtain⟨O,q1,q2⟩:=h
 exact⟨O,q1.ch (c.mono (D:=λk=>C k/\k<w.heap.size) λi hi hl=>⟨hi,hl⟩) (λk hk=>⟨(q2 k (hC k hk.1 hk.2).1).1,(hC k hk.1 hk.2).2⟩),λk hk=>⟨(q2 k hk).1,Nat.lt_of_lt_of_le (q2 k hk).2 c.size⟩⟩
end
end Go.Proofs.YtdinbpdpalgohaaGreatDoor
