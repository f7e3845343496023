/- Walks and laws: MsRL. Conditions: those that each theorem names. -/
import Derived.Test.YtdinbpdpalgohaaGreatDoorX8
set_option maxHeartbeats 2000000
set_option maxRecDepth 100000
namespace Go.Proofs.YtdinbpdpalgohaaGreatDoor
open Go.RowKit
namespace Ms
attribute [local go_sem ↓] alloc26 load26n store26n load45n build45 slice46
attribute [local go_sem] stN_uc stN_b8 set_new ldN_drew bldV slcV arr_size evc_len evc_size
def RLOG (w:World)(base B:Nat)(es:List Ev):Prop:=base<=B/\∃v,Row w B 174 1 (λ_=>v)/\w.ownsRow base 62 34 v es.length (evs es)
theorem rmeasure_okF (base B r:Nat)(es:List Ev)(t s:ByteArray)(w:World)(hr:r<8)(ht:t.size<=64)(hes:es.length<256)(hs:s.size<=1073741824)(v:Value)(hbB:base<=B)(hL:Row w B 174 1 (λ_=>v))(hO:w.ownsRow base 62 34 v es.length (evs es)) :
  Calls Tryz.prog 126 #[.pointer (some ⟨B,0,none⟩),.int .i64 (r:Int),.string t,.string s] w λe w'=>e=.returned (.int .i64 0)/\RLOGN w v w' base B (es++[⟨r,sumD s.data.toList,t⟩])/\Ch (FP B v) w w':=by
 obtain⟨va,vc,rfl⟩:=own_len hO
 have hBl:=hL.lt
 have d1:decide ((r:Int)<0)=false:=by simp
 have d2:decide ((r:Int) ≥ 8)=false:=by simp;omega
 have d3:decide ((t.size:Int) > 64)=false:=by simp;omega
 have d4:decide ((es.length:Int) ≥ 256)=false:=by simp;omega
 have c0:w.cell? ⟨B,0,none⟩=some (.slice va es.length vc):=Row.cell hL (i:=0) (by omega)
 have HL:=Hh hL
 have HO:=Hh hO
 clear hL hO
 obtain⟨i0,hi0,hz0,hz1,hz2⟩:=info_parts Tryz.info62
 go_enter Tryz.func126,Tryz.ntmps126
 go_wp2_with fail
 have S0:Hid (w.drew.cell? ⟨B,0,none⟩=some (.slice va es.length vc)):=c0
 clear c0
 refine wp_region_pl (λ X=>X.cell? ⟨B,0,none⟩=some (.slice va es.length vc))
  ((0,0)::(1,0)::(2,0)::(3,0)::(4,0)::(5,0)::(6,0)::(8,0)::(7,1)::(9,1)::(10,1)::(11,1)::(12,1)::(13,1)::(14,2)::[]) (by kernel_rfl) (by kernel_rfl) ?_
 iterate 8 (apply wpP_go;rfl;rfl;exact S0.out;(rintro X sX;go_simp;exact rfl);intro K hK;go_simp;refine hK _ ?_;clear hK K)
 apply wpP_one
 rfl
 intro K hK
 go_simp
 refine(rsum_any s _ hs).mono ?_
 rintro _ w1 ⟨rfl,hb1⟩
 have L1:=Hh (HL.out.drew.below hb1 HL.out.lt)
 have O1:Hid (w1.ownsRow base 62 34 (.slice va es.length vc) es.length (evs es)):=own_below (w:=w.drew) HO.out.drew hb1 (Nat.le_refl _)
 have S1:Hid (w1.cell? ⟨B,0,none⟩=some (.slice va es.length vc)):=Row.cell L1.out (i:=0) (by omega)
 have C1:Hid (Ch (FP B (.slice va es.length vc)) w w1):=((Ch.refl _ w).drew).andThen (Ch.of_below hb1 (λ_=>False)) (λ_ h _=>h.elim)
 have hs1:w.heap.size<=w1.heap.size:=hb1.size
 clear hb1
 refine hK _ _ S1.out ?_
 clear hK K
 obtain⟨D,hD⟩:∃D:Nat->Int,sumD s.data.toList=D:=⟨_,rfl⟩
 rw[hD]
 have HD:=Hh hD
 clear hD
 apply wpP_one
 rfl
 intro K hK
 go_simp
 refine hK _ _ S1.out ?_
 clear hK K
 apply wpP_one
 rfl
 intro K hK
 go_simp
 have S2:Hid ((w1.alloc (.cells (evc ⟨r,D,t⟩).toArray 62)).cell? ⟨B,0,none⟩=some (.slice va es.length vc)):=Row.cell (L1.out.alloc _) (i:=0) (by omega)
 refine hK _ _ S2.out ?_
 clear hK K
 apply wpP_one
 rfl
 intro K hK
 have O2:=Hh (O1.out.alloc (.cells (evc ⟨r,D,t⟩).toArray 62))
 have hbl1:base<=w1.heap.size:=by omega
 rw[if_pos (by rfl)]
 refine wp_append_lies _ (.tmp 30) (.tmp 36) 59 rfl base 62 i0 _ 34 56 Tryz.underlying59 hi0 hz0 hz1 hz2 (by kernel_rfl) (by omega) (.slice va es.length vc) es.length (evs es) rfl O2.out ⟨w1.heap.size,0,none⟩ 1 1 (evc ⟨r,D,t⟩) rfl (by rw[evc_len]) (World.news_of_block (heap_alloc_new w1 _)) ?_ (by omega) (by simp only[maxLen];omega) (by omega) (by simp;omega) (w1.heap.size+1) (by simp) ?_
 focus
  intro u hu
  exact Array.all_eq_true_iff_forall_mem.1 (evc_one ⟨r,D,t⟩) u (by simpa using hu)
 intro g cap w2 hown hgrow hat hlt
 have hneB:(Value.slice va es.length vc).ownBlock≠some B:=own_ne O2.out (L1.out.alloc _) (by decide)
 have L3:Hid (Row w2 B 174 1 (λ_=>.slice va es.length vc)):=Row.ch (L1.out.alloc _) (Ch.of_grown (C:=λb=>(Value.slice va es.length vc).ownBlock=some b) hgrow (λk hk _=>hk)) hneB
 have C3:Hid (Ch (FP B (.slice va es.length vc)) w w2):=Ch.andThen (C1.out.alloc _) (Ch.of_grown (C:=λb=>(Value.slice va es.length vc).ownBlock=some b) hgrow (λk hk _=>hk)) (λi hi _=>.inr hi)
 have HG:Hid ((Value.slice va es.length vc).ownBlock=some g\/w.heap.size<=g):=by
  rcases hat with h|h
  ·exact .inl h
  ·exact .inr (by rw[h];omega)
 have c3:w2.cell? ⟨B,0,none⟩=some (.slice va es.length vc):=Row.cell L3.out (i:=0) (by omega)
 have f3:w2.frozen? ⟨B,0,none⟩=false:=Row.frozen L3.out 0
 have O3:=Hh hown
 clear hown hgrow hat S0 S1 S2
 have S3:=Hh c3
 simp only[Act.put]
 refine hK _ _ S3.out ?_
 clear hK K
 apply wpP_one
 rfl
 intro K hK
 go_simp
 refine hK _ _ S3.out ?_
 clear hK K
 apply wpP_one
 rfl
 intro K hK
 go_simp
 refine hK _ _ S3.out ?_
 clear hK K
 apply wpP_two
 rfl
 intro K hK
 go_simp
 refine hK _ _ ?_
 clear hK K
 refine wpP_done ?_
 have L4:Hid (Row (w2.setCell ⟨B,0,none⟩ (.slice (some ⟨g,0,none⟩) (es.length+1) cap)) B 174 1 (λ_=>.slice (some ⟨g,0,none⟩) (es.length+1) cap)):=Row.congr (Row.set L3.out (i:=0) (by omega) _) (λi hi=>by rw[show i=0 by omega,upd_hit])
 have O4:=Hh (own_set O3.out L3.out (by decide) (w2.setCell ⟨B,0,none⟩ (.slice (some ⟨g,0,none⟩) (es.length+1) cap)) ((Ch.refl (λb=>b=B) w2).setCell (p:=⟨B,0,none⟩) (λ_=>rfl) _))
 have C4:Hid (Ch (FP B (.slice va es.length vc)) w (w2.setCell ⟨B,0,none⟩ (.slice (some ⟨g,0,none⟩) (es.length+1) cap))):=C3.out.setCell (p:=⟨B,0,none⟩) (λ_=>.inl rfl) _
 have hfin:Hid (RLOGN w (.slice va es.length vc) (w2.setCell ⟨B,0,none⟩ (.slice (some ⟨g,0,none⟩) (es.length+1) cap)) base B (es++[⟨r,sumD s.data.toList,t⟩])):=by
  refine⟨hbB,_,L4.out,?_,own_new HG.out⟩
  rw[evs_snoc,List.length_append,HD.out]
  exact O4.out
 clear L4 O4 c3 f3
 generalize w2.setCell ⟨B,0,none⟩ (.slice (some ⟨g,0,none⟩) (es.length+1) cap)=Z at C4 hfin ⊢
 go_wp2_with fail
 go_ret
 exact⟨rfl,hfin.out,C4.out⟩
theorem revents_any (base B:Nat)(es:List Ev)(w:World)(h:RLOG w base B es)(hl:es.length<=1000):Calls Tryz.prog 80 #[.pointer (some ⟨B,0,none⟩)] w (NewE w es):=by
 obtain⟨hbB,v,hL,hO⟩:=h
 have c0:w.cell? ⟨B,0,none⟩=some v:=Row.cell hL (i:=0) (by omega)
 have hBl:=hL.lt
 obtain⟨va,vc,e1,hr⟩:=OE.rd hO
 subst e1
 clear hL hO
 have hmk:∀W,(Instr.buildSlice 59 0 #[]).run Tryz.prog W=.ok (.slice (some ⟨W.heap.size,0,none⟩) 0 0) (W.alloc (.cells #[] 62)):=λ_=>by kernel_rfl
 have ho:Hid ((w.alloc (.cells #[] 62)).ownsRow w.heap.size 62 34 (.slice (some ⟨w.heap.size,0,none⟩) 0 0) 0 []):=⟨rfl,.inr ⟨w.heap.size,0,#[],rfl,Nat.le_refl _,heap_alloc_new w _,Nat.le_refl _,by simp[maxLen],rfl,rfl⟩⟩
 have hBn:¬B=w.heap.size:=by omega
 by_cases he:es=[]
 ·subst he
  have ha:=app0 (w.alloc (.cells #[] 62)) w.heap.size vc va
  have c0':w.cell? ⟨B,0,none⟩=some (.slice va 0 vc):=c0
  clear c0
  cases va
  all_goals
   go_enter Tryz.func80,Tryz.ntmps80
   go_wp2_with fail
   go_ret
   exact⟨_,rfl,ho.out,(Below.refl _ _).alloc (Nat.le_refl _) _⟩
 ·obtain⟨b,o,hx,hbl,hrg⟩:=hr he
  subst hx
  have hpos:0<es.length:=List.length_pos_iff.2 he
  obtain⟨i0,hi0,hz0,hz1,hz2⟩:=info_parts Tryz.info62
  have hnews:Hid (∀j u,(evs es)[j]? = some u->(w.alloc (.cells #[] 62)).cell? ((⟨b,o,none⟩:Addr).add j)=some u):=λj u hu=>by
   have hj:j<es.length*34:=by have:=(List.getElem?_eq_some_iff.1 hu).1;rw[evs_len] at this;exact this
   have hi:j/34<es.length:=by omega
   have hee:es[j/34]? = some es[j/34]:=List.getElem?_eq_getElem hi
   have hjj:(evc es[j/34])[j%34]? = some ((evc es[j/34])[j%34]'(by rw[evc_len];omega)):=List.getElem?_eq_getElem _
   have h1:=evs_at es _ _ hee _ _ hjj
   rw[show j/34*34+j%34=j by omega,hu] at h1
   injection h1 with h1
   have h2:=hrg _ _ hee _ _ hjj
   rw[Addr.add_mid,show o+j=o+j/34*34+j%34 by omega,h1]
   rw[World.cell?_of_block (w:=w) (Below.heap_alloc w _ b hbl)]
   exact h2
  have hone:Hid (∀u∈evs es,u.oneCell'=true):=λu hu=>by
   obtain⟨x,_,hx⟩:=List.mem_flatMap.1 hu
   exact Array.all_eq_true_iff_forall_mem.1 (evc_one x) u (by simpa using hx)
  have HE:=Hh he
  clear he hr hrg
  go_enter Tryz.func80,Tryz.ntmps80
  go_wp2_with (at_builtin;refine wpList_append_lies _ rfl _ _ 59 rfl w.heap.size 62 i0 _ 34 56 Tryz.underlying59 hi0 hz0 hz1 hz2 (by kernel_rfl) (by omega) _ 0 [] rfl (by exact ho.out) ⟨b,o,none⟩ es.length vc (evs es) rfl (evs_len es) (by exact hnews.out) hone.out hpos (by simp only[maxLen];omega) (by omega) (by simp) (w.heap.size+1) (by simp) ?_)
  intro g cap w' hown hgrow hat hlt
  have hb:Below w.heap.size w w':=Below.grown ((Below.refl _ _).alloc (Nat.le_refl _) _) hgrow (by simp) (λk hk=>by
   have:w.heap.size=k:=by simpa[Value.ownBlock] using hk
   omega)
  have HO:Hid (OE w' w.heap.size (.slice (some ⟨g,0,none⟩) es.length cap) es):=by
   exact hown
  clear hown hgrow hat
  go_wp2_with fail
  go_ret
  exact⟨_,rfl,HO.out,hb⟩
end Ms
end Go.Proofs.YtdinbpdpalgohaaGreatDoor
