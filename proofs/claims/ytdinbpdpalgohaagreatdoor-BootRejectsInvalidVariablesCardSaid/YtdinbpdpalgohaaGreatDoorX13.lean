/- Walks and laws: Pf RT RU RV. Conditions: those that each theorem names. -/
import Derived.Test.YtdinbpdpalgohaaGreatDoorX12
set_option maxHeartbeats 8000000
set_option maxRecDepth 100000
namespace Go.Proofs.YtdinbpdpalgohaaGreatDoor
open Go.RowKit
section
open Go
inductive PT
 | done
 | s (k c:Nat) (r:PT)
 | f (k1:Nat) (r1:PT) (k2:Nat) (r2:PT)
def PT.ls:List (Nat×Nat)->PT->PT
 | [],t=>t
 | (k,c)::r,t=>.s k c (PT.ls r t)
section
variable {P:Program}{ops:Array Oper}{Q:Exit->Act->World->Prop}{md:Region.Mode}{S:World->Prop}{N:Nat->Bool}
def wpT (P:Program)(ops:Array Oper)(Q:Exit->Act->World->Prop)(S:World->Prop):PT->Act->World->Prop
 | .done,a,w=>Q .normal a w
 | .s k 0 r,a,w=>∃o v,ops[k]? = some o/\YS P ops S o v a/\S w/\wpT P ops Q S r (a.put o.dst v) w
 | .s k 1 r,a,w=>wpOp P ops Q k (λa' w'=>S w'/\wpT P ops Q S r a' w') a w
 | .s k (_+2) r,a,w=>wpOp P ops Q k (λa' w'=>wpT P ops Q S r a' w') a w
 | .f k1 r1 k2 r2,a,w=>wpOp P ops Q k1 (λa' w'=>S w'/\wpT P ops Q S r1 a' w') a w/\wpOp P ops Q k2 (λa' w'=>S w'/\wpT P ops Q S r2 a' w') a w
def ptB (md:Region.Mode)(ops:Array Oper)(late:List Nat):PT->Nat->Array Bool->Bool
 | .done,n,listed=>n==0&&(Region.ready md ops listed).isEmpty
 | .s _ _ _,0,_=>false
 | .s k 0 r,n+1,listed=>(Region.ready md ops listed).contains k&&Region.free md ops listed k&&late.all (λx=>waitsT md ops 8 x k)&&ptB md ops late r n (listed.setIfInBounds k true)
 | .s k 1 r,n+1,listed=>decide (Region.ready md ops listed=[k])&&ptB md ops late r n (listed.setIfInBounds k true)
 | .s k (_+2) r,n+1,listed=>decide (Region.ready md ops listed=[k])&&late.contains k&&ptB md ops late r n (listed.setIfInBounds k true)
 | .f _ _ _ _,0,_=>false
 | .f k1 r1 k2 r2,n+1,listed=>decide (Region.ready md ops listed=[k1,k2])&&ptB md ops late r1 n (listed.setIfInBounds k1 true)&&ptB md ops late r2 n (listed.setIfInBounds k2 true)
theorem wpAnyP_tree (late:List Nat)(hsel:Region.noSelect ops=true)(hQ:∀c a w,¬Q (.panic c) a w)(t:PT) :
  ∀(n:Nat) (listed:Array Bool) (a:Act) (w:World),clos md ops listed->ptB md ops late t n listed=true->wpT P ops Q S t a w->wpAnyP P md ops Q S (λj=>late.contains j) n listed a w:=by
 induction t with
 | done=>
  intro n listed a w _ hB h
  simp only[ptB,Bool.and_eq_true,beq_iff_eq] at hB
  obtain⟨rfl,hB⟩:=hB
  exact⟨by simpa using hB,h⟩
 | s k c r ih=>
  intro n listed a w hcl hB h
  match c,n,hB,h with
  | 0,0,hB,h=>exact absurd hB (by simp[ptB])
  | 1,0,hB,h=>exact absurd hB (by simp[ptB])
  | c+2,0,hB,h=>exact absurd hB (by simp[ptB])
  | 0,n+1,hB,h=>
   simp only[ptB,Bool.and_eq_true] at hB
   obtain⟨⟨⟨hr,hf⟩,hl⟩,hB'⟩:=hB
   obtain⟨o,v,ho,hy,hS,hK⟩:=h
   have hrd:k∈Region.ready md ops listed:=by simpa using hr
   refine wpAnyP_firstT ho (Region.noSelect_spec hsel) hQ (λj oj hj hNj=>?_) _ listed a w hcl (Region.free_spec ho hf) hrd hy hS (ih _ _ _ _ (hcl.next hrd) hB' hK)
   exact waitsT_spec _ _ _ (List.all_eq_true.1 hl j (by simpa using hNj))
  | 1,n+1,hB,h=>
   simp only[ptB,Bool.and_eq_true,decide_eq_true_eq] at hB
   have hrd:k∈Region.ready md ops listed:=by rw[hB.1];exact List.mem_singleton.2 rfl
   refine⟨λh1=>(by rw[hB.1] at h1;cases h1),λi hi=>?_⟩
   rw[hB.1] at hi
   have hik:i=k:=by simpa using hi
   subst hik
   exact wpOp_mono (λa' w' h'=>⟨.inr h'.1,ih _ _ a' w' (hcl.next hrd) hB.2 h'.2⟩) h
  | c+2,n+1,hB,h=>
   simp only[ptB,Bool.and_eq_true,decide_eq_true_eq] at hB
   have hrd:k∈Region.ready md ops listed:=by rw[hB.1.1];exact List.mem_singleton.2 rfl
   refine⟨λh1=>(by rw[hB.1.1] at h1;cases h1),λi hi=>?_⟩
   rw[hB.1.1] at hi
   have hik:i=k:=by simpa using hi
   subst hik
   exact wpOp_mono (λa' w' h'=>⟨.inl hB.1.2,ih _ _ a' w' (hcl.next hrd) hB.2 h'⟩) h
 | f k1 r1 k2 r2 ih1 ih2=>
  intro n listed a w hcl hB h
  match n,hB with
  | 0,hB=>exact absurd hB (by simp[ptB])
  | n+1,hB=>
   simp only[ptB,Bool.and_eq_true,decide_eq_true_eq] at hB
   obtain⟨⟨hr,hB1⟩,hB2⟩:=hB
   have hrd1:k1∈Region.ready md ops listed:=by rw[hr];simp
   have hrd2:k2∈Region.ready md ops listed:=by rw[hr];simp
   refine⟨λh1=>(by rw[hr] at h1;cases h1),λi hi=>?_⟩
   rw[hr] at hi
   rcases List.mem_cons.1 hi with e|hi
   ·subst e
    exact wpOp_mono (λa' w' h'=>⟨.inr h'.1,ih1 _ _ a' w' (hcl.next hrd1) hB1 h'.2⟩) h.1
   ·have e:i=k2:=by simpa using hi
    subst e
    exact wpOp_mono (λa' w' h'=>⟨.inr h'.1,ih2 _ _ a' w' (hcl.next hrd2) hB2 h'.2⟩) h.2
theorem wp_region_tree {id:Nat}{a:Act}{w:World}{l:List Oper}(S:World->Prop)(late:List Nat)(t:PT)(hm:P.follows .mixedOrders=true)(hs:Region.noSelect l.toArray=true)(hB:ptB .any l.toArray late t l.toArray.size (Array.replicate l.toArray.size false)=true)
  (h:wpT P l.toArray (NoPanic Q) S t a w.drew):(Code.region id l.toArray true).wp P Q a w:=by
 refine wp_region_noPanic (wp_region_any hm (wpAny_of_P (S:=S) (N:=λj=>late.contains j) _ _ _ _ ?_))
 have hc0:clos .any l.toArray (Array.replicate l.toArray.size false):=λm o _ h=>by
  exfalso
  simp[Array.getElem?_replicate] at h
  split at h<;>simp at h
 exact wpAnyP_tree (P:=P) (md:=.any) (Q:=NoPanic Q) (S:=S) (ops:=l.toArray) late hs (λc a w h=>h) t _ _ a w.drew hc0 hB h
variable {k k1 k2:Nat}{o o1 o2:Oper}{l t t1 t2:List Oper}{r r1 r2:PT}{a:Act}{w:World}
theorem wpT_go (ho:l.drop k=o::t)(hw:Region.wanted o (yielded l.toArray a.tmps)=true)(hS:S w)(v:Value)(hr:∀X,S X->(execOp a.eval o).run P X=.ok (.value v) X)
  (h:∀K:Act->Prop,(∀a',wpT P l.toArray Q S r a' w->K a')->K (a.put o.dst v)):wpT P l.toArray Q S (.s k 0 r) a w:=⟨o,v,op_at ho,YS.run hw hr,hS,h _ (λ_ h=>h)⟩
theorem wpT_call (ho:l.drop k=o::t)(hw:Region.wanted o (yielded l.toArray a.tmps)=true)(hS:S w)(v:Value)(f:FuncId)(args:Array Value)(hr:∀X,S X->(execOp a.eval o).run P X=.ok (.enter f args) X)
  (hc:∀X,S X->Calls P f args X λe w'=>e=.returned v/\X=w')
  (h:∀K:Act->Prop,(∀a',wpT P l.toArray Q S r a' w->K a')->K (a.put o.dst v)):wpT P l.toArray Q S (.s k 0 r) a w:=
 ⟨o,v,op_at ho,.inl ⟨hw,λw hS=>.inr (.inr ⟨f,args,hr w hS,(hc w hS).mono λ_ _ ⟨h1,h2⟩=>⟨h1,h2.symm⟩⟩)⟩,hS,h _ (λ_ h=>h)⟩
theorem wpOp_if (ho:l.drop k=o::t){K:Act->World->Prop}
  (h:if Region.wanted o (yielded l.toArray a.tmps) then o.wp P a w K Q else K (a.put o.dst undef) w):wpOp P l.toArray Q k K a w:=by
 unfold wpOp
 simp only[op_at ho]
 split
 ·rename_i hw;rw[if_pos hw] at h;exact .inl h
 ·rename_i hw;rw[if_neg hw] at h;exact h
theorem wpT_one (ho:l.drop k=o::t)
  (h:∀K:Act->World->Prop,(∀a w,S w->wpT P l.toArray Q S r a w->K a w)->if Region.wanted o (yielded l.toArray a.tmps) then o.wp P a w K Q else K (a.put o.dst undef) w):wpT P l.toArray Q S (.s k 1 r) a w:=
 wpOp_if ho (h (λa w=>S w/\wpT P l.toArray Q S r a w) (λ_ _ h1 h2=>⟨h1,h2⟩))
theorem wpT_two (ho:l.drop k=o::t)
  (h:∀K:Act->World->Prop,(∀a w,wpT P l.toArray Q S r a w->K a w)->if Region.wanted o (yielded l.toArray a.tmps) then o.wp P a w K Q else K (a.put o.dst undef) w):wpT P l.toArray Q S (.s k 2 r) a w:=
 wpOp_if ho (h (λa w=>wpT P l.toArray Q S r a w) (λ_ _ h2=>h2))
theorem wpT_fork (ho1:l.drop k1=o1::t1)(ho2:l.drop k2=o2::t2)
  (h1:∀K:Act->World->Prop,(∀a w,S w->wpT P l.toArray Q S r1 a w->K a w)->if Region.wanted o1 (yielded l.toArray a.tmps) then o1.wp P a w K Q else K (a.put o1.dst undef) w)
  (h2:∀K:Act->World->Prop,(∀a w,S w->wpT P l.toArray Q S r2 a w->K a w)->if Region.wanted o2 (yielded l.toArray a.tmps) then o2.wp P a w K Q else K (a.put o2.dst undef) w):wpT P l.toArray Q S (.f k1 r1 k2 r2) a w:=
 ⟨wpOp_if ho1 (h1 (λa w=>S w/\wpT P l.toArray Q S r1 a w) (λ_ _ h1 h2=>⟨h1,h2⟩)),wpOp_if ho2 (h2 (λa w=>S w/\wpT P l.toArray Q S r2 a w) (λ_ _ h1 h2=>⟨h1,h2⟩))⟩
theorem wpT_done (h:Q .normal a w):wpT P l.toArray (NoPanic Q) S .done a w:=h
end
end
section
variable {w w':World}{D DS:Nat->Prop}{S X:Nat}{st:ST}{y:RLay}{fl:FL}
theorem RS.withNxt (h:RS w D S X st){nx:Nat}(h1:nx<=900)(h2:st.V.length<=nx+1):RS (w.setCell ⟨S,4,none⟩ (.int .i64 (nx:Int))) D S X ⟨st.V,st.blk,st.gen,nx,st.clo⟩:=by
 obtain⟨a,c,r,v,g⟩:=h.ex
 have hc:Ch (λx=>x=S) w (w.setCell ⟨S,4,none⟩ (.int .i64 (nx:Int))):=(Ch.refl (λx=>x=S) w).setCell (p:=⟨S,4,none⟩) (λ_=>rfl) _
 exact { ex:=⟨a,c,(r.set (i:=4) (by omega) (.int .i64 (nx:Int))).congr λj hj=>by
          rcases(by omega:j=0\/j=1\/j=2\/j=3\/j=4\/j=5) with e|e|e|e|e|e<;>subst e<;>simp[upd,rsc],v.ch hc (λk e=>(g k e).2),g⟩
         dS:=h.dS,fin:=λk hk=>Nat.lt_of_lt_of_le (h.fin k hk) hc.size,srt:=h.srt,hv:=h.hv,hg:=h.hg,hn:=h1,hb:=h.hb,vl:=h2 }
theorem RS.withClo (h:RS w D S X st)(b:Bool):RS (w.setCell ⟨S,5,none⟩ (.bool b)) D S X ⟨st.V,st.blk,st.gen,st.nxt,b⟩:=by
 obtain⟨a,c,r,v,g⟩:=h.ex
 have hc:Ch (λx=>x=S) w (w.setCell ⟨S,5,none⟩ (.bool b)):=(Ch.refl (λx=>x=S) w).setCell (p:=⟨S,5,none⟩) (λ_=>rfl) _
 exact { ex:=⟨a,c,(r.set (i:=5) (by omega) (.bool b)).congr λj hj=>by
          rcases(by omega:j=0\/j=1\/j=2\/j=3\/j=4\/j=5) with e|e|e|e|e|e<;>subst e<;>simp[upd,rsc],v.ch hc (λk e=>(g k e).2),g⟩
         dS:=h.dS,fin:=λk hk=>Nat.lt_of_lt_of_le (h.fin k hk) hc.size,srt:=h.srt,hv:=h.hv,hg:=h.hg,hn:=h.hn,hb:=h.hb,vl:=h.vl }
theorem RS.withV (h:RS w D S X st){V:Vars}{a:Option Addr}{c:Nat}(hv:VS w a c V)(hg:∀g,a=some ⟨g,0,none⟩->g≠S/\g<w.heap.size)(hs:Srt V)(hh:∀p∈V,p.1.length<=24/\p.2.length<=128)(hl:V.length<=st.nxt+1) :
  RS (w.setCell ⟨S,1,none⟩ (.slice a V.length c)) (λk=>D k\/a=some ⟨k,0,none⟩) S X ⟨V,st.blk,st.gen,st.nxt,st.clo⟩:=by
 obtain⟨a0,c0,r,v,g⟩:=h.ex
 have hc:Ch (λx=>x=S) w (w.setCell ⟨S,1,none⟩ (.slice a V.length c)):=(Ch.refl (λx=>x=S) w).setCell (p:=⟨S,1,none⟩) (λ_=>rfl) _
 exact h.fresh (st':=⟨V,st.blk,st.gen,st.nxt,st.clo⟩) hv hg ((r.set (i:=1) (by omega) (.slice a V.length c)).congr λj hj=>by
  rcases(by omega:j=0\/j=1\/j=2\/j=3\/j=4\/j=5) with e|e|e|e|e|e<;>subst e<;>simp[upd,rsc]) hc hs hh h.hg h.hn h.hb hl
theorem any_take {l:Str}{i:Nat}(h:i<l.length):(l.take (i+1)).any (λx=>x != 255)=((l.take i).any (λx=>x != 255)||(l.getD i 0!=255)):=by
 rw[List.take_succ_eq_append_getElem h,List.any_append,List.getD_eq_getElem?_getD,List.getElem?_eq_getElem h]
 simp
theorem dec_ff {ps:List Str}(h:(ps.getD 0 []).getD 0 0=255):dec ps=none:=by
 unfold dec
 dsimp only
 rw[h,if_pos (by rfl)]
theorem rscan_any {b g n0:Nat}(hs:RS w DS S X ⟨[],b,g,n0,false⟩)(h:RW w D X y fl)(hdis:∀k,D k->¬DS k)(hb:b<fl.B) :
  Calls Tryz.prog 105 #[fptr S] w λe w'=>e=.returned (.tuple #[])/\(∃D',(∀i,D' i->DS i\/w.heap.size<=i)/\RS w' D' S X ⟨(rpl fl.P (pgsF fl b) [] 1).1,b,g,(rpl fl.P (pgsF fl b) [] 1).2.1,(rpl fl.P (pgsF fl b) [] 1).2.2⟩)/\Ch (λx=>x=S) w w':=by
 have hP:=h.hP
 have HB:=Hh hb
 have H:=Hh h
 have hSD:¬D S:=λe=>hdis _ e hs.dS
 have c0:=hs.c0
 have c4:=hs.c4
 have f4:=hs.fr 4
 have hs1:=hs.withNxt (nx:=1) (by omega) (by simp)
 have HS1:Hid (RS (w.setCell ⟨S,4,none⟩ (.int .i64 1)) DS S X ⟨[],b,g,1,false⟩):=hs1
 have HC1:Hid (Ch (λx=>x=S) w (w.setCell ⟨S,4,none⟩ (.int .i64 1))):=(Ch.refl (λx=>x=S) w).setCell (p:=⟨S,4,none⟩) (λ_=>rfl) _
 have c41:(w.setCell ⟨S,4,none⟩ (.int .i64 1)).cell? ⟨S,4,none⟩=some (.int .i64 1):=hs1.c4
 have HE1:Hid (rpl fl.P (pgsF fl b) [] 1=rpl fl.P (pgsF fl b) [] 1):=rfl
 clear hs1 h hs hb
 go_enter Tryz.func105,Tryz.ntmps105
 go_wp2_with fail
 clear c0 c4 f4
 generalize w.setCell ⟨S,4,none⟩ (.int .i64 1)=wa at *
 go_loopw [] (λwr=>∃(f nx:Nat) (V:Vars),fl.P+1<=f+nx/\nx<=fl.P/\1<=nx/\wr.cell? ⟨S,4,none⟩=some (.int .i64 nx)/\Hid (rpl fl.P (pgsF fl b) [] 1=rpl f (pgsF fl b) V nx/\V.length<=nx)/\Hid (∃D',(∀i,D' i->DS i\/w.heap.size<=i)/\RS wr D' S X ⟨V,b,g,nx,false⟩)/\Hid (Ch (λx=>x=S) w wr)) (λwr=>fl.P-(intOf ((wr.cell? ⟨S,4,none⟩).getD undef)).toNat)
 case atStart=>exact⟨fl.P,1,[],by omega,by omega,by omega,c41,⟨rfl,by simp⟩,⟨DS,λi h=>.inl h,HS1.out⟩,HC1⟩
 case round=>
  clear HE1 HS1 HC1 c41
  obtain⟨f,nx,V,hf,hnx,hn1,c4,HE,HR,HC⟩:=hrel
  obtain⟨D',hD',hrs⟩:=HR.out
  have HD':=Hh hD'
  have hrw:=H.out.ch HC.out (λk hk e=>hSD (e▸hk))
  have HM4:Hid (wr.cell? ⟨S,4,none⟩=some (.int .i64 nx)):=c4
  clear HR hD' c4
  by_cases hlt:nx<fl.P
  ·have hltI:(nx:Int)<(fl.P:Int):=by omega
   have hrd:=hrw.drew
   obtain⟨sb,hsb⟩:∃sb:ByteArray,str ((pgsF fl b).drop nx).flatten=.string sb:=⟨_,rfl⟩
   have hsbl:sb.data.toList=((pgsF fl b).drop nx).flatten:=by injection hsb with hsb;rw[<-hsb]
   have h64:=(H.out.p64 HB.out)
   have h64d:P64 ((pgsF fl b).drop nx):=λp hp=>h64 p (List.mem_of_mem_drop hp)
   have hdl:((pgsF fl b).drop nx).flatten.length=(fl.P-nx)*64:=by
    rw[flat_len _ h64d,List.length_drop,pgsF_len]
   have hsz:sb.size=(fl.P-nx)*64:=by rw[bsz,hsbl,hdl]
   have hdf:dec ((pgsF fl b).drop nx)=decF sb.data.toList:=by rw[hsbl];exact dec_flat h64d
   have hsz1:64<=sb.size/\sb.size<=2048:=by rw[hsz];omega
   have HRD:Hid (∀W,Calls Tryz.prog 102 #[.string sb] W λe w'=>RdP (dec ((pgsF fl b).drop nx)) W.heap.size W e w'):=λ W=>by
    rw[hdf]
    exact rread_any sb W hsz1.1 hsz1.2
   have HSB:=Hh hsb
   have H64:=Hh h64d
   have S1:Hid (wr.drew.cell? ⟨S,0,none⟩=some (fptr X)/\wr.drew.cell? ⟨S,4,none⟩=some (.int .i64 nx)/\wr.drew.cell? ⟨X,1,none⟩=some (.int .i64 fl.P)):=⟨hrs.c0,hrs.c4,hrw.c1⟩
   have S2:Hid (wr.drew.drew.cell? ⟨S,0,none⟩=some (fptr X)/\wr.drew.drew.cell? ⟨S,4,none⟩=some (.int .i64 nx)/\wr.drew.drew.cell? ⟨S,2,none⟩=some (.int .i64 b)/\RW wr.drew.drew D X y fl):=⟨hrs.c0,hrs.c4,hrs.c2,hrw.drew.drew⟩
   have HR2:=Hh (hrs.below ((Below.refl _ wr).drew.drew))
   have HC2:Hid (Ch (λx=>x=S) w wr.drew.drew):=HC.out.drew.drew
   clear hrd hsb hsbl hdl hsz hdf hsz1 hrs hrw HC h64 h64d
   go_wp2_with fail
   refine wp_region_pl (λ Y=>Y.cell? ⟨S,0,none⟩=some (fptr X)/\Y.cell? ⟨S,4,none⟩=some (.int .i64 nx)/\Y.cell? ⟨X,1,none⟩=some (.int .i64 fl.P)) ((0,0)::(1,0)::(2,0)::(3,0)::(4,0)::(5,0)::(6,0)::(7,0)::(8,0)::(9,0)::(10,0)::(11,0)::(12,0)::[]) (by kernel_rfl) (by kernel_rfl) ?_
   iterate 13 (apply wpP_go;rfl;rfl;exact S1.out;(rintro Z ⟨s0,s1,s2⟩;go_simp;exact rfl);intro K hK;go_simp;refine hK _ ?_;clear hK K)
   refine wpP_done ?_
   clear S1
   go_wp2_with fail
   generalize hWd:wr.drew.drew=W at *
   refine wp_region_tree (λ Y=>Y.cell? ⟨S,0,none⟩=some (fptr X)/\Y.cell? ⟨S,4,none⟩=some (.int .i64 nx)/\Y.cell? ⟨S,2,none⟩=some (.int .i64 b)/\RW Y D X y fl) [19] (PT.ls ((0,0)::(1,0)::(2,0)::(3,0)::(4,0)::(5,0)::(6,0)::(7,0)::(8,0)::(9,0)::(10,0)::(11,0)::(12,0)::[]) (.f 13 (PT.ls ((14,0)::(15,0)::(16,0)::(17,1)::(18,1)::(19,2)::[]) .done) 17 (PT.ls ((13,1)::(14,0)::(15,0)::(16,0)::(18,1)::(19,2)::[]) .done))) (by kernel_rfl) (by kernel_rfl) (by kernel_rfl) ?_
   simp only[hWd]
   clear hWd
   unfold PT.ls
   iterate 12 (apply wpT_go;rfl;rfl;exact S2.out;(rintro Z ⟨s0,s1,s2,s3⟩;go_simp;exact rfl);intro K hK;go_simp;refine hK _ ?_;clear hK K)
   apply wpT_call
   rfl
   rfl
   exact S2.out
   focus (rintro Z ⟨s0,s1,s2,s3⟩;go_simp;exact⟨rfl,rfl⟩)
   focus (rintro Z ⟨s0,s1,s2,s3⟩;have:=rblock_any s3 HB.out (by omega:nx<=fl.P);rw[HSB.out] at this;exact this)
   intro K hK
   go_simp
   refine hK _ ?_
   clear hK K
   apply wpT_fork
   rfl
   rfl
   focus
    intro K hK
    go_simp
    refine(HRD.out _).mono ?_
    rintro e V1 ⟨k0,n0,v0,c0,okb,rfl,hro,b1⟩
    have HRO:=Hh hro
    have HR3:=Hh (HR2.out.below b1)
    have HW3:=Hh (S2.out.2.2.2.below b1)
    have HC3:Hid (Ch (λx=>x=S) w V1):=HC2.out.trans (Ch.of_below b1 _)
    refine hK _ _ ⟨HR3.out.c0,HR3.out.c4,HR3.out.c2,HW3.out⟩ ?_
    clear hK K b1 hro S2 HR2 HC2 HRD
    have S3:Hid (V1.cell? ⟨S,0,none⟩=some (fptr X)/\V1.cell? ⟨S,4,none⟩=some (.int .i64 nx)/\V1.cell? ⟨S,2,none⟩=some (.int .i64 b)/\RW V1 D X y fl):=⟨HR3.out.c0,HR3.out.c4,HR3.out.c2,HW3.out⟩
    iterate 3 (apply wpT_go;rfl;rfl;exact S3.out;(rintro Z ⟨s0,s1,s2,s3⟩;go_simp;exact rfl);intro K hK;go_simp;refine hK _ ?_;clear hK K)
    clear S3
    have hT1:Row (V1.alloc (.cells #[.int .u8 0,.string ⟨#[]⟩,.string ⟨#[]⟩,.int .i64 0] 169)) V1.heap.size 169 4 (λj=>if j=0 then .int .u8 0 else if j=1 then .string ⟨#[]⟩ else if j=2 then .string ⟨#[]⟩ else .int .i64 0):=Row.ofList V1 169 _ _ 4 rfl
    have b4:Below V1.heap.size V1 (V1.alloc (.cells #[.int .u8 0,.string ⟨#[]⟩,.string ⟨#[]⟩,.int .i64 0] 169)):=(Below.refl _ _).alloc (Nat.le_refl _) _
    apply wpT_one
    rfl
    intro K hK
    go_simp
    have HR4:=Hh (HR3.out.below b4)
    have HW4:=Hh (HW3.out.below b4)
    have HC4:Hid (Ch (λx=>x=S) w (V1.alloc (.cells #[.int .u8 0,.string ⟨#[]⟩,.string ⟨#[]⟩,.int .i64 0] 169))):=HC3.out.trans (Ch.of_below b4 _)
    refine hK _ _ ⟨HR4.out.c0,HR4.out.c4,HR4.out.c2,HW4.out⟩ ?_
    clear hK K b4
    obtain⟨T,hT⟩:∃T,V1.heap.size=T:=⟨_,rfl⟩
    have hTS:T≠S:=by have:=HR3.out.fin S HR3.out.dS;omega
    have hTD:¬D T:=λh=>by have:=HW3.out.fin T h;omega
    have hTD':¬D' T:=λh=>by have:=HR3.out.fin T h;omega
    have hTw:w.heap.size<=T:=by rw[<-hT];exact HC3.out.size
    obtain⟨V2,hV2⟩:∃V2,V1.alloc (.cells #[.int .u8 0,.string ⟨#[]⟩,.string ⟨#[]⟩,.int .i64 0] 169)=V2:=⟨_,rfl⟩
    rw[hV2] at hT1 HR4 HW4 HC4
    rw[hT] at hT1
    simp only[hV2,hT]
    clear hV2 hT HR3 HW3 HC3
   rotate_left
   focus
    intro K hK
    go_simp
    have hT1:Row (W.alloc (.cells #[.int .u8 0,.string ⟨#[]⟩,.string ⟨#[]⟩,.int .i64 0] 169)) W.heap.size 169 4 (λj=>if j=0 then .int .u8 0 else if j=1 then .string ⟨#[]⟩ else if j=2 then .string ⟨#[]⟩ else .int .i64 0):=Row.ofList W 169 _ _ 4 rfl
    have b4:Below W.heap.size W (W.alloc (.cells #[.int .u8 0,.string ⟨#[]⟩,.string ⟨#[]⟩,.int .i64 0] 169)):=(Below.refl _ _).alloc (Nat.le_refl _) _
    have HR3:=Hh (HR2.out.below b4)
    have HW3:=Hh (S2.out.2.2.2.below b4)
    have HC3:Hid (Ch (λx=>x=S) w (W.alloc (.cells #[.int .u8 0,.string ⟨#[]⟩,.string ⟨#[]⟩,.int .i64 0] 169))):=HC2.out.trans (Ch.of_below b4 _)
    refine hK _ _ ⟨HR3.out.c0,HR3.out.c4,HR3.out.c2,HW3.out⟩ ?_
    obtain⟨T,hT⟩:∃T,W.heap.size=T:=⟨_,rfl⟩
    have hTS:T≠S:=by have:=HR2.out.fin S HR2.out.dS;omega
    have hTD:¬D T:=λh=>by have:=S2.out.2.2.2.fin T h;omega
    have hTD':¬D' T:=λh=>by have:=HR2.out.fin T h;omega
    have hTw:w.heap.size<=T:=by rw[<-hT];exact HC2.out.size
    obtain⟨V1,hV1⟩:∃V1,W.alloc (.cells #[.int .u8 0,.string ⟨#[]⟩,.string ⟨#[]⟩,.int .i64 0] 169)=V1:=⟨_,rfl⟩
    rw[hV1] at hT1 HR3 HW3 HC3
    rw[hT] at hT1
    simp only[hV1,hT]
    clear hK K b4 hV1 hT S2 HR2 HC2
    apply wpT_one
    rfl
    intro K hK
    go_simp
    refine(HRD.out _).mono ?_
    rintro e V2 ⟨k0,n0,v0,c0,okb,rfl,hro,b1⟩
    have HRO:=Hh hro
    have HR4:=Hh (HR3.out.below b1)
    have HW4:=Hh (HW3.out.below b1)
    have HC4:Hid (Ch (λx=>x=S) w V2):=HC3.out.trans (Ch.of_below b1 _)
    have hT1:=hT1.ch (Ch.of_below b1 (λ_=>False)) id
    refine hK _ _ ⟨HR4.out.c0,HR4.out.c4,HR4.out.c2,HW4.out⟩ ?_
    clear hK K b1 hro HRD HR3 HW3 HC3
    have S3:Hid (V2.cell? ⟨S,0,none⟩=some (fptr X)/\V2.cell? ⟨S,4,none⟩=some (.int .i64 nx)/\V2.cell? ⟨S,2,none⟩=some (.int .i64 b)/\RW V2 D X y fl):=⟨HR4.out.c0,HR4.out.c4,HR4.out.c2,HW4.out⟩
    iterate 3 (apply wpT_go;rfl;rfl;exact S3.out;(rintro Z ⟨s0,s1,s2,s3⟩;go_simp;exact rfl);intro K hK;go_simp;refine hK _ ?_;clear hK K)
    clear S3
   all_goals
    have r0:=hT1.cell (i:=0) (by omega)
    have r1:=hT1.cell (i:=1) (by omega)
    have r2:=hT1.cell (i:=2) (by omega)
    have r3:=hT1.cell (i:=3) (by omega)
    have f0:=hT1.frozen 0
    have f1:=hT1.frozen 1
    have f2:=hT1.frozen 2
    have f3:=hT1.frozen 3
    have hCT:Ch (λx=>x=T) V2 ((((V2.setCell ⟨T,0,none⟩ (.int .u8 k0)).setCell ⟨T,1,none⟩ (.string n0)).setCell ⟨T,2,none⟩ (.string v0)).setCell ⟨T,3,none⟩ (.int .i64 c0)):=
     ((((Ch.refl (λx=>x=T) V2).setCell (p:=⟨T,0,none⟩) (λ_=>rfl) _).setCell (p:=⟨T,1,none⟩) (λ_=>rfl) _).setCell (p:=⟨T,2,none⟩) (λ_=>rfl) _).setCell (p:=⟨T,3,none⟩) (λ_=>rfl) _
    have hT5:Row ((((V2.setCell ⟨T,0,none⟩ (.int .u8 k0)).setCell ⟨T,1,none⟩ (.string n0)).setCell ⟨T,2,none⟩ (.string v0)).setCell ⟨T,3,none⟩ (.int .i64 c0)) T 169 4 (λj=>if j=0 then .int .u8 k0 else if j=1 then .string n0 else if j=2 then .string v0 else .int .i64 c0):=(hT1.set4 (.int .u8 k0) (.string n0) (.string v0) (.int .i64 c0)).congr λj hj=>by
     rcases(by omega:j=0\/j=1\/j=2\/j=3) with e|e|e|e<;>subst e<;>simp
    have HR5:=Hh (HR4.out.ch hCT (λk hk e=>hTD' (e▸hk)))
    have HW5:=Hh (HW4.out.ch hCT (λk hk e=>hTD (e▸hk)))
    have HC5:Hid (Ch (λx=>x=S) w ((((V2.setCell ⟨T,0,none⟩ (.int .u8 k0)).setCell ⟨T,1,none⟩ (.string n0)).setCell ⟨T,2,none⟩ (.string v0)).setCell ⟨T,3,none⟩ (.int .i64 c0))):=HC4.out.andThen hCT (λk e hk=>absurd hk (by rw[e];omega))
    have HT5:=Hh hT5
    clear hCT hT5 hT1 HR4 HW4 HC4
    apply wpT_one
    rfl
    intro K hK
    go_simp
    refine hK _ _ ⟨HR5.out.c0,HR5.out.c4,HR5.out.c2,HW5.out⟩ ?_
    clear hK K r0 r1 r2 r3 f0 f1 f2 f3
    generalize (((V2.setCell ⟨T,0,none⟩ (.int .u8 k0)).setCell ⟨T,1,none⟩ (.string n0)).setCell ⟨T,2,none⟩ (.string v0)).setCell ⟨T,3,none⟩ (.int .i64 c0)=w6 at *
    apply wpT_two
    rfl
    intro K hK
    go_simp
    refine hK _ _ ?_
    clear hK K
    refine wpT_done ?_
    have hpgd:(pgsF fl b).getD nx []=fl.pg b nx:=pgsF_get fl b nx hlt
    have hp64:(fl.pg b nx).length=64:=H.out.len b nx HB.out hlt
    rcases hdec:dec ((pgsF fl b).drop nx) with _|⟨k,n,v,c⟩
    ·have hokb:=HRO.out.2 hdec
     subst hokb
     obtain⟨pe,hpe⟩:∃pe:ByteArray,str (fl.pg b nx)=.string pe:=⟨_,rfl⟩
     have hpel:pe.data.toList=fl.pg b nx:=by injection hpe with hpe;rw[<-hpe]
     have hE2:=HE.out.1
     have hfin:rpl fl.P (pgsF fl b) [] 1=(V,nx,pe.data.toList.any (λx=>x != 255)):=by
      rw[hE2,hpel]
      by_cases hz:zeros (fl.pg b nx)=0
      ·rw[rpl_stop (by rw[hpgd];exact λh=>h.2 hz)]
       have:(fl.pg b nx).any (λx=>x != 255)=false:=by
        rw[List.any_eq_false];intro x hx;simp[(zeros_one _).1 hz x hx]
       rw[this]
      ·obtain⟨f',rfl⟩:∃f',f=f'+1:=⟨f-1,by omega⟩
       rw[rpl_none (by rw[pgsF_len,hpgd];exact⟨hlt,hz⟩) hdec]
       have:(fl.pg b nx).any (λx=>x != 255)=true:=by
        rw[List.any_eq_true]
        refine Classical.byContradiction λhn=>hz ((zeros_one _).2 λx hx=>?_)
        refine Classical.byContradiction λhx2=>hn ⟨x,hx,by simpa using hx2⟩
       rw[this]
     have HFIN:=Hh hfin
     obtain⟨N,hN⟩:∃N,pe.size=N:=⟨_,rfl⟩
     have hN64:N=64:=by rw[<-hN,bsz,hpel,hp64]
     have HN:=Hh hN
     have d0:w6.drew.cell? ⟨S,0,none⟩=some (fptr X):=HR5.out.c0
     have d2:w6.drew.cell? ⟨S,2,none⟩=some (.int .i64 b):=HR5.out.c2
     have d4:w6.drew.cell? ⟨S,4,none⟩=some (.int .i64 nx):=HR5.out.c4
     have d5:w6.drew.cell? ⟨X,3,none⟩=some (.slice (some ⟨y.pb,0,none⟩) fl.B y.pc):=HW5.out.c3
     have d6:w6.drew.cell? ⟨y.pb,b,none⟩=some (.slice (some ⟨y.g b,0,none⟩) fl.P (y.cp b)):=HW5.out.cs HB.out
     have d7:w6.drew.cell? ⟨y.g b,nx,none⟩=some (.string pe):=by rw[<-hpe];exact HW5.out.cg HB.out hlt
     have hbI:(b:Int)<(fl.B:Int):=by have:=HB.out;omega
     have hpc:=HW5.out.pc
     have hcp:=HW5.out.cp b HB.out
     have HR6:=Hh (HR5.out.below ((Below.refl _ w6).drew))
     have HC6:Hid (Ch (λx=>x=S) w w6.drew):=HC5.out.drew
     clear hpe hpel hE2 hfin hdec HRO HE HT5 hpgd hp64 HR5 HC5 HW5 hN
     go_wp2_with fail
     refine wp_region_pl (λ Y=>Y=w6.drew) ((0,0)::(1,0)::(2,0)::(3,0)::(4,0)::(5,0)::(6,0)::(7,0)::(8,0)::(9,0)::(10,0)::(11,0)::(12,0)::(13,0)::(14,0)::(15,0)::(16,0)::(17,0)::(18,0)::(19,0)::[]) (by kernel_rfl) (by kernel_rfl) ?_
     iterate 20 (apply wpP_go;rfl;rfl;exact rfl;(rintro Z rfl;go_simp;exact rfl);intro K hK;go_simp;refine hK _ ?_;clear hK K)
     refine wpP_done ?_
     clear d0 d2 d4 d5 d6 d7 hpc hcp
     generalize w6.drew=W6 at *
     go_wp2_with fail
     go_loopw [5] (λz wr=>∃i:Nat,i<=N/\z=.int .i64 (i:Int)/\Hid (RS wr D' S X ⟨V,b,g,nx,(pe.data.toList.take i).any (λx=>x != 255)⟩)/\Hid (Ch (λx=>x=S) w wr)) (λz _=>N-(intOf z).toNat)
     case atStart=>exact⟨0,by omega,rfl,HR6,HC6⟩
     case round=>
      clear HR6 HC6
      obtain⟨i,hi,rfl,HR,HC⟩:=hrel
      have hN:=HN.out
      by_cases hli:i<N
      ·have y0:(i:Int)<N:=by omega
       have hls:i<pe.size:=by omega
       have hgi:pe.data.toList.getD i 0=pe[i]'hls:=by
        rw[List.getD_eq_getElem?_getD,List.getElem?_eq_getElem (by rw[Array.length_toList];exact hls)];rfl
       have hat:=any_take (l:=pe.data.toList) (i:=i) (by rw[Array.length_toList];exact hls)
       have k5:=HR.out.c5
       have f5:=HR.out.fr 5
       have hw5:=λbb=>HR.out.withClo bb
       have HW5:=Hh hw5
       have hch:=λbb:Bool=>HC.out.setCell (p:=⟨S,5,none⟩) (λ_=>rfl) (.bool bb)
       have HCH:Hid (∀bb:Bool,Ch (λx=>x=S) w (wr.setCell ⟨S,5,none⟩ (.bool bb))):=hch
       rw[hgi] at hat
       have HAT:=Hh hat
       obtain⟨cl,hcl⟩:∃cl,(pe.data.toList.take i).any (λx=>x != 255)=cl:=⟨_,rfl⟩
       rw[hcl] at HAT
       have k5':wr.cell? ⟨S,5,none⟩=some (.bool cl):=by rw[<-hcl];exact k5
       clear hat hgi hcl k5 hw5 hch hN
       cases cl
       ·by_cases he:pe[i]'hls=255
        ·have h255:((pe[i]'hls).toNat:Int)=255:=by rw[he];rfl
         have HN2:Hid ((pe.data.toList.take (i+1)).any (λx=>x != 255)=false):=by show _=_;rw[HAT.out,he];rfl
         clear he
         go_wp2_with fail
         go_roundw
         case rel=>exact⟨i+1,by omega,by go_num,by (show RS _ _ _ _ _;rw[HN2.out];exact HW5.out false),HCH.out false⟩
         case measure=>simp[intOf];omega
        ·have hb5:(((pe[i]'hls).toNat:Int)==255)=false:=by
          rw[beq_eq_false_iff_ne]
          intro h9
          apply he
          apply UInt8.toNat_inj.1
          have:((255:UInt8).toNat:Int)=255:=rfl
          omega
         have hbne:(((pe[i]'hls).toNat:Int)!=255)=true:=by rw[bne,hb5];rfl
         have HN2:Hid ((pe.data.toList.take (i+1)).any (λx=>x != 255)=true):=by show _=_;rw[HAT.out];simpa using he
         clear he
         go_wp2_with fail
         go_roundw
         case rel=>exact⟨i+1,by omega,by go_num,by (show RS _ _ _ _ _;rw[HN2.out];exact HW5.out true),HCH.out true⟩
         case measure=>simp[intOf];omega
       ·have HN2:Hid ((pe.data.toList.take (i+1)).any (λx=>x != 255)=true):=by show _=_;rw[HAT.out];rfl
        go_wp2_with fail
        go_roundw
        case rel=>exact⟨i+1,by omega,by go_num,by (show RS _ _ _ _ _;rw[HN2.out];exact HW5.out true),HCH.out true⟩
        case measure=>simp[intOf];omega
      ·have y0:¬(i:Int)<N:=by omega
       have y1:¬(i:Int)<(pe.size:Int):=by omega
       have hti:pe.data.toList.take i=pe.data.toList:=List.take_of_length_le (by rw[Array.length_toList];show pe.size<=i;omega)
       have HR7:=HR
       rw[hti] at HR7
       clear hti hN
       go_wp2_with fail
       (try simp only[Exit.inBlock,Exit.then])
       refine bodyPost_ret (results_none rfl _ _ _) rfl ?_
       rw[HFIN.out]
       exact⟨rfl,⟨D',HD'.out,HR7.out⟩,HC.out⟩
    ·obtain⟨hokb,q0,q1,q2,q3⟩:=HRO.out.1 _ _ _ _ hdec
     subst hokb
     injection q0 with _ q0
     injection q3 with _ q3
     have q1':n0.data.toList=n:=by injection q1 with q1;rw[q1]
     have q2':v0.data.toList=v:=by injection q2 with q2;rw[q2]
     subst q0 q3
     obtain⟨hol,hcp,hc1,hc2⟩:=dec_some H64.out hdec
     rw[List.length_drop,pgsF_len] at hc2
     have hk:=okLens_k hol
     have hnv:=okLens_le hol
     have hz:zeros ((pgsF fl b).getD nx [])≠0:=λhz=>by
      have hff:((pgsF fl b).drop nx).getD 0 []=(pgsF fl b).getD nx []:=by simp[List.getD_eq_getElem?_getD]
      have:=dec_ff (ps:=(pgsF fl b).drop nx) (by
       rw[hff,hpgd,List.getD_eq_getElem?_getD,List.getElem?_eq_getElem (by omega)]
       exact(zeros_one _).1 (by rw[<-hpgd];exact hz) _ (List.getElem_mem _))
      rw[this] at hdec;cases hdec
     obtain⟨f',rfl⟩:∃f',f=f'+1:=⟨f-1,by omega⟩
     have hE2:=HE.out.1
     rw[rpl_some (by rw[pgsF_len];exact⟨hlt,hz⟩) hdec] at hE2
     have hVl:=HE.out.2
     have HAS:=Hh (appV_srt HR5.out.srt k n v)
     have HAV:=Hh (appV_hv HR5.out.hv (k:=k) hnv.1 hnv.2)
     have hnl:n.length<=24/\v.length<=128:=hnv
     have HEE:Hid (rpl fl.P (pgsF fl b) [] 1=rpl f' (pgsF fl b) (appV V k n v) (nx+c)):=hE2
     clear hE2 HE hz hdec HRO hcp hol hpgd hp64 q1 q2 hnv H64
     subst q1' q2'
     rcases hk with rfl|rfl|rfl
     ·have HR6:=Hh (HR5.out.below ((Below.refl _ w6).drew))
      have HC6:Hid (Ch (λx=>x=S) w w6.drew):=HC5.out.drew
      have HT6:Hid (Row w6.drew T 169 4 (λj=>if j=0 then .int .u8 1 else if j=1 then .string n0 else if j=2 then .string v0 else .int .i64 c)):=HT5.out.drew
      clear HR5 HC5 HT5 HW5
      obtain⟨a,cv,p1,hvs⟩:=HR6.out.c1
      have HVS:=Hh hvs
      obtain⟨L,hL⟩:∃L,V.length=L:=⟨_,rfl⟩
      have HLL:=Hh hL
      have S6:Hid (w6.drew.cell? ⟨S,1,none⟩=some (.slice a L cv)/\w6.drew.cell? ⟨T,1,none⟩=some (.string n0)/\w6.drew.cell? ⟨T,2,none⟩=some (.string v0)):=⟨by rw[<-hL];exact p1,HT6.out.cell (i:=1) (by omega),HT6.out.cell (i:=2) (by omega)⟩
      have hL1:L<=1000:=by omega
      have t0:w6.cell? ⟨T,0,none⟩=some (.int .u8 1):=HT6.out.cell (i:=0) (by omega)
      have HWT:=Hh (rwith_any HVS.out HLL.out (by omega) HR6.out.srt n0 v0)
      clear hvs p1 hL
      generalize hw6:w6.drew=W6 at *
      go_wp2_with fail
      refine wp_region_pt (λ Y=>Y.cell? ⟨S,1,none⟩=some (.slice a L cv)/\Y.cell? ⟨T,1,none⟩=some (.string n0)/\Y.cell? ⟨T,2,none⟩=some (.string v0)) ((0,0)::(1,0)::(2,0)::(3,0)::(4,0)::(5,0)::(6,0)::(7,0)::(8,0)::(9,1)::(10,0)::(11,0)::(12,2)::[]) (by kernel_rfl) (by kernel_rfl) ?_
      rw[hw6]
      clear hw6
      iterate 9 (apply wpP_go;rfl;rfl;exact S6.out;(rintro Z ⟨s0,s1,s2⟩;go_simp;exact rfl);intro K hK;go_simp;refine hK _ ?_;clear hK K)
      apply wpP_one
      rfl
      intro K hK
      go_simp
      refine HWT.out.mono ?_
      rintro e V3 ⟨v2,rfl,hov⟩
      obtain⟨a2,c2,rfl,hv2,hg2⟩:=hov.form
      have hlt2:=hov.lt
      have b3:=hov.bel
      have S8:Hid (V3.cell? ⟨S,1,none⟩=some (.slice a L cv)/\V3.cell? ⟨T,1,none⟩=some (.string n0)/\V3.cell? ⟨T,2,none⟩=some (.string v0)):=⟨cell_later b3 S6.out.1,cell_later b3 S6.out.2.1,cell_later b3 S6.out.2.2⟩
      refine hK _ _ S8.out ?_
      have HRA:=Hh (HR6.out.below b3)
      have HTA:Hid (Row V3 T 169 4 (λj=>if j=0 then .int .u8 1 else if j=1 then .string n0 else if j=2 then .string v0 else .int .i64 c)):=HT6.out.ch (Ch.of_below b3 (λ_=>False)) id
      have HCA:Hid (Ch (λx=>x=S) w V3):=HC6.out.trans (Ch.of_below b3 _)
      have hszz:=HC6.out.size
      have hV8:(setV V n0.data.toList v0.data.toList).length<=nx+1:=by have:=setV_len V n0.data.toList v0.data.toList;omega
      have hS6:S<W6.heap.size:=HR6.out.fin S HR6.out.dS
      have HRB:Hid (RS (V3.setCell ⟨S,1,none⟩ (.slice a2 (setV V n0.data.toList v0.data.toList).length c2)) (λk=>D' k\/a2=some ⟨k,0,none⟩) S X ⟨(setV V n0.data.toList v0.data.toList),b,g,nx,false⟩):=HRA.out.withV hv2 (λk e=>⟨λe2=>by have:=hg2 k e;omega,hlt2 k e⟩) (by have:=HAS.out;simpa[appV] using this) (by have:=HAV.out;simpa[appV] using this) hV8
      have HDB:Hid (∀i,(D' i\/a2=some ⟨i,0,none⟩)->DS i\/w.heap.size<=i):=λi hi=>hi.elim (HD'.out i) (λe=>.inr (Nat.le_trans hszz (hg2 i e)))
      have hTS':T≠S:=hTS
      have HTB:Hid (Row (V3.setCell ⟨S,1,none⟩ (.slice a2 (setV V n0.data.toList v0.data.toList).length c2)) T 169 4 (λj=>if j=0 then .int .u8 1 else if j=1 then .string n0 else if j=2 then .string v0 else .int .i64 c)):=HTA.out.far (p:=⟨S,1,none⟩) hTS' _
      have HCB:Hid (Ch (λx=>x=S) w (V3.setCell ⟨S,1,none⟩ (.slice a2 (setV V n0.data.toList v0.data.toList).length c2))):=HCA.out.setCell (p:=⟨S,1,none⟩) (λ_=>rfl) _
      have p8:=S8.out.1
      have f8:=HRA.out.fr 1
      have HAE:Hid (appV V 1 n0.data.toList v0.data.toList=(setV V n0.data.toList v0.data.toList)):=rfl
      rw[HAE.out] at HEE
      clear hK K hov hv2 hg2 hlt2 b3 S6 HWT HVS HR6 HC6 HT6 HRA HTA HCA hV8 hszz hS6
      obtain⟨L2,hL2⟩:∃L2,(setV V n0.data.toList v0.data.toList).length=L2:=⟨_,rfl⟩
      rw[hL2] at HRB HTB HCB ⊢
      iterate 2 (apply wpP_go;rfl;rfl;exact S8.out;(rintro Z ⟨s0,s1,s2⟩;go_simp;exact rfl);intro K hK;go_simp;refine hK _ ?_;clear hK K)
      clear S8
      apply wpP_two
      rfl
      intro K hK
      go_simp
      refine hK _ _ ?_
      clear hK K p8 f8
      refine wpP_done ?_
      generalize V3.setCell ⟨S,1,none⟩ (.slice a2 L2 c2)=W8 at *
      have HL2:=Hh hL2
      clear hL2
      have S7:Hid (W8.drew.cell? ⟨S,4,none⟩=some (.int .i64 nx)/\W8.drew.cell? ⟨T,3,none⟩=some (.int .i64 c)):=⟨HRB.out.c4,HTB.out.cell (i:=3) (by omega)⟩
      have S7':=S7.out
      have HR7:=Hh (HRB.out.below ((Below.refl _ W8).drew))
      have HC7:Hid (Ch (λx=>x=S) w W8.drew):=HCB.out.drew
      have hnw:IntKind.i64.wrap ((nx:Int)+(c:Int))=(nx:Int)+(c:Int):=IntWalk.i64_in _ ⟨by omega,by omega⟩
      have m4:=HR7.out.c4
      have mf:=HR7.out.fr 4
      clear HRB HCB HTB
      go_wp2_with fail
      refine wp_region_pt (λ Y=>Y=W8.drew) ((0,0)::(1,0)::(2,0)::(3,0)::(4,0)::(5,0)::(6,0)::(7,0)::(8,0)::(9,0)::(10,2)::[]) (by kernel_rfl) (by kernel_rfl) ?_
      obtain⟨t0,t1⟩:=S7'
      iterate 10 (apply wpP_go;rfl;rfl;exact rfl;(rintro Z rfl;go_simp;exact rfl);intro K hK;go_simp;refine hK _ ?_;clear hK K)
      apply wpP_two
      rfl
      intro K hK
      go_simp
      refine hK _ _ ?_
      clear hK K t0 t1
      refine wpP_done ?_
      have hV9:(setV V n0.data.toList v0.data.toList).length<=nx+1:=by have:=hVl;have:=setV_len V n0.data.toList v0.data.toList;omega
      have HR8:Hid (RS (W8.drew.setCell ⟨S,4,none⟩ (.int .i64 ((nx+c:Nat):Int))) (λk=>D' k\/a2=some ⟨k,0,none⟩) S X ⟨(setV V n0.data.toList v0.data.toList),b,g,nx+c,false⟩):=HR7.out.withNxt (nx:=nx+c) (by omega) (by show(setV V n0.data.toList v0.data.toList).length<=nx+c+1;omega)
      have HC8:Hid (Ch (λx=>x=S) w (W8.drew.setCell ⟨S,4,none⟩ (.int .i64 ((nx+c:Nat):Int)))):=HC7.out.setCell (p:=⟨S,4,none⟩) (λ_=>rfl) _
      clear m4 mf S7 HR7 HC7
      go_wp2_with fail
      have hpp:(nx:Int)+(c:Int)=((nx+c:Nat):Int):=by omega
      rw[hpp]
      go_roundw
      case rel=>exact⟨f',nx+c,(setV V n0.data.toList v0.data.toList),by omega,by omega,by omega,HR8.out.c4,⟨HEE.out,by show(setV V n0.data.toList v0.data.toList).length<=nx+c;omega⟩,⟨(λk=>D' k\/a2=some ⟨k,0,none⟩),HDB.out,HR8.out⟩,HC8⟩
      case measure=>
       change fl.P-(intOf (((W8.drew.setCell ⟨S,4,none⟩ (.int .i64 ((nx+c:Nat):Int))).cell? ⟨S,4,none⟩).getD undef)).toNat<_
       rw[HR8.out.c4,HM4.out]
       simp[intOf]
       omega
     ·have HR6:=Hh (HR5.out.below ((Below.refl _ w6).drew))
      have HC6:Hid (Ch (λx=>x=S) w w6.drew):=HC5.out.drew
      have HT6:Hid (Row w6.drew T 169 4 (λj=>if j=0 then .int .u8 2 else if j=1 then .string n0 else if j=2 then .string v0 else .int .i64 c)):=HT5.out.drew
      clear HR5 HC5 HT5 HW5
      obtain⟨a,cv,p1,hvs⟩:=HR6.out.c1
      have HVS:=Hh hvs
      obtain⟨L,hL⟩:∃L,V.length=L:=⟨_,rfl⟩
      have HLL:=Hh hL
      have S6:Hid (w6.drew.cell? ⟨S,1,none⟩=some (.slice a L cv)/\w6.drew.cell? ⟨T,1,none⟩=some (.string n0)/\w6.drew.cell? ⟨T,2,none⟩=some (.string v0)):=⟨by rw[<-hL];exact p1,HT6.out.cell (i:=1) (by omega),HT6.out.cell (i:=2) (by omega)⟩
      have hL1:L<=1000:=by omega
      have t0:w6.cell? ⟨T,0,none⟩=some (.int .u8 2):=HT6.out.cell (i:=0) (by omega)
      have HWT:=Hh (rwithout_any HVS.out HLL.out (by omega) n0)
      clear hvs p1 hL
      generalize hw6:w6.drew=W6 at *
      go_wp2_with fail
      refine wp_region_pt (λ Y=>Y.cell? ⟨S,1,none⟩=some (.slice a L cv)/\Y.cell? ⟨T,1,none⟩=some (.string n0)/\Y.cell? ⟨T,2,none⟩=some (.string v0)) ((0,0)::(1,0)::(2,0)::(3,0)::(4,0)::(5,0)::(6,0)::(7,1)::(8,0)::(9,0)::(10,2)::[]) (by kernel_rfl) (by kernel_rfl) ?_
      rw[hw6]
      clear hw6
      iterate 7 (apply wpP_go;rfl;rfl;exact S6.out;(rintro Z ⟨s0,s1,s2⟩;go_simp;exact rfl);intro K hK;go_simp;refine hK _ ?_;clear hK K)
      apply wpP_one
      rfl
      intro K hK
      go_simp
      refine HWT.out.mono ?_
      rintro e V3 ⟨v2,rfl,hov⟩
      obtain⟨a2,c2,rfl,hv2,hg2⟩:=hov.form
      have hlt2:=hov.lt
      have b3:=hov.bel
      have S8:Hid (V3.cell? ⟨S,1,none⟩=some (.slice a L cv)/\V3.cell? ⟨T,1,none⟩=some (.string n0)/\V3.cell? ⟨T,2,none⟩=some (.string v0)):=⟨cell_later b3 S6.out.1,cell_later b3 S6.out.2.1,cell_later b3 S6.out.2.2⟩
      refine hK _ _ S8.out ?_
      have HRA:=Hh (HR6.out.below b3)
      have HTA:Hid (Row V3 T 169 4 (λj=>if j=0 then .int .u8 2 else if j=1 then .string n0 else if j=2 then .string v0 else .int .i64 c)):=HT6.out.ch (Ch.of_below b3 (λ_=>False)) id
      have HCA:Hid (Ch (λx=>x=S) w V3):=HC6.out.trans (Ch.of_below b3 _)
      have hszz:=HC6.out.size
      have hV8:(delV V n0.data.toList).length<=nx+1:=by have:=delV_len V n0.data.toList;omega
      have hS6:S<W6.heap.size:=HR6.out.fin S HR6.out.dS
      have HRB:Hid (RS (V3.setCell ⟨S,1,none⟩ (.slice a2 (delV V n0.data.toList).length c2)) (λk=>D' k\/a2=some ⟨k,0,none⟩) S X ⟨(delV V n0.data.toList),b,g,nx,false⟩):=HRA.out.withV hv2 (λk e=>⟨λe2=>by have:=hg2 k e;omega,hlt2 k e⟩) (by have:=HAS.out;simpa[appV] using this) (by have:=HAV.out;simpa[appV] using this) hV8
      have HDB:Hid (∀i,(D' i\/a2=some ⟨i,0,none⟩)->DS i\/w.heap.size<=i):=λi hi=>hi.elim (HD'.out i) (λe=>.inr (Nat.le_trans hszz (hg2 i e)))
      have hTS':T≠S:=hTS
      have HTB:Hid (Row (V3.setCell ⟨S,1,none⟩ (.slice a2 (delV V n0.data.toList).length c2)) T 169 4 (λj=>if j=0 then .int .u8 2 else if j=1 then .string n0 else if j=2 then .string v0 else .int .i64 c)):=HTA.out.far (p:=⟨S,1,none⟩) hTS' _
      have HCB:Hid (Ch (λx=>x=S) w (V3.setCell ⟨S,1,none⟩ (.slice a2 (delV V n0.data.toList).length c2))):=HCA.out.setCell (p:=⟨S,1,none⟩) (λ_=>rfl) _
      have p8:=S8.out.1
      have f8:=HRA.out.fr 1
      have HAE:Hid (appV V 2 n0.data.toList v0.data.toList=(delV V n0.data.toList)):=rfl
      rw[HAE.out] at HEE
      clear hK K hov hv2 hg2 hlt2 b3 S6 HWT HVS HR6 HC6 HT6 HRA HTA HCA hV8 hszz hS6
      obtain⟨L2,hL2⟩:∃L2,(delV V n0.data.toList).length=L2:=⟨_,rfl⟩
      rw[hL2] at HRB HTB HCB ⊢
      iterate 2 (apply wpP_go;rfl;rfl;exact S8.out;(rintro Z ⟨s0,s1,s2⟩;go_simp;exact rfl);intro K hK;go_simp;refine hK _ ?_;clear hK K)
      clear S8
      apply wpP_two
      rfl
      intro K hK
      go_simp
      refine hK _ _ ?_
      clear hK K p8 f8
      refine wpP_done ?_
      generalize V3.setCell ⟨S,1,none⟩ (.slice a2 L2 c2)=W8 at *
      have HL2:=Hh hL2
      clear hL2
      have S7:Hid (W8.drew.cell? ⟨S,4,none⟩=some (.int .i64 nx)/\W8.drew.cell? ⟨T,3,none⟩=some (.int .i64 c)):=⟨HRB.out.c4,HTB.out.cell (i:=3) (by omega)⟩
      have S7':=S7.out
      have HR7:=Hh (HRB.out.below ((Below.refl _ W8).drew))
      have HC7:Hid (Ch (λx=>x=S) w W8.drew):=HCB.out.drew
      have hnw:IntKind.i64.wrap ((nx:Int)+(c:Int))=(nx:Int)+(c:Int):=IntWalk.i64_in _ ⟨by omega,by omega⟩
      have m4:=HR7.out.c4
      have mf:=HR7.out.fr 4
      clear HRB HCB HTB
      go_wp2_with fail
      refine wp_region_pt (λ Y=>Y=W8.drew) ((0,0)::(1,0)::(2,0)::(3,0)::(4,0)::(5,0)::(6,0)::(7,0)::(8,0)::(9,0)::(10,2)::[]) (by kernel_rfl) (by kernel_rfl) ?_
      obtain⟨t0,t1⟩:=S7'
      iterate 10 (apply wpP_go;rfl;rfl;exact rfl;(rintro Z rfl;go_simp;exact rfl);intro K hK;go_simp;refine hK _ ?_;clear hK K)
      apply wpP_two
      rfl
      intro K hK
      go_simp
      refine hK _ _ ?_
      clear hK K t0 t1
      refine wpP_done ?_
      have hV9:(delV V n0.data.toList).length<=nx+1:=by have:=hVl;have:=delV_len V n0.data.toList;omega
      have HR8:Hid (RS (W8.drew.setCell ⟨S,4,none⟩ (.int .i64 ((nx+c:Nat):Int))) (λk=>D' k\/a2=some ⟨k,0,none⟩) S X ⟨(delV V n0.data.toList),b,g,nx+c,false⟩):=HR7.out.withNxt (nx:=nx+c) (by omega) (by show(delV V n0.data.toList).length<=nx+c+1;omega)
      have HC8:Hid (Ch (λx=>x=S) w (W8.drew.setCell ⟨S,4,none⟩ (.int .i64 ((nx+c:Nat):Int)))):=HC7.out.setCell (p:=⟨S,4,none⟩) (λ_=>rfl) _
      clear m4 mf S7 HR7 HC7
      go_wp2_with fail
      have hpp:(nx:Int)+(c:Int)=((nx+c:Nat):Int):=by omega
      rw[hpp]
      go_roundw
      case rel=>exact⟨f',nx+c,(delV V n0.data.toList),by omega,by omega,by omega,HR8.out.c4,⟨HEE.out,by show(delV V n0.data.toList).length<=nx+c;omega⟩,⟨(λk=>D' k\/a2=some ⟨k,0,none⟩),HDB.out,HR8.out⟩,HC8⟩
      case measure=>
       change fl.P-(intOf (((W8.drew.setCell ⟨S,4,none⟩ (.int .i64 ((nx+c:Nat):Int))).cell? ⟨S,4,none⟩).getD undef)).toNat<_
       rw[HR8.out.c4,HM4.out]
       simp[intOf]
       omega
     ·have HAE:Hid (appV V 3 n0.data.toList v0.data.toList=V):=rfl
      rw[HAE.out] at HEE
      have HT6:Hid (Row w6 T 169 4 (λj=>if j=0 then .int .u8 3 else if j=1 then .string n0 else if j=2 then .string v0 else .int .i64 c)):=HT5.out
      have t0:w6.cell? ⟨T,0,none⟩=some (.int .u8 3):=HT5.out.cell (i:=0) (by omega)
      clear HT5 HW5
      have S7:Hid (w6.drew.cell? ⟨S,4,none⟩=some (.int .i64 nx)/\w6.drew.cell? ⟨T,3,none⟩=some (.int .i64 c)):=⟨HR5.out.c4,HT6.out.cell (i:=3) (by omega)⟩
      have S7':=S7.out
      have HR7:=Hh (HR5.out.below ((Below.refl _ w6).drew))
      have HC7:Hid (Ch (λx=>x=S) w w6.drew):=HC5.out.drew
      have hnw:IntKind.i64.wrap ((nx:Int)+(c:Int))=(nx:Int)+(c:Int):=IntWalk.i64_in _ ⟨by omega,by omega⟩
      have m4:=HR7.out.c4
      have mf:=HR7.out.fr 4
      clear HR5 HC5 HT6
      go_wp2_with fail
      refine wp_region_pt (λ Y=>Y=w6.drew) ((0,0)::(1,0)::(2,0)::(3,0)::(4,0)::(5,0)::(6,0)::(7,0)::(8,0)::(9,0)::(10,2)::[]) (by kernel_rfl) (by kernel_rfl) ?_
      obtain⟨t0,t1⟩:=S7'
      iterate 10 (apply wpP_go;rfl;rfl;exact rfl;(rintro Z rfl;go_simp;exact rfl);intro K hK;go_simp;refine hK _ ?_;clear hK K)
      apply wpP_two
      rfl
      intro K hK
      go_simp
      refine hK _ _ ?_
      clear hK K t0 t1
      refine wpP_done ?_
      have hV9:V.length<=nx+1:=by have:=hVl;have:=hVl;omega
      have HR8:Hid (RS (w6.drew.setCell ⟨S,4,none⟩ (.int .i64 ((nx+c:Nat):Int))) D' S X ⟨V,b,g,nx+c,false⟩):=HR7.out.withNxt (nx:=nx+c) (by omega) (by show V.length<=nx+c+1;omega)
      have HC8:Hid (Ch (λx=>x=S) w (w6.drew.setCell ⟨S,4,none⟩ (.int .i64 ((nx+c:Nat):Int)))):=HC7.out.setCell (p:=⟨S,4,none⟩) (λ_=>rfl) _
      clear m4 mf S7 HR7 HC7
      go_wp2_with fail
      have hpp:(nx:Int)+(c:Int)=((nx+c:Nat):Int):=by omega
      rw[hpp]
      go_roundw
      case rel=>exact⟨f',nx+c,V,by omega,by omega,by omega,HR8.out.c4,⟨HEE.out,by show V.length<=nx+c;omega⟩,⟨D',HD'.out,HR8.out⟩,HC8⟩
      case measure=>
       change fl.P-(intOf (((w6.drew.setCell ⟨S,4,none⟩ (.int .i64 ((nx+c:Nat):Int))).cell? ⟨S,4,none⟩).getD undef)).toNat<_
       rw[HR8.out.c4,HM4.out]
       simp[intOf]
       omega
  ·have hltI:¬(nx:Int)<(fl.P:Int):=by omega
   have hE2:rpl fl.P (pgsF fl b) [] 1=(V,nx,false):=HE.out.1.trans (rpl_stop (by rw[pgsF_len];exact λh=>absurd h.1 hlt))
   have HE2:=Hh hE2
   have S1:Hid (wr.drew.cell? ⟨S,0,none⟩=some (fptr X)/\wr.drew.cell? ⟨S,4,none⟩=some (.int .i64 nx)/\wr.drew.cell? ⟨X,1,none⟩=some (.int .i64 fl.P)):=⟨hrs.c0,hrs.c4,hrw.c1⟩
   have HR2:=Hh (hrs.below ((Below.refl _ wr).drew))
   have HC2:Hid (Ch (λx=>x=S) w wr.drew):=HC.out.drew
   clear hE2 hrs hrw HC HE
   go_wp2_with fail
   refine wp_region_pl (λ Y=>Y.cell? ⟨S,0,none⟩=some (fptr X)/\Y.cell? ⟨S,4,none⟩=some (.int .i64 nx)/\Y.cell? ⟨X,1,none⟩=some (.int .i64 fl.P)) ((0,0)::(1,0)::(2,0)::(3,0)::(4,0)::(5,0)::(6,0)::(7,0)::(8,0)::(9,0)::(10,0)::(11,0)::(12,0)::[]) (by kernel_rfl) (by kernel_rfl) ?_
   iterate 13 (apply wpP_go;rfl;rfl;exact S1.out;(rintro Z ⟨s0,s1,s2⟩;go_simp;exact rfl);intro K hK;go_simp;refine hK _ ?_;clear hK K)
   refine wpP_done ?_
   clear S1
   go_wp2_with fail
   go_end0
   rw[HE2.out]
   exact⟨rfl,⟨D',HD'.out,HR2.out⟩,HC2.out⟩
end
section
def rso (o:Option (Nat×Nat))(X j:Nat):Value:=if j=0 then fptr X else if j=1 then .slice none 0 0 else if j=2 then (match o with|none=>.int .i64 (-1)|some p=>.int .i64 p.1) else if j=3 then (match o with|none=>.int .u64 0|some p=>.int .u64 p.2) else if j=4 then .int .i64 0 else .bool false
section
variable {w w':World}{D DS:Nat->Prop}{S X:Nat}{st:ST}{y:RLay}{fl:FL}
theorem ropen_any (h:RW w D X y fl):Calls Tryz.prog 38 #[fptr X] w λe w'=>Below w.heap.size w w' /\
  ((∃c,opnF fl=(c,none)/\e=.returned (.tuple #[.pointer none,.int .i64 c])) \/
  (∃st S DS,opnF fl=(0,some st)/\e=.returned (.tuple #[fptr S,.int .i64 0])/\(∀k,DS k->w.heap.size<=k)/\RS w' DS S X st/\st.blk<fl.B)):=by
 have HSM:=Hh (rsmall_any h)
 have H:=Hh h
 have hB:=h.hB
 have hP:=h.hP
 have c5:=h.c5
 obtain⟨sm,hsm⟩:∃sm,(decide (fl.B<2)||decide (fl.P<2))=sm:=⟨_,rfl⟩
 rw[hsm] at HSM
 clear h
 cases sm
 ·have hB2:2<=fl.B/\2<=fl.P:=by simp at hsm;omega
  have hus:(decide (2<=fl.B)&&decide (2<=fl.P))=true:=by simp;exact hB2
  have HU:=Hh hus
  clear hsm hus
  cases ho:fl.off
  ·have HO1:=Hh ho
   rw[ho] at c5
   clear ho
   have R1:Rg (w.alloc (.cells #[fptr X,.slice none 0 0,.int .i64 (-1),.int .u64 0,.int .i64 0,.bool false] 167)) w.heap.size 167 6 (rso none X):=
    ⟨_,heap_alloc_new w _,λi hi=>by rcases(by omega:i=0\/i=1\/i=2\/i=3\/i=4\/i=5) with e|e|e|e|e|e<;>subst e<;>rfl⟩
   have B1:Below w.heap.size w (w.alloc (.cells #[fptr X,.slice none 0 0,.int .i64 (-1),.int .u64 0,.int .i64 0,.bool false] 167)):=(Below.refl _ _).alloc (Nat.le_refl _) _
   have HS0:=Hh R1
   have HB0:=Hh B1
   have HO0:Hid (opnK fl 0=none/\∀b g,(none:Option (Nat×Nat))=some (b,g)->g<=18446744073709551615):=⟨rfl,λb g e=>by cases e⟩
   obtain⟨S,hS⟩:∃S,w.heap.size=S:=⟨_,rfl⟩
   have HSS:=Hh hS
   clear R1 B1
   go_enter Tryz.func38,Tryz.ntmps38
   go_wp2_with fail
   refine HSM.out.mono ?_
   rintro e w1 ⟨rfl,rfl⟩
   clear HSM
   go_wp2_with fail
   rw[hS] at HS0
   clear c5 hS
   generalize w.alloc (.cells #[fptr X,.slice none 0 0,.int .i64 (-1),.int .u64 0,.int .i64 0,.bool false] 167)=wa at *
   go_loopw [5] (λz wr=>∃(k:Nat) (o:Option (Nat×Nat)),k<=fl.B/\z=.int .i64 (k:Int)/\Hid (opnK fl k=o/\∀b g,o=some (b,g)->g<=18446744073709551615)/\Hid (Rg wr S 167 6 (rso o X))/\Hid (Below w.heap.size w wr)) (λz _=>fl.B-(intOf z).toNat)
   case atStart=>exact⟨0,none,by omega,rfl,HO0,HS0,HB0⟩
   case round=>
    clear HO0 HS0 HB0
    obtain⟨k,o,hk,rfl,HO,HS,HB⟩:=hrel
    by_cases hlt:k<fl.B
    ·have hkB:(k:Int)<(fl.B:Int):=by omega
     have hrw:=H.out.below HB.out
     have h64:=H.out.p64 hlt
     obtain⟨sb,hsb⟩:∃sb:ByteArray,str ((pgsF fl k).drop 0).flatten=.string sb:=⟨_,rfl⟩
     have hsbl:sb.data.toList=(pgsF fl k).flatten:=by injection hsb with hsb;rw[<-hsb];rfl
     have hsz:sb.size=fl.P*64:=by rw[bsz,hsbl,flat_len _ h64,pgsF_len]
     have hdf:dec (pgsF fl k)=decF sb.data.toList:=by rw[hsbl];exact dec_flat h64
     have HBK:=Hh (rblock_any hrw hlt (Nat.zero_le fl.P))
     rw[hsb] at HBK
     have HRD:=Hh (rread_any sb wr (by omega) (by omega))
     rw[<-hdf] at HRD
     have k1:=hrw.c0
     have hok3:∀a n v c,dec (pgsF fl k)=some (a,n,v,c)->okLens a n.length v.length=true:=λa n v c e=>(dec_some h64 e).1
     have HOK:=Hh hok3
     have hsuc:opnK fl (k+1)=pickG (opnK fl k) k (hdrG (pgsF fl k)):=rfl
     rw[HO.out.1] at hsuc
     have HSUC:=Hh hsuc
     clear hsb hsbl hsz hdf hok3 hsuc h64 hrw
     go_wp2_with fail
     refine HBK.out.mono ?_
     rintro e w4 ⟨rfl,rfl⟩
     go_wp2_with fail
     refine HRD.out.mono ?_
     rintro e w5 ⟨k0,n0,v0,c0,okb,rfl,hro,b5⟩
     have HRO:=Hh hro
     have HB5:Hid (Below w.heap.size w w5):=HB.out.trans (b5.mono HB.out.size)
     have HS5:=Hh (HS.out.ch (Ch.of_below b5 (λ_=>False)) id)
     have hT0:Row (w5.alloc (.cells #[.int .u8 0,.string ⟨#[]⟩,.string ⟨#[]⟩,.int .i64 0] 169)) w5.heap.size 169 4 (λj=>if j=0 then .int .u8 0 else if j=1 then .string ⟨#[]⟩ else if j=2 then .string ⟨#[]⟩ else .int .i64 0):=Row.ofList w5 169 _ _ 4 rfl
     have b4:Below w5.heap.size w5 (w5.alloc (.cells #[.int .u8 0,.string ⟨#[]⟩,.string ⟨#[]⟩,.int .i64 0] 169)):=(Below.refl _ _).alloc (Nat.le_refl _) _
     obtain⟨T,hT⟩:∃T,w5.heap.size=T:=⟨_,rfl⟩
     obtain⟨V2,hV2⟩:∃V2,w5.alloc (.cells #[.int .u8 0,.string ⟨#[]⟩,.string ⟨#[]⟩,.int .i64 0] 169)=V2:=⟨_,rfl⟩
     have hTS:T≠S:=by have:=HS5.out.lt;omega
     have hTw:w.heap.size<=T:=by rw[<-hT];exact HB5.out.size
     rw[hT,hV2] at hT0
     rw[hV2] at b4
     have hS2:=HS5.out.ch (Ch.of_below b4 (λ_=>False)) id
     have hB2':=HB5.out.trans (b4.mono HB5.out.size)
     have r0:=hT0.cell (i:=0) (by omega)
     have r1:=hT0.cell (i:=1) (by omega)
     have r2:=hT0.cell (i:=2) (by omega)
     have r3:=hT0.cell (i:=3) (by omega)
     have f0:=hT0.frozen 0
     have f1:=hT0.frozen 1
     have f2:=hT0.frozen 2
     have f3:=hT0.frozen 3
     have HT6:Hid (Row ((((V2.setCell ⟨T,0,none⟩ (.int .u8 k0)).setCell ⟨T,1,none⟩ (.string n0)).setCell ⟨T,2,none⟩ (.string v0)).setCell ⟨T,3,none⟩ (.int .i64 c0)) T 169 4 (λj=>if j=0 then .int .u8 k0 else if j=1 then .string n0 else if j=2 then .string v0 else .int .i64 c0)):=(hT0.set4 (.int .u8 k0) (.string n0) (.string v0) (.int .i64 c0)).congr λj hj=>by
      rcases(by omega:j=0\/j=1\/j=2\/j=3) with e|e|e|e<;>subst e<;>simp
     have HS6:Hid (Rg ((((V2.setCell ⟨T,0,none⟩ (.int .u8 k0)).setCell ⟨T,1,none⟩ (.string n0)).setCell ⟨T,2,none⟩ (.string v0)).setCell ⟨T,3,none⟩ (.int .i64 c0)) S 167 6 (rso o X)):=(((hS2.far (p:=⟨T,0,none⟩) hTS (.int .u8 k0)).far (p:=⟨T,1,none⟩) hTS (.string n0)).far (p:=⟨T,2,none⟩) hTS (.string v0)).far (p:=⟨T,3,none⟩) hTS (.int .i64 c0)
     have HB6:Hid (Below w.heap.size w ((((V2.setCell ⟨T,0,none⟩ (.int .u8 k0)).setCell ⟨T,1,none⟩ (.string n0)).setCell ⟨T,2,none⟩ (.string v0)).setCell ⟨T,3,none⟩ (.int .i64 c0))):=(((hB2'.setCell (p:=⟨T,0,none⟩) hTw _).setCell (p:=⟨T,1,none⟩) hTw _).setCell (p:=⟨T,2,none⟩) hTw _).setCell (p:=⟨T,3,none⟩) hTw _
     clear hro b5 HBK HRD HB HS k1 b4 hT0 hS2 hB2' HS5 HB5
     go_wp2_with fail
     clear hT hV2 r0 r1 r2 r3 f0 f1 f2 f3
     generalize ((((V2.setCell ⟨T,0,none⟩ (.int .u8 k0)).setCell ⟨T,1,none⟩ (.string n0)).setCell ⟨T,2,none⟩ (.string v0)).setCell ⟨T,3,none⟩ (.int .i64 c0))=w6 at *
     rcases hdec:dec (pgsF fl k) with _|⟨kd,n,v,c⟩
     ·have hokb:=HRO.out.2 hdec
      subst hokb
      have HNX:Hid (opnK fl (k+1)=o/\∀b g,o=some (b,g)->g<=18446744073709551615):=⟨by rw[HSUC.out,hdrG_no hdec];rfl,HO.out.2⟩
      clear hdec HRO HOK HSUC HO
      refine wp_region_pl (λ Y=>Y=w6.drew) ((0,0)::(1,0)::(2,0)::(3,0)::(4,0)::(5,0)::(6,0)::(7,0)::(8,0)::(9,0)::(10,0)::(11,0)::(12,0)::(13,0)::(14,0)::(15,0)::(16,0)::(17,0)::(18,0)::(19,0)::(20,0)::(21,0)::(22,0)::[]) (by kernel_rfl) (by kernel_rfl) ?_
      iterate 2 (apply wpP_go;rfl;rfl;exact rfl;(rintro Z rfl;go_simp;exact rfl);intro K hK;go_simp;refine hK _ ?_;clear hK K)
      iterate 3 (apply wpP_not;rfl;rfl;exact rfl;intro K hK;go_simp;refine hK _ ?_;clear hK K)
      iterate 2 (apply wpP_go;rfl;rfl;exact rfl;(rintro Z rfl;go_simp;exact rfl);intro K hK;go_simp;refine hK _ ?_;clear hK K)
      iterate 15 (apply wpP_not;rfl;rfl;exact rfl;intro K hK;go_simp;refine hK _ ?_;clear hK K)
      iterate 1 (apply wpP_go;rfl;rfl;exact rfl;(rintro Z rfl;go_simp;exact rfl);intro K hK;go_simp;refine hK _ ?_;clear hK K)
      refine wpP_done ?_
      have HS7:Hid (Rg w6.drew S 167 6 (rso o X)):=HS6.out.ch ((Ch.refl (λ_=>False) w6).drew) id
      have HB7:Hid (Below w.heap.size w w6.drew):=HB6.out.drew
      clear HS6 HB6 HT6
      skip
      generalize w6.drew=W7 at *
      go_wp2_with fail
      go_roundw
      case rel=>exact⟨k+1,o,by omega,by go_num,HNX,HS7,HB7⟩
      case measure=>simp[intOf];omega
     ·obtain⟨hokb,q0,q1,q2,q3⟩:=HRO.out.1 _ _ _ _ hdec
      subst hokb
      injection q0 with _ q0
      injection q3 with _ q3
      have q2':v0.data.toList=v:=by injection q2 with q2;rw[q2]
      subst q0 q3
      have hol:=HOK.out _ _ _ _ hdec
      have hk8:=okLens_k hol
      by_cases hk3:kd=3
      ·subst hk3
       have hv8:v0.size=8:=by
        rw[bsz,q2']
        unfold okLens at hol
        simp at hol
        exact hol.2
       have hh3:=hdrG_3 hdec
       rw[hh3,<-q2'] at HSUC
       have hgb:numB v0.data.toList<=18446744073709551615:=by have h1:=numB_lt v0.data.toList;rw[show v0.data.toList.length=8 from hv8] at h1;omega
       have HNUM:Hid (∀W,Calls Tryz.prog 104 #[.string v0] W λe w'=>e=.returned (.int .u64 ((numB v0.data.toList:Nat):Int))/\W=w'):=λ W=>rnumber_any v0 W hv8
       obtain⟨gn,hgn⟩:∃gn,numB v0.data.toList=gn:=⟨_,rfl⟩
       rw[hgn] at HSUC hgb HNUM
       clear hdec HRO HOK q1 q2 q2' hol hk8 hh3 hgn
       rcases o with _|⟨ob,og⟩
       ·have HNX:Hid (opnK fl (k+1)=some (k,gn)/\∀b g,some (k,gn)=some (b,g)->g<=18446744073709551615):=⟨by rw[HSUC.out];rfl,λb g e=>by injection e with e;injection e with e1 e2;rw[<-e2];exact hgb⟩
        clear HSUC HO
        have m2:w6.drew.cell? ⟨S,2,none⟩=some (.int .i64 (-1)):=HS6.out.cell (i:=2) (by omega)
        have t0:w6.drew.cell? ⟨T,0,none⟩=some (.int .u8 3):=HT6.out.cell (i:=0) (by omega)
        refine wp_region_pl (λ Y=>Y=w6.drew) ((0,0)::(1,0)::(2,0)::(3,0)::(4,0)::(5,0)::(6,0)::(7,0)::(8,0)::(9,0)::(10,0)::(11,0)::(12,0)::(13,0)::(14,0)::(15,0)::(16,0)::(17,0)::(18,0)::(19,0)::(20,0)::(21,0)::(22,0)::[]) (by kernel_rfl) (by kernel_rfl) ?_
        iterate 13 (apply wpP_go;rfl;rfl;exact rfl;(rintro Z rfl;go_simp;exact rfl);intro K hK;go_simp;refine hK _ ?_;clear hK K)
        iterate 8 (apply wpP_not;rfl;rfl;exact rfl;intro K hK;go_simp;refine hK _ ?_;clear hK K)
        iterate 2 (apply wpP_go;rfl;rfl;exact rfl;(rintro Z rfl;go_simp;exact rfl);intro K hK;go_simp;refine hK _ ?_;clear hK K)
        refine wpP_done ?_
        have HS7:Hid (Rg w6.drew S 167 6 (rso none X)):=HS6.out.ch ((Ch.refl (λ_=>False) w6).drew) id
        have HB7:Hid (Below w.heap.size w w6.drew):=HB6.out.drew
        have HT7:Hid (Row w6.drew T 169 4 (λj=>if j=0 then .int .u8 3 else if j=1 then .string n0 else if j=2 then .string v0 else .int .i64 c)):=HT6.out.drew
        clear HS6 HB6 HT6
        clear m2 t0
        generalize w6.drew=W7 at *
        have e2:=HT7.out.cell (i:=2) (by omega)
        have p0:=HS7.out.cell (i:=2) (by omega)
        have g0:=HS7.out.frozen 2
        have r1':=HS7.out.set (i:=2) (by omega) (.int .i64 (k:Int))
        have p1:=r1'.cell (i:=3) (by omega)
        have g1:=r1'.frozen 3
        have r2':=r1'.set (i:=3) (by omega) (.int .u64 ((gn:Nat):Int))
        have HS8:Hid (Rg ((W7.setCell ⟨S,2,none⟩ (.int .i64 (k:Int))).setCell ⟨S,3,none⟩ (.int .u64 ((gn:Nat):Int))) S 167 6 (rso (some (k,gn)) X)):=r2'.congr λj hj=>by
         rcases(by omega:j=0\/j=1\/j=2\/j=3\/j=4\/j=5) with e|e|e|e|e|e<;>subst e<;>simp[upd,rso]
        have HB8:Hid (Below w.heap.size w ((W7.setCell ⟨S,2,none⟩ (.int .i64 (k:Int))).setCell ⟨S,3,none⟩ (.int .u64 ((gn:Nat):Int)))):=(HB7.out.setCell (p:=⟨S,2,none⟩) (by rw[<-HSS.out];exact Nat.le_refl _) _).setCell (p:=⟨S,3,none⟩) (by rw[<-HSS.out];exact Nat.le_refl _) _
        clear r1' r2' HS7 HB7 HT7
        go_wp2_with fail
        refine(HNUM.out _).mono ?_
        rintro e w8 ⟨rfl,rfl⟩
        go_wp2_with fail
        clear p0 p1 g0 g1 e2
        go_roundw
        case rel=>exact⟨k+1,some (k,gn),by omega,by go_num,HNX,HS8,HB8⟩
        case measure=>simp[intOf];omega
       ·have hog:=HO.out.2 _ _ rfl
        by_cases hgt:og<gn
        ·have HNX:Hid (opnK fl (k+1)=some (k,gn)/\∀b g,some (k,gn)=some (b,g)->g<=18446744073709551615):=⟨by rw[HSUC.out];show(if og<gn then _ else _)=_;rw[if_pos hgt],λb g e=>by injection e with e;injection e with e1 e2;rw[<-e2];exact hgb⟩
         clear HSUC HO
         have m2:w6.drew.cell? ⟨S,2,none⟩=some (.int .i64 ob):=HS6.out.cell (i:=2) (by omega)
         have m3:w6.drew.cell? ⟨S,3,none⟩=some (.int .u64 og):=HS6.out.cell (i:=3) (by omega)
         have t0:w6.drew.cell? ⟨T,0,none⟩=some (.int .u8 3):=HT6.out.cell (i:=0) (by omega)
         have t2:w6.drew.cell? ⟨T,2,none⟩=some (.string v0):=HT6.out.cell (i:=2) (by omega)
         have hnb:decide ((ob:Int)<0)=false:=by simp
         have hnbI:¬(ob:Int)<0:=by omega
         have hgtd:decide ((gn:Int) > (og:Int))=true:=by simp;omega
         have hgtI:(gn:Int) > (og:Int):=by omega
         refine wp_region_pl (λ Y=>Y=w6.drew) ((0,0)::(1,0)::(2,0)::(3,0)::(4,0)::(5,0)::(6,0)::(7,0)::(8,0)::(9,0)::(10,0)::(11,0)::(12,0)::(13,0)::(14,0)::(15,0)::(16,0)::(17,0)::(18,0)::(19,0)::(20,0)::(21,0)::(22,0)::[]) (by kernel_rfl) (by kernel_rfl) ?_
         iterate 15 (apply wpP_go;rfl;rfl;exact rfl;(rintro Z rfl;go_simp;exact rfl);intro K hK;go_simp;refine hK _ ?_;clear hK K)
         apply wpP_call
         rfl
         rfl
         exact rfl
         focus (rintro Z rfl;go_simp;exact⟨rfl,rfl⟩)
         focus (rintro Z rfl;exact HNUM.out _)
         intro K hK
         go_simp
         refine hK _ ?_
         clear hK K
         iterate 7 (apply wpP_go;rfl;rfl;exact rfl;(rintro Z rfl;go_simp;exact rfl);intro K hK;go_simp;refine hK _ ?_;clear hK K)
         refine wpP_done ?_
         have HS7:Hid (Rg w6.drew S 167 6 (rso (some (ob,og)) X)):=HS6.out.ch ((Ch.refl (λ_=>False) w6).drew) id
         have HB7:Hid (Below w.heap.size w w6.drew):=HB6.out.drew
         have HT7:Hid (Row w6.drew T 169 4 (λj=>if j=0 then .int .u8 3 else if j=1 then .string n0 else if j=2 then .string v0 else .int .i64 c)):=HT6.out.drew
         clear HS6 HB6 HT6
         clear m2 m3 t0 t2
         generalize w6.drew=W7 at *
         have e2:=HT7.out.cell (i:=2) (by omega)
         have p0:=HS7.out.cell (i:=2) (by omega)
         have g0:=HS7.out.frozen 2
         have r1':=HS7.out.set (i:=2) (by omega) (.int .i64 (k:Int))
         have p1:=r1'.cell (i:=3) (by omega)
         have g1:=r1'.frozen 3
         have r2':=r1'.set (i:=3) (by omega) (.int .u64 ((gn:Nat):Int))
         have HS8:Hid (Rg ((W7.setCell ⟨S,2,none⟩ (.int .i64 (k:Int))).setCell ⟨S,3,none⟩ (.int .u64 ((gn:Nat):Int))) S 167 6 (rso (some (k,gn)) X)):=r2'.congr λj hj=>by
          rcases(by omega:j=0\/j=1\/j=2\/j=3\/j=4\/j=5) with e|e|e|e|e|e<;>subst e<;>simp[upd,rso]
         have HB8:Hid (Below w.heap.size w ((W7.setCell ⟨S,2,none⟩ (.int .i64 (k:Int))).setCell ⟨S,3,none⟩ (.int .u64 ((gn:Nat):Int)))):=(HB7.out.setCell (p:=⟨S,2,none⟩) (by rw[<-HSS.out];exact Nat.le_refl _) _).setCell (p:=⟨S,3,none⟩) (by rw[<-HSS.out];exact Nat.le_refl _) _
         clear r1' r2' HS7 HB7 HT7
         go_wp2_with fail
         refine(HNUM.out _).mono ?_
         rintro e w8 ⟨rfl,rfl⟩
         go_wp2_with fail
         clear p0 p1 g0 g1 e2
         go_roundw
         case rel=>exact⟨k+1,some (k,gn),by omega,by go_num,HNX,HS8,HB8⟩
         case measure=>simp[intOf];omega
        ·have HNX:Hid (opnK fl (k+1)=some (ob,og)/\∀b g,some (ob,og)=some (b,g)->g<=18446744073709551615):=⟨by rw[HSUC.out];show(if og<gn then _ else _)=_;rw[if_neg hgt],HO.out.2⟩
         clear HSUC HO
         have m2:w6.drew.cell? ⟨S,2,none⟩=some (.int .i64 ob):=HS6.out.cell (i:=2) (by omega)
         have m3:w6.drew.cell? ⟨S,3,none⟩=some (.int .u64 og):=HS6.out.cell (i:=3) (by omega)
         have t0:w6.drew.cell? ⟨T,0,none⟩=some (.int .u8 3):=HT6.out.cell (i:=0) (by omega)
         have t2:w6.drew.cell? ⟨T,2,none⟩=some (.string v0):=HT6.out.cell (i:=2) (by omega)
         have hnb:decide ((ob:Int)<0)=false:=by simp
         have hnbI:¬(ob:Int)<0:=by omega
         have hgtd:decide ((gn:Int) > (og:Int))=false:=by simp;omega
         have hgtI:¬(gn:Int) > (og:Int):=by omega
         refine wp_region_pl (λ Y=>Y=w6.drew) ((0,0)::(1,0)::(2,0)::(3,0)::(4,0)::(5,0)::(6,0)::(7,0)::(8,0)::(9,0)::(10,0)::(11,0)::(12,0)::(13,0)::(14,0)::(15,0)::(16,0)::(17,0)::(18,0)::(19,0)::(20,0)::(21,0)::(22,0)::[]) (by kernel_rfl) (by kernel_rfl) ?_
         iterate 15 (apply wpP_go;rfl;rfl;exact rfl;(rintro Z rfl;go_simp;exact rfl);intro K hK;go_simp;refine hK _ ?_;clear hK K)
         apply wpP_call
         rfl
         rfl
         exact rfl
         focus (rintro Z rfl;go_simp;exact⟨rfl,rfl⟩)
         focus (rintro Z rfl;exact HNUM.out _)
         intro K hK
         go_simp
         refine hK _ ?_
         clear hK K
         iterate 7 (apply wpP_go;rfl;rfl;exact rfl;(rintro Z rfl;go_simp;exact rfl);intro K hK;go_simp;refine hK _ ?_;clear hK K)
         refine wpP_done ?_
         have HS7:Hid (Rg w6.drew S 167 6 (rso (some (ob,og)) X)):=HS6.out.ch ((Ch.refl (λ_=>False) w6).drew) id
         have HB7:Hid (Below w.heap.size w w6.drew):=HB6.out.drew
         clear HS6 HB6 HT6
         clear m2 m3 t0 t2
         generalize w6.drew=W7 at *
         go_wp2_with fail
         go_roundw
         case rel=>exact⟨k+1,(some (ob,og)),by omega,by go_num,HNX,HS7,HB7⟩
         case measure=>simp[intOf];omega
      ·have HNX:Hid (opnK fl (k+1)=o/\∀b g,o=some (b,g)->g<=18446744073709551615):=⟨by rw[HSUC.out,hdrG_k hdec hk3];rfl,HO.out.2⟩
       have hkb:((kd:Int)==3)=false:=by rw[beq_eq_false_iff_ne];omega
       clear hdec HRO HOK HSUC HO q1 q2 q2' hol
       have t0:w6.drew.cell? ⟨T,0,none⟩=some (.int .u8 kd):=HT6.out.cell (i:=0) (by omega)
       refine wp_region_pl (λ Y=>Y=w6.drew) ((0,0)::(1,0)::(2,0)::(3,0)::(4,0)::(5,0)::(6,0)::(7,0)::(8,0)::(9,0)::(10,0)::(11,0)::(12,0)::(13,0)::(14,0)::(15,0)::(16,0)::(17,0)::(18,0)::(19,0)::(20,0)::(21,0)::(22,0)::[]) (by kernel_rfl) (by kernel_rfl) ?_
       iterate 7 (apply wpP_go;rfl;rfl;exact rfl;(rintro Z rfl;go_simp;exact rfl);intro K hK;go_simp;refine hK _ ?_;clear hK K)
       iterate 15 (apply wpP_not;rfl;rfl;exact rfl;intro K hK;go_simp;refine hK _ ?_;clear hK K)
       iterate 1 (apply wpP_go;rfl;rfl;exact rfl;(rintro Z rfl;go_simp;exact rfl);intro K hK;go_simp;refine hK _ ?_;clear hK K)
       refine wpP_done ?_
       have HS7:Hid (Rg w6.drew S 167 6 (rso o X)):=HS6.out.ch ((Ch.refl (λ_=>False) w6).drew) id
       have HB7:Hid (Below w.heap.size w w6.drew):=HB6.out.drew
       clear HS6 HB6 HT6
       clear t0
       generalize w6.drew=W7 at *
       go_wp2_with fail
       go_roundw
       case rel=>exact⟨k+1,o,by omega,by go_num,HNX,HS7,HB7⟩
       case measure=>simp[intOf];omega
    ·have y0:¬(k:Int)<(fl.B:Int):=by omega
     have hkB:k=fl.B:=by omega
     subst hkB
     have k1:=(H.out.below HB.out).c0
     have m2:=HS.out.cell (i:=2) (by omega)
     rcases o with _|⟨ob,og⟩
     ·have HE:Hid (opnF fl=(6,none)):=by
       show _=_;unfold opnF;rw[if_neg (by rw[HU.out];exact Bool.noConfusion),if_neg (by rw[HO1.out];exact Bool.noConfusion),HO.out.1]
      have m2':wr.cell? ⟨S,2,none⟩=some (.int .i64 (-1)):=m2
      clear m2
      go_wp2_with fail
      go_ret2
      exact⟨HB.out,.inl ⟨6,HE.out,rfl⟩⟩
     ·have hob:=opnK_lt fl _ _ _ HO.out.1
      have m2':wr.cell? ⟨S,2,none⟩=some (.int .i64 ob):=m2
      have hnb:decide ((ob:Int)<0)=false:=by simp
      have hnbI:¬(ob:Int)<0:=by omega
      have hog:=HO.out.2 _ _ rfl
      have HE:Hid (opnF fl=(0,some ⟨(rpl fl.P (pgsF fl ob) [] 1).1,ob,og,(rpl fl.P (pgsF fl ob) [] 1).2.1,(rpl fl.P (pgsF fl ob) [] 1).2.2⟩)):=by
       show _=_;unfold opnF;rw[if_neg (by rw[HU.out];exact Bool.noConfusion),if_neg (by rw[HO1.out];exact Bool.noConfusion),HO.out.1]
      have hSlt:=HS.out.lt
      have HRS:Hid (RS wr (λk=>k=S) S X ⟨[],ob,og,0,false⟩):=⟨⟨none,0,HS.out.congr λj hj=>by
        rcases(by omega:j=0\/j=1\/j=2\/j=3\/j=4\/j=5) with e|e|e|e|e|e<;>subst e<;>rfl,⟨Nat.le_refl _,by unfold maxLen;omega,λk=>absurd rfl k⟩,λg e=>by cases e⟩,rfl,λk hk=>by rw[hk];exact hSlt,List.Pairwise.nil,λp hp=>(by cases hp),hog,by show 0<=900;omega,by show ob<=1000;omega,by show 0<=0+1;omega⟩
      have HSC:=Hh (rscan_any HRS.out (H.out.below HB.out) (λk hk e=>by have:=H.out.fin k hk;have:=HSS.out;omega) hob)
      clear m2 HO HS
      go_wp2_with fail
      refine HSC.out.mono ?_
      rintro e w9 ⟨rfl,⟨D',hD',hr9⟩,c9⟩
      have HR9:=Hh hr9
      have HD9:=Hh hD'
      have HB9:Hid (Below w.heap.size w w9):=HB.out.trans (c9.below HB.out.size (λx hx=>by rw[hx,<-HSS.out];exact Nat.le_refl _) |>.mono (Nat.le_refl _))
      clear hr9 hD' c9 HSC
      go_wp2_with fail
      go_ret2
      refine⟨HB9.out,.inr ⟨_,S,D',HE.out,rfl,λi hi=>?_,HR9.out,hob⟩⟩
      rcases HD9.out i hi with e|e
      ·rw[e,<-HSS.out];exact Nat.le_refl _
      ·exact Nat.le_trans HB.out.size e
  ·have HE:Hid (opnF fl=(16,none)):=by show _=_;unfold opnF;rw[if_neg (by rw[HU.out];exact Bool.noConfusion),if_pos ho]
   rw[ho] at c5
   clear ho
   go_enter Tryz.func38,Tryz.ntmps38
   go_wp2_with fail
   refine HSM.out.mono ?_
   rintro e w1 ⟨rfl,rfl⟩
   go_wp2_with fail
   go_ret2
   exact⟨Below.refl _ _,.inl ⟨16,HE.out,rfl⟩⟩
 ·have HE:Hid (opnF fl=(1,none)):=by
   show _=_;unfold opnF;rw[if_pos (by simp at hsm;simp;omega)]
  clear hsm c5
  go_enter Tryz.func38,Tryz.ntmps38
  go_wp2_with fail
  refine HSM.out.mono ?_
  rintro e w1 ⟨rfl,rfl⟩
  go_wp2_with fail
  go_ret2
  exact⟨Below.refl _ _,.inl ⟨1,HE.out,rfl⟩⟩
end
end
section
theorem least_le (fl:FL):∀k,least fl k<=k-1
 | 0=>Nat.le_refl _
 | k+1=>by
  rw[least_succ]
  have:=least_le fl k
  split<;>omega
section
variable {w w':World}{D D' DS:Nat->Prop}{S X X':Nat}{st:ST}{y:RLay}{yf:FLay}{fl:FL}
theorem rformat_any (h:RW w D X y fl)(ho:fl.off=false)(hbl:∀b,blankP (pgsF fl b)=true)(hB2:2<=fl.B)(hP2:2<=fl.P):Calls Tryz.prog 36 #[fptr X] w λe w'=>e=.returned (.int .i64 (fmtF fl).1)/\RW w' D X y (fmtF fl).2/\Ch D w w':=by
 have HSM:=Hh (rsmall_any h)
 rw[show(decide (fl.B<2)||decide (fl.P<2))=false by simp;omega] at HSM
 have H:=Hh h
 have hB:=h.hB
 have hP:=h.hP
 have c5:=h.c5
 rw[ho] at c5
 have HF:Hid (fmtF fl=wrL fl (least fl fl.B) 0 (pagesR (hdr 1))):=by
  show _=_
  unfold fmtF
  rw[if_neg (by simp;omega),fmt1_blank ho hbl,if_neg (by simp)]
 have HBL:=Hh hbl
 have HB0:Hid (Below w.heap.size w w):=Below.refl _ _
 clear h ho hbl
 go_enter Tryz.func36,Tryz.ntmps36
 go_wp2_with fail
 refine HSM.out.mono ?_
 rintro e w1 ⟨rfl,rfl⟩
 clear HSM
 go_wp2_with fail
 clear c5
 go_loopw [3] (λz wr=>∃k:Nat,k<=fl.B/\z=.int .i64 (k:Int)/\Hid (Below w.heap.size w wr)) (λz _=>fl.B-(intOf z).toNat)
 case atStart=>exact⟨0,by omega,rfl,HB0⟩
 case round=>
  clear HB0
  obtain⟨k,hk,rfl,HB⟩:=hrel
  have hrw:=H.out.below HB.out
  have c1:=hrw.c0
  by_cases hlt:k<fl.B
  ·have y0:(k:Int)<(fl.B:Int):=by omega
   have HBK:=Hh (rblank_any hrw hlt)
   rw[HBL.out k] at HBK
   clear hrw
   go_wp2_with fail
   refine HBK.out.mono ?_
   rintro e w2 ⟨rfl,rfl⟩
   clear HBK
   go_wp2_with fail
   go_roundw
   case rel=>exact⟨k+1,by omega,by go_num,HB⟩
   case measure=>simp[intOf];omega
  ·have y0:¬(k:Int)<(fl.B:Int):=by omega
   clear hrw
   go_wp2_with fail
   clear c1
   go_loopw [5,6] (λx z wr=>∃(k l:Nat),k<=fl.B/\x=.int .i64 (l:Int)/\z=.int .i64 (k:Int)/\Hid (l=least fl k)/\Hid (Below w.heap.size w wr)) (λ_ z _=>fl.B-(intOf z).toNat)
   case atStart=>exact⟨0,0,by omega,rfl,rfl,rfl,HB⟩
   case round=>
    clear HB
    obtain⟨k,l,hk,rfl,rfl,HL,HB⟩:=hrel
    have hrw:=H.out.below HB.out
    have c1:=hrw.c0
    have hll:=least_le fl k
    have hlB:l<fl.B:=by have:=HL.out;omega
    clear hll
    by_cases hlt:k<fl.B
    ·have y0:(k:Int)<(fl.B:Int):=by omega
     have ylI:(l:Int)<(fl.B:Int):=by omega
     have hnc:=hrw.nc
     have SR:Hid (wr.drew.cell? ⟨X,4,none⟩=some (.slice (some ⟨y.nb,0,none⟩) fl.B y.nc)/\wr.drew.cell? ⟨y.nb,k,none⟩=some (.int .i64 (fl.er k))/\wr.drew.cell? ⟨y.nb,l,none⟩=some (.int .i64 (fl.er l))):=⟨hrw.c4,hrw.ce hlt,hrw.ce hlB⟩
     have HB2:Hid (Below w.heap.size w wr.drew):=HB.out.drew
     have hls:=least_succ fl k
     rw[<-HL.out] at hls
     have HLS:=Hh hls
     obtain⟨ek,hek⟩:∃e,fl.er k=e:=⟨_,rfl⟩
     obtain⟨el,hel⟩:∃e,fl.er l=e:=⟨_,rfl⟩
     rw[hek,hel] at SR HLS
     clear hrw hls hek hel HB
     by_cases hlt2:ek<el
     ·have hdl:decide ((ek:Int)<(el:Int))=true:=by simpa using hlt2
      have hdI:(ek:Int)<(el:Int):=by omega
      have HL2:Hid (k=least fl (k+1)):=by show _=_;rw[HLS.out,if_pos hlt2]
      go_wp2_with fail
      refine wp_region_pl (λ Y=>Y.cell? ⟨X,4,none⟩=some (.slice (some ⟨y.nb,0,none⟩) fl.B y.nc)/\Y.cell? ⟨y.nb,k,none⟩=some (.int .i64 ek)/\Y.cell? ⟨y.nb,l,none⟩=some (.int .i64 el)) ((0,0)::(1,0)::(2,0)::(3,0)::(4,0)::(5,0)::(6,0)::(7,0)::(8,0)::(9,0)::(10,0)::(11,0)::(12,0)::(13,0)::(14,0)::[]) (by kernel_rfl) (by kernel_rfl) ?_
      iterate 15 (apply wpP_go;rfl;rfl;exact SR.out;(rintro Z ⟨s0,s1,s2⟩;go_simp;exact rfl);intro K hK;go_simp;refine hK _ ?_;clear hK K)
      refine wpP_done ?_
      clear SR c1
      go_wp2_with fail
      go_roundw
      case rel=>exact⟨k+1,k,by omega,rfl,by go_num,HL2,HB2⟩
      case measure=>simp[intOf];omega
     ·have hdl:decide ((ek:Int)<(el:Int))=false:=by simpa using hlt2
      have hdI:¬(ek:Int)<(el:Int):=by omega
      have HL2:Hid (l=least fl (k+1)):=by show _=_;rw[HLS.out,if_neg hlt2]
      go_wp2_with fail
      refine wp_region_pl (λ Y=>Y.cell? ⟨X,4,none⟩=some (.slice (some ⟨y.nb,0,none⟩) fl.B y.nc)/\Y.cell? ⟨y.nb,k,none⟩=some (.int .i64 ek)/\Y.cell? ⟨y.nb,l,none⟩=some (.int .i64 el)) ((0,0)::(1,0)::(2,0)::(3,0)::(4,0)::(5,0)::(6,0)::(7,0)::(8,0)::(9,0)::(10,0)::(11,0)::(12,0)::(13,0)::(14,0)::[]) (by kernel_rfl) (by kernel_rfl) ?_
      iterate 15 (apply wpP_go;rfl;rfl;exact SR.out;(rintro Z ⟨s0,s1,s2⟩;go_simp;exact rfl);intro K hK;go_simp;refine hK _ ?_;clear hK K)
      refine wpP_done ?_
      clear SR c1
      go_wp2_with fail
      go_roundw
      case rel=>exact⟨k+1,l,by omega,rfl,by go_num,HL2,HB2⟩
      case measure=>simp[intOf];omega
    ·have y0:¬(k:Int)<(fl.B:Int):=by omega
     have hkB:k=fl.B:=by omega
     have hl9:=HL.out
     rw[hkB] at hl9
     have HR2:=Hh hrw
     have HC2:Hid (Ch D w wr):=Ch.of_below HB.out D
     obtain⟨bg,hbg⟩:∃s:ByteArray,s=⟨(be8 1).toArray⟩:=⟨_,rfl⟩
     have hbgl:bg.data.toList=be8 1:=by rw[hbg]
     have hbgz:bg.size=8:=by rw[bsz,hbgl,be8_len]
     have HBG:=Hh (rbig_any 1 wr)
     rw[show str (be8 1)=.string bg by rw[hbg]] at HBG
     obtain⟨hd,hhd⟩:∃s:ByteArray,s=⟨(hdr 1).toArray⟩:=⟨_,rfl⟩
     have hdl:hd.data.toList=hdr 1:=by rw[hhd]
     have hdz:hd.size=13:=by rw[bsz,hdl,hdr_len]
     have HREC:Hid (∀W,Calls Tryz.prog 97 #[.int .u8 3,.string ⟨#[]⟩,.string bg] W λe w'=>e=.returned (.string hd)/\Below W.heap.size W w'):=λ W=>by
      have:=rrecord_any 3 ⟨#[]⟩ bg W (by omega) (by decide) (by omega)
      rw[hbgl] at this
      rw[hhd]
      exact this
     have HPG:Hid (∀W,Calls Tryz.prog 96 #[.string hd] W λe w'=>∃g cap,e=.returned (.slice (some ⟨g,0,none⟩) 1 cap)/\PS w' g 0 cap (pagesR (hdr 1))/\W.heap.size<=g/\Below W.heap.size W w'):=λ W=>by
      have:=rpages_any hd W (by omega) (by omega)
      rw[hdl,hdz] at this
      exact this
     have HL9:=Hh hl9
     clear hbg hbgl hbgz hhd hdl hdz hl9 hrw HB HL
     go_wp2_with fail
     refine HBG.out.mono ?_
     rintro e w6 ⟨rfl,b6⟩
     have HR6:=Hh (HR2.out.below b6)
     have HC6:Hid (Ch D w w6):=HC2.out.trans (Ch.of_below b6 D)
     clear b6 HBG HR2 HC2 c1
     go_wp2_with fail
     refine(HREC.out w6).mono ?_
     rintro e w7 ⟨rfl,b7⟩
     have HR7:=Hh (HR6.out.below b7)
     have HC7:Hid (Ch D w w7):=HC6.out.trans (Ch.of_below b7 D)
     clear b7 HREC HR6 HC6
     go_wp2_with fail
     refine(HPG.out w7).mono ?_
     rintro e w8 ⟨gp,cp,rfl,hp8,hg8,b8⟩
     have HR8:=Hh (HR7.out.below b8)
     have HC8:Hid (Ch D w w8):=HC7.out.trans (Ch.of_below b8 D)
     obtain⟨pe,hpe⟩:∃pe:ByteArray,str (pad (hdr 1))=.string pe:=⟨_,rfl⟩
     have hpel:pe.data.toList=pad (hdr 1):=by injection hpe with hpe;rw[<-hpe]
     have hpez:pe.size=64:=by rw[bsz,hpel,hdr_pad_len]
     have hcp:=hp8.2.1
     have hc0:=hp8.2.2.2 0 (by rw[hdr_pages];exact Nat.one_pos)
     rw[hdr_pages] at hcp hc0
     have hc1:w8.cell? ⟨gp,0,none⟩=some (.string pe):=by rw[<-hpe];exact hc0
     have hcp1:1<=cp:=hcp
     have HPR:=Hh (rprogram_any HR8.out (b:=l) (p:=0) hlB (by omega) (d:=pe) hpez)
     rw[hpel] at HPR
     obtain⟨e3,f3,h3⟩:∃e f,progF fl l 0 (pad (hdr 1))=(e,f):=⟨_,_,rfl⟩
     rw[h3] at HPR
     have HE:Hid (fmtF fl=(e3,f3)):=by
      show _=_
      rw[HF.out,<-HL9.out,hdr_pages]
      unfold wrL
      rw[h3]
      split
      ·rename_i h0
       have h0':e3=0:=h0
       subst h0'
       rfl
      ·rfl
     clear hpe hpel hpez hcp hc0 h3 hp8 hg8 b8 HR7 HC7 HPG HR8
     go_wp2_with fail
     refine HPR.out.mono ?_
     rintro e w9 ⟨rfl,h9,c9⟩
     have HR9:=Hh h9
     have HC9:Hid (Ch D w w9):=HC8.out.trans c9
     clear h9 c9 HPR HC8 hc1
     go_wp2_with fail
     go_ret
     rw[HE.out]
     exact⟨rfl,HR9.out,HC9.out⟩
end
end
end Go.Proofs.YtdinbpdpalgohaaGreatDoor
