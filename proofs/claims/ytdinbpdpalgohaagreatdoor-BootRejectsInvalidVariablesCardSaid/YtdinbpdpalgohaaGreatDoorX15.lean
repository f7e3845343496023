/- Walks and laws: BI BJ BK BL BO BP. Conditions: those that each theorem names. -/
import Derived.Test.YtdinbpdpalgohaaGreatDoorX14
import Derived.Test.YtdinbpdpalgohaaGreatDoorX8
set_option maxHeartbeats 4000000
set_option maxRecDepth 100000
namespace Go.Proofs.YtdinbpdpalgohaaGreatDoor
open Go.RowKit
section
theorem getV_in {V:Vars}{k v:Str}(h:getV V k=some v):(k,v)∈V:=by
 unfold getV at h
 obtain⟨p,hp,e⟩:=Option.map_eq_some_iff.1 h
 have h1:=List.mem_of_find?_eq_some hp
 have h2:=List.find?_some hp
 have h3:p.1=k:=by simpa using h2
 rw[<-h3,<-e]
 exact h1
section
variable {w w':World}{N M S L n:Nat}{O:Nat->Prop}{b:BM}{v:Value}{l:List Int}
theorem BW.hv (h:BW w N O M S L n b):∀p∈b.st.V,p.1.length<=24/\p.2.length<=128:=by obtain⟨R,D,DS,X,m,y,ve,vc,vl,h⟩:=h;exact h.s.hv
theorem BW.glen (h:BW w N O M S L n b){k v:Str}(hg:getV b.st.V k=some v):v.length<=128:=(h.hv _ (getV_in hg)).2
def NewI (w:World)(l:List Int)(e:Ending)(w':World):Prop:=∃v,e=.returned v/\RdI w' v l/\(∀g,v.ownBlock=some g->w.heap.size<=g)/\Below w.heap.size w w'
theorem NewI.nil (h:Below w.heap.size w w'):NewI w [] (.returned (.slice none 0 0)) w':=⟨_,rfl,RdI.nil _,(λ_ h=>(by cases h)),h⟩
theorem Rg.rdI {B t k:Nat}(h:Rg w B t k (λj=>.int .i64 (l.getD j 0)))(hl:l.length=k)(hk:k<=maxLen):RdI w (.slice (some ⟨B,0,none⟩) k k) l:=by
 subst hl
 refine⟨_,_,rfl,Nat.le_refl _,hk,λg hg=>?_,λ_=>⟨B,0,rfl,λi x hx=>?_⟩⟩
 ·have e:B=g:=by simpa[Value.ownBlock] using hg
  rw[<-e];exact h.lt
 ·have hi:i<l.length:=(List.getElem?_eq_some_iff.1 hx).1
  rw[Nat.zero_add,h.cell hi,List.getD_eq_getElem?_getD,hx]
  rfl
def icell (v:Str)(i j:Nat):Value:=if j<i then .int .i64 ((v.getD j 0).toNat:Int) else .int .i64 0
theorem icell_set {B t k i:Nat}{v:Str}(h:Rg w B t k (icell v i))(hi:i<k):Rg (w.setCell ⟨B,i,none⟩ (.int .i64 ((v.getD i 0).toNat:Int))) B t k (icell v (i+1)):=
 (h.set hi _).congr λj hj=>by
  unfold icell
  by_cases ej:j=i
  ·subst ej
   rw[upd_hit,if_pos (by omega)]
  ·rw[upd_miss _ _ ej]
   by_cases h1:j<i
   ·rw[if_pos h1,if_pos (by omega)]
   ·rw[if_neg h1,if_neg (by omega)]
theorem byI_len (v:Str):(byI v).length=v.length:=by simp[byI]
theorem byI_at (v:Str)(j:Nat):(byI v).getD j 0=((v.getD j 0).toNat:Int):=by
 unfold byI
 by_cases h:j<v.length
 ·simp[h]
 ·simp[show v.length<=j by omega]
theorem Tryz.infoInt:(Tryz.prog.info? 3).map (λi=>(i.zero,i.size,i.bytes))=some (some (.int .i64 0),1,8):=by kernel_rfl
theorem mk_int (W:World)(k:Nat)(hk:k<=1000):(Instr.makeSlice 36 (.int .i64 (k:Int)) (.int .i64 (k:Int))).run Tryz.prog W=.ok (.slice (some ⟨W.heap.size,0,none⟩) k k) (W.alloc (.cells (madeCells (Value.int .i64 0).cells k) 3)):=by
 obtain⟨i0,hi0,hx0,hx1,hx2⟩:=info_parts Tryz.infoInt
 have:=run_make (P:=Tryz.prog) W 36 3 i0 (.int .i64 0) Tryz.underlying36 hi0 hx0 .i64 .i64 (k:Int) (k:Int) (by omega) (by omega) (by rw[hx2];omega) (by omega)
 rw[hx1] at this
 simpa using this
theorem order_any (h:BW w N O M S L n b):Calls Tryz.prog 27 #[fptr M] w (NewI w (ordV b.st.V)):=by
 have c0:=h.c0
 have HG0:=h.get (k:=⟨#[79,114,100,101,114]⟩) (by decide)
 rw[show(⟨#[79,114,100,101,114]⟩:ByteArray).data.toList=nmO from rfl] at HG0
 unfold ordV
 rcases hg:getV b.st.V nmO with _|v
 ·have HG:Hid (Calls Tryz.prog 56 #[fptr S,.string ⟨#[79,114,100,101,114]⟩] w λe w'=>e=.returned (.tuple #[.string ⟨#[]⟩,.int .i64 6])/\w=w'):=by
   unfold getS at HG0
   rw[hg] at HG0
   exact HG0
  show Calls _ _ _ _ (NewI w [])
  clear HG0 hg h
  go_enter Tryz.func27,Tryz.ntmps27
  go_wp2_with fail
  refine HG.out.mono ?_
  rintro e w' ⟨rfl,rfl⟩
  go_wp2_with fail
  go_ret
  exact NewI.nil (Below.refl _ _)
 ·have hvl:=h.glen hg
  obtain⟨vb,hvb⟩:∃vb:ByteArray,str v=.string vb:=⟨_,rfl⟩
  have HVB:Hid (vb.data.toList=v):=by
   show _=_
   unfold str at hvb
   injection hvb with hvb
   rw[<-hvb]
  have HG:Hid (Calls Tryz.prog 56 #[fptr S,.string ⟨#[79,114,100,101,114]⟩] w λe w'=>e=.returned (.tuple #[.string vb,.int .i64 0])/\w=w'):=by
   unfold getS at HG0
   rw[hg] at HG0
   rw[<-hvb]
   exact HG0
  obtain⟨k,hk⟩:∃k,vb.size=k:=⟨_,rfl⟩
  have HVL:Hid (v.length=k):=by show _=_;rw[<-HVB.out,<-bsz];exact hk
  have hk128:k<=128:=by have:=HVL.out;omega
  have hmk:=mk_int w k (by omega)
  have HR0:Hid (Rg (w.alloc (.cells (madeCells (Value.int .i64 0).cells k) 3)) w.heap.size 3 k (icell v 0)):=(Rg.made w 3 k (.int .i64 0) rfl).congr λj hj=>by
   unfold icell;rw[if_neg (by omega)]
  have HB0:Hid (Below w.heap.size w (w.alloc (.cells (madeCells (Value.int .i64 0).cells k) 3))):=(Below.refl _ _).alloc (Nat.le_refl _) _
  obtain⟨W0,hW0⟩:∃W0,w.alloc (.cells (madeCells (Value.int .i64 0).cells k) 3)=W0:=⟨_,rfl⟩
  obtain⟨B,hB⟩:∃B,w.heap.size=B:=⟨_,rfl⟩
  have HBE:=Hh hB
  rw[hW0] at hmk HR0 HB0
  rw[hB] at hmk HR0
  obtain⟨res,hres⟩:∃res,(if okO (byI v)=true then byI v else [])=res:=⟨_,rfl⟩
  have HRES:=Hh hres
  show Calls _ _ _ _ (NewI w (if okO (byI v)=true then byI v else []))
  rw[hres]
  clear hres
  clear HG0 hg h hvb hvl hB hW0
  go_enter Tryz.func27,Tryz.ntmps27
  go_wp2_with fail
  refine HG.out.mono ?_
  rintro e w' ⟨rfl,rfl⟩
  go_wp2_with fail
  clear hmk c0 HG
  go_loopw [22] (λz wr=>∃i:Nat,i<=k/\z=.int .i64 (i:Int)/\Hid (Rg wr B 3 k (icell v i))/\Hid (Below w.heap.size w wr)) (λz _=>k-(intOf z).toNat)
  case atStart=>exact⟨0,by omega,rfl,HR0,HB0⟩
  case round=>
   clear HR0 HB0
   obtain⟨i,hi,rfl,HR,HB⟩:=hrel
   by_cases hlt:i<k
   ·have y0:(i:Int)<k:=by omega
    have hiv:i<vb.size:=by omega
    obtain⟨x,hx⟩:∃x,(vb[i]'hiv).toNat=x:=⟨_,rfl⟩
    have hx2:(v.getD i 0).toNat=x:=by rw[<-hx,ba_at,HVB.out]
    have hxb:x<256:=by rw[<-hx];exact(vb[i]'hiv).toNat_lt
    have hwx:IntKind.i64.wrap (x:Int)=(x:Int):=IntWalk.i64_in _ ⟨by omega,by omega⟩
    have r2:=icell_set HR.out hlt
    rw[hx2] at r2
    have HR2:=Hh r2
    have cb:=HR.out.cell hlt
    have fb:=HR.out.frozen i
    have HB2:Hid (Below w.heap.size w (wr.setCell ⟨B,i,none⟩ (.int .i64 (x:Int)))):=HB.out.setCell (p:=⟨B,i,none⟩) (by rw[HBE.out];exact Nat.le_refl _) _
    clear HB HR r2 hx2
    go_wp2_with fail
    go_roundw
    case rel=>exact⟨i+1,by omega,by go_num,HR2,HB2⟩
    case measure=>simp[intOf];omega
   ·have ei:i=k:=by omega
    have y0:¬(i:Int)<k:=by omega
    subst ei
    have hrd:RdI wr (.slice (some ⟨B,0,none⟩) i i) (byI v):=Rg.rdI (HR.out.congr λj hj=>by unfold icell;rw[if_pos hj,byI_at]) (by rw[byI_len,HVL.out]) (by unfold maxLen;omega)
    have HRD:=Hh hrd
    have HVA:=Hh (valid_any hrd.j)
    clear hrd
    go_wp2_with fail
    refine HVA.out.mono ?_
    rintro e w3 ⟨rfl,b3⟩
    have HRD3:=Hh (HRD.out.below b3)
    have HB3:Hid (Below w.heap.size w w3):=HB.out.trans (b3.mono HB.out.size)
    clear b3 HVA HRD HB HR
    cases hok:okO (byI v)
    ·have e0:res=[]:=by rw[<-HRES.out,if_neg (by rw[hok];simp)]
     subst e0
     clear hok HRES
     go_wp2_with fail
     go_ret
     exact NewI.nil HB3.out
    ·have e0:res=byI v:=by rw[<-HRES.out,if_pos hok]
     subst e0
     clear hok HRES
     go_wp2_with fail
     go_ret
     refine⟨_,rfl,HRD3.out,λg hg=>?_,HB3.out⟩
     have e:B=g:=by simpa[Value.ownBlock] using hg
     rw[<-e,HBE.out]
     exact Nat.le_refl _
end
end
section
def RdD (w:World)(v:Value)(l:List Str):Prop:=∃a c,v=.slice a l.length c/\l.length<=c/\c<=maxLen/\(∀g,v.ownBlock=some g->g<w.heap.size)/\(l≠[]->∃g o,a=some ⟨g,o,none⟩/\∀i d,l[i]? = some d->∀j,j<32->w.cell? ⟨g,o+i*32+j,none⟩=some (.int .u8 ((d.getD j 0).toNat:Int)))
section
variable {w w':World}{v:Value}{l:List Str}
theorem RdD.ch {C:Nat->Prop}(h:RdD w v l)(c:Ch C w w')(hC:∀g,v.ownBlock=some g->¬C g):RdD w' v l:=by
 obtain⟨a,n,rfl,h1,h2,h3,h4⟩:=h
 refine⟨a,n,rfl,h1,h2,λg hg=>Nat.lt_of_lt_of_le (h3 g hg) c.size,λhne=>?_⟩
 obtain⟨g,o,rfl,hx⟩:=h4 hne
 have hg:(Value.slice (some ⟨g,o,none⟩) l.length n).ownBlock=some g:=rfl
 exact⟨g,o,rfl,λi x hi j hj=>(c.cell ⟨g,o+i*32+j,none⟩ (h3 g hg) (hC g hg)).trans (hx i x hi j hj)⟩
theorem RdD.below (h:RdD w v l)(b:Below w.heap.size w w'):RdD w' v l:=h.ch (Ch.of_below b (λ_=>False)) (λ_ _ h=>h)
theorem RdD.nil (w:World):RdD w (.slice none 0 0) []:=⟨none,0,rfl,Nat.le_refl _,by decide,(λ_ h=>(by cases h)),λh=>absurd rfl h⟩
theorem RdD.shape (h:RdD w v l):∃a c,v=.slice a l.length c/\l.length<=c/\c<=9223372036854775807:=by
 obtain⟨a,c,rfl,h1,h2,_⟩:=h
 exact⟨a,c,rfl,h1,by unfold maxLen at h2;omega⟩
theorem RdD.at (h:RdD w v l){i:Nat}(hi:i<l.length):∃g o c,v=.slice (some ⟨g,o,none⟩) l.length c/\l.length<=c/\c<=maxLen/\Ms.ldN 32 w (.pointer (some ⟨g,o+i*32,none⟩))=some (Ms.arr 32 (Ms.b8 (dgF l[i]))):=by
 obtain⟨a,c,rfl,h1,h2,h3,h4⟩:=h
 obtain⟨g,o,rfl,hx⟩:=h4 (by intro e;rw[e] at hi;cases hi)
 refine⟨g,o,c,rfl,h1,h2,Ms.ldN_of (λj u hu=>?_) (Ms.arr_size _ _)⟩
 have hj:j<32:=by have:=(List.getElem?_eq_some_iff.1 hu).1;simpa[Ms.arr] using this
 have:u=Ms.b8 (dgF l[i]) j:=by simpa[Ms.arr,hj] using hu.symm
 rw[this,hx i _ (List.getElem?_eq_getElem hi) j hj]
 rfl
end
def OwD (w:World)(B:Nat)(v:Value)(l:List Str):Prop:=w.ownsRow B 31 32 v l.length (bys' l.flatten)/\(∀d∈l,d.length=32)/\l.length<=1000
theorem flat32:∀(l:List Str),(∀d∈l,d.length=32)->l.flatten.length=l.length*32:=λl h=>(chunk_flat l h).1
theorem flat_at:∀(l:List Str),(∀d∈l,d.length=32)->∀i d,l[i]? = some d->∀j,j<32->l.flatten.getD (i*32+j) 0=d.getD j 0
 | [],_,_,_,h,_,_=>(by cases h)
 | x::r,hl,i,d,h,j,hj=>by
  have hx:=hl x (List.mem_cons_self ..)
  cases i with
  | zero=>
   have e:x=d:=by simpa using h
   subst e
   rw[List.flatten_cons,List.getD_eq_getElem?_getD,List.getElem?_append_left (by omega),List.getD_eq_getElem?_getD]
   simp
  | succ i=>
   have ih:=flat_at r (λd hd=>hl d (List.mem_cons_of_mem _ hd)) i d (by simpa using h) j hj
   rw[List.flatten_cons,List.getD_eq_getElem?_getD,List.getElem?_append_right (by omega),<-List.getD_eq_getElem?_getD,show(i+1)*32+j-x.length=i*32+j by omega]
   exact ih
theorem chunk_all:∀(q:Nat) (v:Str),v.length=q*32->(chunk v).flatten=v
 | 0,v,h=>by
  have e:v=[]:=List.eq_nil_of_length_eq_zero (by omega)
  subst e;rfl
 | q+1,v,h=>by
  have hd:(v.drop 32).length=q*32:=by rw[List.length_drop];omega
  have ht:(v.take 32).length=32:=by rw[List.length_take];omega
  have ih:=chunk_all q (v.drop 32) hd
  have e:v=(v.take 32::chunk (v.drop 32)).flatten:=by rw[List.flatten_cons,ih,List.take_append_drop]
  have h2:=(chunk_flat (v.take 32::chunk (v.drop 32)) (λd hm=>by
   rcases List.mem_cons.1 hm with q|q
   ·rw[q];exact ht
   ·exact chunk_32 d q)).2
  rw[<-e] at h2
  rw[h2]
  exact e.symm
theorem OwD.rd {w:World}{B:Nat}{v:Value}{l:List Str}(h:OwD w B v l):RdD w v l:=by
 obtain⟨⟨_,h1⟩,h2,h3⟩:=h
 rcases h1 with ⟨rfl,e⟩|⟨g,cap,cur,rfl,_,hh,h5,h6,_,h7⟩
 ·have e:l=[]:=by
   rcases l with _|⟨x,r⟩
   ·rfl
   ·cases e
  subst e
  exact RdD.nil w
 ·refine⟨_,_,rfl,h5,h6,λk hk=>?_,λ_=>⟨g,0,rfl,λi d hd j hj=>?_⟩⟩
  ·have e:g=k:=by simpa[Value.ownBlock] using hk
   rw[<-e];exact heap_lt hh
  ·have hi:=(List.getElem?_eq_some_iff.1 hd).1
   have hf:=flat32 l h2
   have q:=bys'_at l.flatten (i*32+j) (by omega)
   rw[flat_at l h2 i d hd j hj,<-h7,List.getElem?_take_of_lt (by omega),Array.getElem?_toList] at q
   rw[show 0+i*32+j=i*32+j by omega,cell_of_row w g _ cur _ (0,0) hh]
   exact q
theorem OwD.ch {w w':World}{B:Nat}{v:Value}{l:List Str}{C:Nat->Prop}(h:OwD w B v l)(c:Ch C w w')(hC:∀g,v.ownBlock=some g->¬C g):OwD w' B v l:=⟨ownN_ch h.1 c hC,h.2⟩
theorem OwD.below {w w':World}{B:Nat}{v:Value}{l:List Str}(h:OwD w B v l)(c:Below w.heap.size w w'):OwD w' B v l:=h.ch (Ch.of_below c (λ_=>False)) (λ_ _ h=>h)
def NewD (w:World)(l:List Str)(e:Ending)(w':World):Prop:=∃v,e=.returned v/\OwD w' w.heap.size v l/\Below w.heap.size w w'
theorem NewD.nil {w w':World}(h:Below w.heap.size w w'):NewD w [] (.returned (.slice none 0 0)) w':=⟨_,rfl,⟨⟨rfl,.inl ⟨rfl,rfl⟩⟩,(λ_ h=>by cases h),by simp⟩,h⟩
def dcell (v:Str)(i j:Nat):Value:=if j<i*32 then .int .u8 ((v.getD j 0).toNat:Int) else .int .u8 0
theorem mk_dig (W:World)(q:Nat)(hq:q<=4):(Instr.makeSlice 47 (.int .i64 (q:Int)) (.int .i64 (q:Int))).run Tryz.prog W=.ok (.slice (some ⟨W.heap.size,0,none⟩) q q) (W.alloc (.cells (Ms.arr (q*32) Ms.zb) 31)):=by
 rcases(by omega:q=0\/q=1\/q=2\/q=3\/q=4) with e|e|e|e|e<;>subst e<;>kernel_rfl
theorem dcell_set {w:World}{B t q i:Nat}{v:Str}(h:Row w B t (q*32) (dcell v i))(hi:i<q)(hv:v.length=q*32):Row (w.setCells B (i*32) (bys' ((v.drop (i*32)).take 32))) B t (q*32) (dcell v (i+1)):=by
 have hl:((v.drop (i*32)).take 32).length=32:=by rw[List.length_take,List.length_drop];omega
 refine Row.congr (Ms.Row.setAll _ (i*32) w _ h (by rw[bys'_len,hl];omega)) λj hj=>?_
 rw[bys'_len,hl]
 by_cases e:i*32<=j/\j<i*32+32
 ·rw[if_pos e,List.getD_eq_getElem?_getD,bys'_at _ (j-i*32) (by omega)]
  unfold dcell
  rw[if_pos (show j<(i+1)*32 by omega)]
  simp only[Option.getD_some]
  congr 2
  rw[List.getD_eq_getElem?_getD,List.getElem?_take_of_lt (by omega),List.getElem?_drop,show i*32+(j-i*32)=j by omega,List.getD_eq_getElem?_getD]
 ·rw[if_neg e]
  unfold dcell
  by_cases e2:j<i*32
  ·rw[if_pos e2,if_pos (by omega)]
  ·rw[if_neg e2,if_neg (by omega)]
theorem dcell_own {w:World}{B q:Nat}{v:Str}(h:Row w B 31 (q*32) (dcell v q))(hv:v.length=q*32)(hq:q<=4):OwD w B (.slice (some ⟨B,0,none⟩) q q) (chunk v):=by
 have hl:(chunk v).length=q:=by rw[chunk_len];omega
 obtain⟨cs,hh,hs,hc⟩:=h
 refine⟨⟨by rw[bys'_len,chunk_all q v hv,hl,hv],.inr ⟨B,q,cs,by rw[hl],Nat.le_refl _,hh,by omega,by unfold maxLen;omega,hs,?_⟩⟩,λd hd=>chunk_32 d hd,by omega⟩
 rw[chunk_all q v hv,hl,List.take_of_length_le (by rw[Array.length_toList];omega)]
 apply List.ext_getElem?
 intro j
 by_cases hj:j<q*32
 ·rw[Array.getElem?_toList,hc j hj,bys'_at v j (by omega)]
  unfold dcell
  rw[if_pos hj]
 ·rw[List.getElem?_eq_none (by rw[Array.length_toList];omega),List.getElem?_eq_none (by rw[bys'_len];omega)]
section
variable {w w':World}{N M S L n:Nat}{O:Nat->Prop}{b:BM}
theorem denied_any (h:BW w N O M S L n b):Calls Tryz.prog 23 #[fptr M] w (NewD w (denV b.st.V)):=by
 have c0:=h.c0
 have HG0:=h.get (k:=⟨#[68,101,110,105,101,100]⟩) (by decide)
 rw[show(⟨#[68,101,110,105,101,100]⟩:ByteArray).data.toList=nmD from rfl] at HG0
 unfold denV
 rcases hg:getV b.st.V nmD with _|v
 ·have HG:Hid (Calls Tryz.prog 56 #[fptr S,.string ⟨#[68,101,110,105,101,100]⟩] w λe w'=>e=.returned (.tuple #[.string ⟨#[]⟩,.int .i64 6])/\w=w'):=by
   unfold getS at HG0
   rw[hg] at HG0
   exact HG0
  show Calls _ _ _ _ (NewD w [])
  clear HG0 hg h
  go_enter Tryz.func23,Tryz.ntmps23
  go_wp2_with fail
  refine HG.out.mono ?_
  rintro e w' ⟨rfl,rfl⟩
  go_wp2_with fail
  go_ret
  exact NewD.nil (Below.refl _ _)
 ·have hvl:=h.glen hg
  obtain⟨vb,hvb⟩:∃vb:ByteArray,str v=.string vb:=⟨_,rfl⟩
  have HVB:Hid (vb.data.toList=v):=by
   show _=_
   unfold str at hvb
   injection hvb with hvb
   rw[<-hvb]
  have HG:Hid (Calls Tryz.prog 56 #[fptr S,.string ⟨#[68,101,110,105,101,100]⟩] w λe w'=>e=.returned (.tuple #[.string vb,.int .i64 0])/\w=w'):=by
   unfold getS at HG0
   rw[hg] at HG0
   rw[<-hvb]
   exact HG0
  obtain⟨k,hk⟩:∃k,vb.size=k:=⟨_,rfl⟩
  have HVL:Hid (v.length=k):=by show _=_;rw[<-HVB.out,<-bsz];exact hk
  have hk128:k<=128:=by have:=HVL.out;omega
  have hkI:¬(k:Int) > 128:=by omega
  show Calls _ _ _ _ (NewD w (if v.length%32=0/\v.length<=128 then chunk v else []))
  by_cases hm:k%32=0
  ·rw[if_pos ⟨by rw[HVL.out];exact hm,by rw[HVL.out];exact hk128⟩]
   obtain⟨q,hq⟩:∃q,k=q*32:=⟨k/32,by omega⟩
   subst hq
   have hq4:q<=4:=by omega
   have hrem:((q*32:Nat):Int)%32=0:=by omega
   have hquo:((q*32:Nat):Int)/32=(q:Int):=by omega
   have hmk:=mk_dig w q hq4
   clear HG0 hg h hvb hvl
   go_enter Tryz.func23,Tryz.ntmps23
   go_wp2_with fail
   refine HG.out.mono ?_
   rintro e w' ⟨rfl,rfl⟩
   go_wp2_with fail
   clear hmk c0 HG
   have HR0:Hid (Row (w.alloc (.cells (Ms.arr (q*32) Ms.zb) 31)) w.heap.size 31 (q*32) (dcell v 0)):=(Row.ofList w 31 (Ms.arr (q*32) Ms.zb) Ms.zb (q*32) rfl).congr λj hj=>by
    unfold dcell;rw[if_neg (by omega)];rfl
   have HB0:Hid (Below w.heap.size w (w.alloc (.cells (Ms.arr (q*32) Ms.zb) 31))):=(Below.refl _ _).alloc (Nat.le_refl _) _
   generalize w.alloc (.cells (Ms.arr (q*32) Ms.zb) 31)=W0 at *
   obtain⟨B,hB⟩:∃B,w.heap.size=B:=⟨_,rfl⟩
   have HBE:=Hh hB
   rw[hB] at HR0 ⊢
   clear hB
   go_loopw [34] (λz wr=>∃i:Nat,i<=q/\z=.int .i64 (i:Int)/\Hid (Row wr B 31 (q*32) (dcell v i))/\Hid (Below w.heap.size w wr)) (λz _=>q-(intOf z).toNat)
   case atStart=>exact⟨0,by omega,rfl,HR0,HB0⟩
   case round=>
    clear HR0 HB0
    obtain⟨i,hi,rfl,HR,HB⟩:=hrel
    by_cases hlt:i<q
    ·have y0:(i:Int)<q:=by omega
     have hwi:IntKind.i64.wrap ((i:Int)*32)=((i*32:Nat):Int):=by rw[IntWalk.i64_in _ ⟨by omega,by omega⟩];omega
     have hsl:((i*32:Nat):Int)<=(vb.size:Int):=by omega
     go_wp2_with fail
     refine wp_region_pl (λ Y=>True) ((0,0)::(1,0)::(2,0)::(3,0)::(4,0)::(5,0)::(6,0)::(7,0)::(8,1)::[]) (by kernel_rfl) (by kernel_rfl) ?_
     iterate 8 (apply wpP_go;rfl;rfl;exact trivial;(intro Y s0;go_simp;exact rfl);intro K hK;go_simp;refine hK _ ?_;clear hK K)
     have htd:(vb.extract ((i:Int)*32).toNat (q*32)).data.toList=v.drop (i*32):=by
      rw[show((i:Int)*32).toNat=i*32 by omega,<-hk,Lib.extract_to_end,HVB.out]
     generalize vb.extract ((i:Int)*32).toNat (q*32)=tb at htd ⊢
     have htz:tb.size=q*32-i*32:=by rw[bsz,htd,List.length_drop,HVL.out]
     have hcp:=copy32 (W:=wr.drew) (g:=B) (o:=i*32) (c:=32) (t:=tb) (by omega) (λj hj=>⟨by rw[HR.out.drew.cell (by omega)];rfl,HR.out.drew.frozen _⟩)
     have HR2:Hid (Row (wr.drew.setCells B (i*32) (bys' (tb.data.toList.take 32))) B 31 (q*32) (dcell v (i+1))):=by rw[htd];exact dcell_set HR.out.drew hlt HVL.out
     have HB2:Hid (Below w.heap.size w (wr.drew.setCells B (i*32) (bys' (tb.data.toList.take 32)))):=Ms.Below.setAll (by rw[HBE.out];exact Nat.le_refl _) _ _ _ HB.out.drew
     clear htd HR HB
     iterate 1 (apply wpP_one;rfl;intro K hK;go_simp;refine hK _ _ trivial ?_;clear hK K)
     refine wpP_done ?_
     clear hcp
     go_wp2_with fail
     go_roundw
     case rel=>exact⟨i+1,by omega,by go_num,HR2,HB2⟩
     case measure=>simp[intOf];omega
    ·have ei:i=q:=by omega
     have y0:¬(i:Int)<q:=by omega
     subst ei
     have HRD:=Hh (dcell_own HR.out HVL.out hq4)
     have HRE:Hid (OwD wr w.heap.size (.slice (some ⟨B,0,none⟩) i i) (chunk v)):=by rw[HBE.out];exact HRD
     go_wp2_with fail
     go_ret
     exact⟨_,rfl,HRE.out,HB.out⟩
  ·rw[if_neg (λe=>hm (by rw[<-HVL.out];exact e.1))]
   have hrem:¬((k:Nat):Int)%32=0:=by omega
   have hremN:(((k:Nat):Int)%32!=0)=true:=by rw[bne_iff_ne];exact hrem
   clear HG0 hg h hvb hvl hm
   go_enter Tryz.func23,Tryz.ntmps23
   go_wp2_with fail
   refine HG.out.mono ?_
   rintro e w' ⟨rfl,rfl⟩
   go_wp2_with fail
   go_ret
   exact NewD.nil (Below.refl _ _)
end
end
section
attribute [local go_sem ↓] Ms.alloc26 Ms.load26n Ms.store26n
theorem eqDg {d e:Str}(hd:d.length=32)(he:e.length=32)(w:World):(binOp .eql 31 (.agg (Ms.arr 32 (Ms.b8 (dgF d)))) (.agg (Ms.arr 32 (Ms.b8 (dgF e))))).run Tryz.prog w=.ok (.bool (decide (d=e))) w:=by
 rw[Ms.eqD (dgF_byt d) (dgF_byt e),dgF_dl hd,dgF_dl he]
 congr 2
 rw[Bool.eq_iff_iff];simp
theorem neDg {d e:Str}(hd:d.length=32)(he:e.length=32)(w:World):(binOp .neq 31 (.agg (Ms.arr 32 (Ms.b8 (dgF d)))) (.agg (Ms.arr 32 (Ms.b8 (dgF e))))).run Tryz.prog w=.ok (.bool (!decide (d=e))) w:=by
 rw[Ms.neD (dgF_byt d) (dgF_byt e),dgF_dl hd,dgF_dl he]
 congr 2
 rw[Bool.eq_iff_iff];simp
theorem dg_row (w:World)(d:Str):Row (w.alloc (.cells (Ms.arr 32 (Ms.b8 (dgF d))) 31)) w.heap.size 31 32 (Ms.b8 (dgF d)):=Row.ofList w _ _ _ 32 rfl
theorem ld26 {W:World}{g t:Nat}{f:Nat->Value}(h:Row W g t 32 f):Ms.ldN 32 W (.pointer (some ⟨g,0,none⟩))=some (Ms.arr 32 f):=
 Ms.ldN_of (λj u hu=>by
  have hj:j<32:=by have:=(List.getElem?_eq_some_iff.1 hu).1;simpa[Ms.arr] using this
  have:u=f j:=by simpa[Ms.arr,hj] using hu.symm
  rw[this,Nat.zero_add,h.cell hj]) (Ms.arr_size _ _)
section
variable {w w':World}{v:Value}{l:List Str}{d:Str}
theorem indexD_any (h:RdD w v l)(hl:∀e∈l,e.length=32)(hd:d.length=32):Calls Tryz.prog 118 #[v,dgA d] w λe w'=>(∃x:Int,e=.returned (.int .i64 x)/\decide (x ≥ 0)=decide (d∈l))/\Below w.heap.size w w':=by
 obtain⟨a,c,rfl,h1,h2⟩:=h.shape
 obtain⟨cs,hcs⟩:∃cs,cs=Ms.arr 32 (Ms.b8 (dgF d)):=⟨_,rfl⟩
 have he:dgA d=.agg cs:=by rw[hcs];rfl
 have HB0:Hid (Below w.heap.size w (w.alloc (.cells cs 31))):=(Below.refl _ _).alloc (Nat.le_refl _) _
 have HR0:Hid (Row (w.alloc (.cells cs 31)) w.heap.size 31 32 (Ms.b8 (dgF d))):=by rw[hcs];exact dg_row w d
 have H0:=Hh (h.below HB0.out)
 have HCS:=Hh hcs
 obtain⟨len,hlen⟩:∃len,l.length=len:=⟨_,rfl⟩
 have HL:=Hh hlen
 have HLL:=Hh hl
 have HD:=Hh hd
 rw[hlen] at H0 h1 ⊢
 rw[he]
 clear h hlen hl hd he hcs
 go_enter Tryz.func118,Tryz.ntmps118
 go_wp2_with fail
 generalize w.alloc (.cells cs 31)=W0 at *
 obtain⟨B,hB⟩:∃B,w.heap.size=B:=⟨_,rfl⟩
 have HBE:=Hh hB
 rw[hB] at HR0 ⊢
 clear hB
 go_loopw [8] (λz wr=>∃i:Nat,i<=len/\z=.int .i64 (i:Int)/\Hid (d∉l.take i)/\Hid (RdD wr (.slice a len c) l)/\Hid (Row wr B 31 32 (Ms.b8 (dgF d)))/\Hid (Below w.heap.size w wr)) (λz _=>len-(intOf z).toNat)
 case atStart=>exact⟨0,by omega,rfl,(λh=>by cases h),H0,HR0,HB0⟩
 case round=>
  clear HR0 HB0 H0
  obtain⟨i,hi,rfl,HN,H,HR,HB⟩:=hrel
  by_cases hlt:i<len
  ·have y0:(i:Int)<len:=by omega
   have hil:i<l.length:=by rw[HL.out];exact hlt
   obtain⟨g,o,c',e,_,_,hc⟩:=H.out.at hil
   rw[HL.out] at e
   injection e with e1 _ e3
   subst e1 e3
   have hld:=ld26 HR.out
   rw[<-HCS.out] at hld
   have heq:∀Y,(binOp .eql 31 (.agg cs) (.agg (Ms.arr 32 (Ms.b8 (dgF l[i]))))).run Tryz.prog Y=.ok (.bool (decide (d=l[i]))) Y:=λ Y=>by rw[HCS.out];exact eqDg HD.out (HLL.out _ (List.getElem_mem hil)) Y
   have HST:Hid (∀q,decide (d=l[i])=q->(q=false->d∉l.take (i+1))/\(q=true->d∈l)):=by
    rintro q rfl
    refine⟨λhq=>?_,λhq=>?_⟩
    ·rw[List.take_succ_eq_append_getElem hil,List.mem_append]
     rintro (h|h)
     ·exact HN.out h
     ·rw[List.mem_singleton] at h;simp[h] at hq
    ·have:d=l[i]:=by simpa using hq
     rw[this];exact List.getElem_mem hil
   generalize decide (d=l[i])=q at *
   generalize Ms.arr 32 (Ms.b8 (dgF l[i]))=ds at *
   have S1:Hid (Ms.ldN 32 wr.drew (.pointer (some ⟨B,0,none⟩))=some cs/\Ms.ldN 32 wr.drew (.pointer (some ⟨g,o+i*32,none⟩))=some ds):=⟨by rw[Ms.ldN_drew];exact hld,by rw[Ms.ldN_drew];exact hc⟩
   clear hld hc hil
   go_wp2_with fail
   refine wp_region_pl (λ Y=>Ms.ldN 32 Y (.pointer (some ⟨B,0,none⟩))=some cs/\Ms.ldN 32 Y (.pointer (some ⟨g,o+i*32,none⟩))=some ds) ((0,0)::(1,0)::(2,0)::(3,0)::(4,0)::(5,0)::[]) (by kernel_rfl) (by kernel_rfl) ?_
   iterate 6 (apply wpP_go;rfl;rfl;exact S1.out;(rintro Y ⟨s0,s1⟩;go_simp;exact rfl);intro K hK;go_simp;refine hK _ ?_;clear hK K)
   refine wpP_done ?_
   clear S1 heq
   have H2:Hid (RdD wr.drew (.slice (some ⟨g,o,none⟩) len c) l):=H.out
   have HR2:Hid (Row wr.drew B 31 32 (Ms.b8 (dgF d))):=HR.out
   have HB2:Hid (Below w.heap.size w wr.drew):=HB.out.drew
   clear H HR HB
   generalize wr.drew=wn at *
   cases q
   ·have HN2:=Hh ((HST.out _ rfl).1 rfl)
    clear HST
    go_wp2_with fail
    go_roundw
    case rel=>exact⟨i+1,by omega,by go_num,HN2,H2,HR2,HB2⟩
    case measure=>simp[intOf];omega
   ·have HM:=Hh ((HST.out _ rfl).2 rfl)
    clear HST
    go_wp2_with fail
    go_ret
    exact⟨⟨_,rfl,by have:=HM.out;simp[this]⟩,HB2.out⟩
  ·have y0:¬(i:Int)<len:=by omega
   have HF:Hid (d∉l):=by
    have:=HN.out
    rw[List.take_of_length_le (by rw[HL.out];omega)] at this
    exact this
   go_wp2_with fail
   go_ret
   exact⟨⟨_,rfl,by have:=HF.out;simp[this]⟩,HB.out⟩
theorem containsD_any (h:RdD w v l)(hl:∀e∈l,e.length=32)(hd:d.length=32):Calls Tryz.prog 61 #[v,dgA d] w λe w'=>e=.returned (.bool (decide (d∈l)))/\Below w.heap.size w w':=by
 obtain⟨cs,hcs⟩:∃cs,cs=Ms.arr 32 (Ms.b8 (dgF d)):=⟨_,rfl⟩
 have he:dgA d=.agg cs:=by rw[hcs];rfl
 have HB0:Hid (Below w.heap.size w (w.alloc (.cells cs 31))):=(Below.refl _ _).alloc (Nat.le_refl _) _
 have hld:Ms.ldN 32 (w.alloc (.cells cs 31)) (.pointer (some ⟨w.heap.size,0,none⟩))=some cs:=by rw[hcs];exact ld26 (dg_row w d)
 have HI:=Hh (indexD_any (h.below HB0.out) hl hd)
 rw[he] at HI ⊢
 obtain⟨a,c,rfl,h1,h2⟩:=h.shape
 clear h hl hd he hcs h1 h2
 generalize decide (d∈l)=q at *
 go_enter Tryz.func61,Tryz.ntmps61
 go_wp2_with fail
 refine HI.out.mono ?_
 rintro e w1 ⟨⟨x,rfl,hx⟩,b1⟩
 have HB1:Hid (Below w.heap.size w w1):=HB0.out.trans (b1.mono HB0.out.size)
 clear b1 HI HB0 hld
 go_wp2_with fail
 go_ret
 exact⟨rfl,HB1.out⟩
end
end
section
attribute [local go_sem ↓] Ms.alloc26 Ms.load26n Ms.store26n
attribute [local go_sem] Ms.set_new
def denyB (b:BM)(d:Str):Int×BM:=if d∈denV b.st.V then (0,b) else if 4<=(denV b.st.V).length then (8,b) else setB b nmD (denV b.st.V++[d]).flatten
theorem Tryz.infoDg:(Tryz.prog.info? 31).map (λi=>(i.zero,i.size,i.bytes))=some (some (.agg (Ms.arr 32 Ms.zb)),32,32):=by kernel_rfl
theorem dg_bys {d:Str}(hd:d.length=32):(Ms.arr 32 (Ms.b8 (dgF d))).toList=bys' d:=by
 apply List.ext_getElem?
 intro j
 by_cases hj:j<32
 ·rw[bys'_at d j (by omega)]
  simp[Ms.arr,hj,Ms.b8,dgF]
 ·rw[List.getElem?_eq_none (by simp[Ms.arr];omega),List.getElem?_eq_none (by rw[bys'_len];omega)]
def slcD (x:Value):Option (Array Value):=match x with
 | .agg cs=>if cs.size=32 then some cs else none
 | _=>none
theorem slice47a (f:Nat->Value)(w:World):Sem.run Tryz.prog (Instr.buildSlice 47 1 #[(0,.agg (Ms.arr 32 f))]) w=.ok (.slice (some ⟨w.heap.size,0,none⟩) 1 1) (w.alloc (.cells (Ms.arr 32 f) 31)):=by kernel_rfl
theorem slice47 (ρ:Operand->Value)(d:Option Tmp)(x:Operand)(ty:TypeId)(p:String)(af:Array Edge)(g:Option (Nat×Bool))(w:World) :
  Sem.run Tryz.prog (execOp ρ { dst:=d,op:=.buildSlice 47 1 #[(0,x)],type:=ty,pos:=p,after:=af,guard:=g }) w =
   match slcD (ρ x) with
   | some cs=>.ok (.value (.slice (some ⟨w.heap.size,0,none⟩) 1 1)) (w.alloc (.cells cs 31))
   | none=>Sem.run Tryz.prog (Instr.buildSlice 47 1 #[(0,ρ x)] >>= λv=>pure (Next.value v)) w:=by
 have e:execOp ρ { dst:=d,op:=.buildSlice 47 1 #[(0,x)],type:=ty,pos:=p,after:=af,guard:=g }=Instr.buildSlice 47 1 #[(0,ρ x)] >>= λv=>pure (Next.value v):=by simp[execOp]
 rw[e]
 clear e
 generalize ρ x=X
 unfold slcD
 split
 ·next h=>
  split at h
  ·split at h
   ·next cs hs=>
    injection h with h
    subst h
    rw[Ms.arr_of hs,Sem.run_bind,slice47a]
    rfl
   ·cases h
  ·cases h
 ·rfl
theorem flatten_take_succ {D:List Str}{i:Nat}(h:i<D.length):(D.take (i+1)).flatten=(D.take i).flatten++D[i]:=by
 rw[List.take_succ_eq_append_getElem h,List.flatten_append,List.flatten_cons,List.flatten_nil,List.append_nil]
theorem bys'_app (a b:Str):bys' (a++b)=bys' a++bys' b:=by simp[bys']
section
attribute [local go_sem ↓] slice47
attribute [local go_sem] slcD Ms.stN_b8 Ms.set_new
variable {w w':World}{N M S L n:Nat}{O:Nat->Prop}{b:BM}
theorem deny_any (h:BW w N O M S L n b)(hb:b.st.blk<b.fl.B)(hn:n<1000){d:Str}(hd:d.length=32):Calls Tryz.prog 21 #[fptr M,dgA d] w (MR w N O M S L (n+1) (denyB b d)):=by
 obtain⟨cs,hcs⟩:∃cs,cs=Ms.arr 32 (Ms.b8 (dgF d)):=⟨_,rfl⟩
 have he:dgA d=.agg cs:=by rw[hcs];rfl
 have hB0:Below w.heap.size w (w.alloc (.cells cs 31)):=(Below.refl _ _).alloc (Nat.le_refl _) _
 have hR0:Row (w.alloc (.cells cs 31)) w.heap.size 31 32 (Ms.b8 (dgF d)):=by rw[hcs];exact dg_row w d
 have HW0:=Hh (h.below hB0)
 have HDN:=Hh (denied_any HW0.out)
 have HB0:=Hh hB0
 have HR0:=Hh hR0
 have HCS:=Hh hcs
 have HD:=Hh hd
 have HE:=Hh he
 have HWW:=Hh h
 rw[he]
 clear h hB0 hR0 hcs hd he
 obtain⟨E,hE⟩:∃E,w.heap.size=E:=⟨_,rfl⟩
 have HEE:=Hh hE
 rw[hE] at HR0
 have hsz:w.heap.size<=(w.alloc (.cells cs 31)).heap.size:=HB0.out.size
 obtain⟨r,hr⟩:∃r,denyB b d=r:=⟨_,rfl⟩
 have HRE:=Hh hr
 rw[hr]
 clear hr
 go_enter Tryz.func21,Tryz.ntmps21
 go_wp2_with fail
 generalize w.alloc (.cells cs 31)=W0 at *
 refine HDN.out.mono ?_
 rintro e w1 ⟨v,rfl,ho,b1⟩
 have HO1:=Hh ho
 have HB1:Hid (Below w.heap.size w w1):=HB0.out.trans (b1.mono HB0.out.size)
 have HW1:=Hh (HW0.out.below b1)
 have HR1:=Hh (HR0.out.ch (Ch.of_below b1 (λ_=>False)) id)
 have hl32:∀e∈denV b.st.V,e.length=32:=denV_32
 have hlen4:=denV_len b.st.V
 have hld:=ld26 HR1.out
 rw[<-HCS.out] at hld
 have HCT:Hid (Calls Tryz.prog 61 #[v,.agg cs] w1 λe w'=>e=.returned (.bool (decide (d∈denV b.st.V)))/\Below w1.heap.size w1 w'):=by
  rw[<-HE.out];exact containsD_any ho.rd hl32 HD.out
 obtain⟨a,c,rfl,hac,hcm⟩:=ho.rd.shape
 unfold denyB at HRE
 generalize denV b.st.V=dn at *
 have HL32:=Hh hl32
 have hz1:W0.heap.size<=w1.heap.size:=b1.size
 clear ho b1 HDN HW0 HR0 HB0 hl32 hE
 go_wp2_with fail
 refine HCT.out.mono ?_
 rintro e w2 ⟨rfl,b2⟩
 have HB2:Hid (Below w.heap.size w w2):=HB1.out.trans (b2.mono HB1.out.size)
 have HW2:=Hh (HW1.out.below b2)
 have HR2:=Hh (HR1.out.ch (Ch.of_below b2 (λ_=>False)) id)
 have HO2:=Hh (HO1.out.below b2)
 have hZ:W0.heap.size<=w2.heap.size:=Nat.le_trans hz1 b2.size
 clear hz1
 clear b2 HCT HB1 HW1 HR1 HO1 hld
 by_cases hm:d∈dn
 ·have e0:r=(0,b):=by rw[<-HRE.out,if_pos hm]
  subst e0
  have hmd:decide (d∈dn)=true:=decide_eq_true hm
  rw[hmd]
  clear hm hmd HRE
  go_wp2_with fail
  go_ret
  exact⟨rfl,MLeft.same (HW2.out.mono (Nat.le_succ _)) (Ch.of_below HB2.out _)⟩
 have hmd:decide (d∈dn)=false:=decide_eq_false hm
 rw[hmd]
 by_cases h4:4<=dn.length
 ·have e0:r=(8,b):=by rw[<-HRE.out,if_neg hm,if_pos h4]
  subst e0
  have h4I:((dn.length:Nat):Int) ≥ 4:=by omega
  clear hm hmd HRE
  go_wp2_with fail
  go_ret
  exact⟨rfl,MLeft.same (HW2.out.mono (Nat.le_succ _)) (Ch.of_below HB2.out _)⟩
 obtain⟨F,hF⟩:∃F,(dn++[d]).flatten=F:=⟨_,rfl⟩
 have HF:=Hh hF
 have e0:r=setB b nmD F:=by rw[<-HRE.out,if_neg hm,if_neg h4,hF]
 clear hF
 subst e0
 have h4I:¬((dn.length:Nat):Int) ≥ 4:=by omega
 have hld:=ld26 HR2.out
 rw[<-HCS.out] at hld
 clear hm hmd HRE
 obtain⟨i0,hi0,hz0,hz1,hz2⟩:=info_parts Tryz.infoDg
 have hcs32:cs.size=32:=by rw[HCS.out,Ms.arr_size]
 have hcl:cs.toList=bys' d:=by rw[HCS.out];exact dg_bys HD.out
 have HOA:Hid ((w2.alloc (.cells cs 31)).ownsRow W0.heap.size 31 32 (.slice a dn.length c) dn.length (bys' dn.flatten)):=ownN_ch HO2.out.1 ((Ch.refl (λ_=>False) w2).alloc _) (λ_ _ h=>h)
 have HNW:Hid (∀j u,(bys' d)[j]? = some u->(w2.alloc (.cells cs 31)).cell? ((⟨w2.heap.size,0,none⟩:Addr).add j)=some u):=World.news_of_block (heap_alloc_new w2 _) |> λh=>by rw[<-hcl];exact h
 have HB3:Hid (Below w.heap.size w (w2.alloc (.cells cs 31))):=HB2.out.alloc HB2.out.size _
 have hdl:=HD.out
 clear hcl
 go_wp2_with (at_builtin;refine wpList_append_lies _ rfl _ _ 47 rfl W0.heap.size 31 i0 _ 32 32 Tryz.underlying47 hi0 hz0 hz1 hz2 (by kernel_rfl) (by omega) _ dn.length (bys' dn.flatten) rfl (by exact HOA.out) ⟨w2.heap.size,0,none⟩ 1 1 (bys' d) rfl (by rw[bys'_len,hdl]) (by exact HNW.out) (bys'_one d) (by omega) (by simp only[maxLen];omega) (by omega) (by simp;omega) (w2.heap.size+1) (by simp) ?_)
 intro g cap w4 hown4 hgrow4 hat4 hlt4
 have HB4:Hid (Below w.heap.size w w4):=Below.grown HB3.out hgrow4 (by simp;have:=HB2.out.size;omega) (λk hk=>Nat.le_trans hsz (HOA.out.lt k hk).1)
 have HGW:Hid (W0.heap.size<=g):=by
  rcases hat4 with e|e
  ·exact(HOA.out.lt g e).1
  ·rw[e];show _<=_;omega
 obtain⟨D,hD⟩:∃D,dn++[d]=D:=⟨_,rfl⟩
 obtain⟨m,hm⟩:∃m,dn.length+1=m:=⟨_,rfl⟩
 have HDm:Hid (D.length=m):=by show _=_;rw[<-hD,<-hm];simp
 have HD32:Hid (∀e∈D,e.length=32):=by
  rw[<-hD]
  intro e he
  rcases List.mem_append.1 he with h|h
  ·exact HL32.out e h
  ·rw[List.mem_singleton.1 h];exact hdl
 have HO4:Hid (OwD w4 W0.heap.size (.slice (some ⟨g,0,none⟩) m cap) D):=by
  refine⟨?_,HD32.out,by rw[HDm.out];omega⟩
  rw[HDm.out,<-hm,<-hD,List.flatten_append,List.flatten_cons,List.flatten_nil,List.append_nil,bys'_app]
  exact hown4
 have HFF:Hid (F=D.flatten):=by show _=_;rw[<-HF.out,hD]
 have hm4:m<=4:=by omega
 have HDp:Hid (1<=m):=by show _<=_;omega
 have HWk:Hid (BW w N O M S L n b/\w.heap.size<=W0.heap.size):=⟨HWW.out,hsz⟩
 obtain⟨Z,hZz⟩:∃Z,W0.heap.size=Z:=⟨_,rfl⟩
 rw[hZz] at HO4 HGW HWk
 obtain⟨j0,hj0,hy0,hy1,hy2⟩:=info_parts Tryz.infoU
 rw[hm]
 clear hown4 hgrow4 hat4 hlt4 HOA HNW HB3 HO2 HR2 HW2 HB2 HL32 hld hcs32 HCS HE HEE hZ hsz hi0 hz0 hz1 hz2 hdl h4 h4I hac hcm hlen4 HF hZz
 clear hm hD
 go_wp2_with fail
 have HU0:Hid (w4.ownsRow w.heap.size 5 1 (.slice none 0 0) 0 (bys' (D.take 0).flatten)):=⟨rfl,.inl ⟨rfl,rfl⟩⟩
 go_loopw [6,22] (λx z wr=>∃(i:Nat),i<=m/\z=.int .i64 (i:Int)/\Hid (wr.ownsRow w.heap.size 5 1 x (i*32) (bys' (D.take i).flatten))/\Hid (OwD wr Z (.slice (some ⟨g,0,none⟩) m cap) D)/\Hid (Below w.heap.size w wr)) (λ_ z _=>m-(intOf z).toNat)
 case atStart=>exact⟨0,by omega,rfl,HU0,HO4,HB4⟩
 case round=>
  clear HU0 HO4 HB4
  obtain⟨i,hi,rfl,HU,HO,HB⟩:=hrel
  obtain⟨xa,xc,rfl⟩:=Ms.own_len HU.out
  by_cases hlt:i<m
  ·have y0:(i:Int)<m:=by omega
   have hil:i<D.length:=by rw[HDm.out];exact hlt
   obtain⟨g',o,c',e,hmc,_,hc⟩:=HO.out.rd.at hil
   rw[HDm.out] at e hmc
   injection e with e1 _ e3
   injection e1 with e1
   injection e1 with e1 e2 _
   subst e1 e2 e3
   rw[Nat.zero_add] at hc
   have HE1:Hid ((D[i]).length=32):=HD32.out _ (List.getElem_mem hil)
   have HTS:Hid ((D.take (i+1)).flatten=(D.take i).flatten++D[i]):=flatten_take_succ hil
   have HFL:Hid ((D.take i).flatten.length=i*32):=by
    show _=_
    rw[flat32 _ (λe he=>HD32.out e (List.mem_of_mem_take he)),List.length_take]
    omega
   generalize D[i]=d1 at *
   have HR1:=Hh (dg_row wr d1)
   have HU1:Hid ((wr.alloc (.cells (Ms.arr 32 (Ms.b8 (dgF d1))) 31)).ownsRow w.heap.size 5 1 (.slice xa (i*32) xc) (i*32) (bys' (D.take i).flatten)):=ownN_ch HU.out ((Ch.refl (λ_=>False) wr).alloc _) (λ_ _ h=>h)
   have HO1:Hid (OwD (wr.alloc (.cells (Ms.arr 32 (Ms.b8 (dgF d1))) 31)) Z (.slice (some ⟨g,0,none⟩) m cap) D):=HO.out.ch ((Ch.refl (λ_=>False) wr).alloc _) (λ_ _ h=>h)
   have HN1:Hid (∀j u,(bys' d1)[j]? = some u->(wr.alloc (.cells (Ms.arr 32 (Ms.b8 (dgF d1))) 31)).cell? ((⟨wr.heap.size,0,none⟩:Addr).add j)=some u):=World.news_of_block (heap_alloc_new wr _) |> λh=>by rw[<-dg_bys HE1.out];exact h
   have HB1:Hid (Below w.heap.size w (wr.alloc (.cells (Ms.arr 32 (Ms.b8 (dgF d1))) 31))):=HB.out.alloc HB.out.size _
   have hsw:w.heap.size<=wr.heap.size:=HB.out.size
   have hd1:=HE1.out
   clear HU HO HB
   go_wp2_with (at_builtin;refine wpList_append_lies _ rfl _ _ 99 rfl w.heap.size 5 j0 _ 1 1 Tryz.underlying99 hj0 hy0 hy1 hy2 (by kernel_rfl) (by omega) _ (i*32) (bys' (D.take i).flatten) rfl (by exact HU1.out) ⟨wr.heap.size,0,none⟩ 32 32 (bys' d1) rfl (by rw[bys'_len,hd1]) (by exact HN1.out) (bys'_one d1) (by omega) (by simp only[maxLen];omega) (by omega) (by simp;omega) (wr.heap.size+1) (by simp) ?_)
   intro g2 cap2 w5 hown5 hgrow5 hat5 hlt5
   have hne:∀k,(Value.slice xa (i*32) xc).ownBlock=some k->k≠g:=λk hk=>(ownN_rg HU1.out hk).1.ty (ownN_rg HO1.out.1 rfl).1 (by decide)
   have HB5:Hid (Below w.heap.size w w5):=Below.grown HB1.out hgrow5 (by simp;omega) (λk hk=>(HU1.out.lt k hk).1)
   have HO5:Hid (OwD w5 Z (.slice (some ⟨g,0,none⟩) m cap) D):=HO1.out.ch (Ch.of_grown (C:=λk=>k≠g) hgrow5 (λk hk _=>hne k hk)) (λk hk q=>by
    have e:g=k:=by simpa[Value.ownBlock] using hk
    exact q e.symm)
   have HU5:Hid (w5.ownsRow w.heap.size 5 1 (.slice (some ⟨g2,0,none⟩) (i*32+32) cap2) ((i+1)*32) (bys' (D.take (i+1)).flatten)):=by
    rw[HTS.out,bys'_app,show(i+1)*32=i*32+32 by omega]
    exact hown5
   clear hown5 hgrow5 hat5 hlt5 hne HB1 HO1 HU1 HN1 HTS HFL HE1 hd1 HR1 hc
   go_wp2_with fail
   go_roundw
   case rel=>exact⟨i+1,by omega,by go_num,HU5,HO5,HB5⟩
   case measure=>simp[intOf];omega
  ·have ei:i=m:=by omega
   have y0:¬(i:Int)<m:=by omega
   subst ei
   have hD:D.take i=D:=List.take_of_length_le (by rw[HDm.out];exact Nat.le_refl _)
   have hU:=HU.out
   rw[hD,<-HFF.out] at hU
   have hFl:F.length=i*32:=by rw[HFF.out,flat32 _ HD32.out,HDm.out]
   have hFl2:=hFl
   rcases hU.2 with ⟨_,q0⟩|⟨g2,cap2,cur,e,hb2,hh,q3,q4,q5,q6⟩
   ·exfalso
    have:=HDm.out
    have:=HDp.out
    omega
   injection e with e1 _ e3
   subst e1 e3
   have HG:Hid (Rg wr g2 5 (i*32) (λj=>.int .u8 ((F.getD j 0).toNat:Int))):=own_bys hU hFl
   obtain⟨vb,hvb⟩:∃vb:ByteArray,vb=⟨F.toArray⟩:=⟨_,rfl⟩
   have HVB:Hid (vb.data.toList=F):=by show _=_;rw[hvb]
   have hvz:vb.size<=1000000:=by rw[bsz,HVB.out,hFl];omega
   have HCV:Hid (∀Y,Rg Y g2 5 (i*32) (λj=>.int .u8 ((F.getD j 0).toNat:Int))->(convert 99 9 (.slice (some ⟨g2,0,none⟩) (i*32) xc)).run Tryz.prog Y=.ok (.string vb) Y):=λ Y h=>by rw[hvb];exact conv_rg h hFl2
   have HWr:=Hh (HWW.out.below HB.out)
   have HST:=Hh (HWr.out.drew.setB hb hn (ke:=⟨#[68,101,110,105,101,100]⟩) (k:=nmD) (v:=F) (by decide) hvz rfl HVB.out)
   have HnO:Hid (¬O g2):=λho=>by have:=(HWW.out.oN g2 ho).2;omega
   have S1:Hid (wr.drew.cell? ⟨M,0,none⟩=some (fptr S)/\Rg wr.drew g2 5 (i*32) (λj=>.int .u8 ((F.getD j 0).toNat:Int))):=⟨HWr.out.c0,HG.out⟩
   have HBr:Hid (Below w.heap.size w wr.drew):=HB.out.drew
   clear hvb hFl hFl2 hU hD HU HO HB HG hh q6
   go_wp2_with fail
   refine wp_region_pl (λ Y=>Y.cell? ⟨M,0,none⟩=some (fptr S)/\Rg Y g2 5 (i*32) (λj=>.int .u8 ((F.getD j 0).toNat:Int)))
    ((0,0)::(1,0)::(2,0)::(3,0)::(4,0)::(5,0)::(6,1)::(7,0)::[]) (by kernel_rfl) (by kernel_rfl) ?_
   iterate 6 (apply wpP_go;rfl;rfl;exact S1.out;(rintro Y ⟨c0,s2⟩;have cv:=HCV.out Y s2;go_simp;exact rfl);intro K hK;go_simp;refine hK _ ?_;clear hK K)
   apply wpP_one
   rfl
   intro K hK
   go_simp
   refine HST.out.mono ?_
   rintro e w6 ⟨rfl,hl⟩
   have HLf:=Hh hl
   have S3:Hid (w6.cell? ⟨M,0,none⟩=some (fptr S)/\Rg w6 g2 5 (i*32) (λj=>.int .u8 ((F.getD j 0).toNat:Int))):=by
    obtain⟨O',_,q2,q3⟩:=hl
    exact⟨q2.c0,S1.out.2.ch q3 HnO.out⟩
   refine hK _ _ S3.out ?_
   clear hK K hl
   iterate 1 (apply wpP_go;rfl;rfl;exact S3.out;(intro Y s0;go_simp;exact rfl);intro K hK;go_simp;refine hK _ ?_;clear hK K)
   refine wpP_done ?_
   clear S1 S3 HST
   go_wp2_with fail
   go_ret
   exact⟨rfl,HLf.out.after HBr.out⟩
end
end
section
attribute [local go_sem ↓] alloc34 load34 store34 build34 build34o Ms.alloc26 Ms.load26n Ms.store26n
attribute [local go_sem] Ms.set_new
def RdT (w:World)(v:Value)(l:List ByteArray):Prop:=∃a c,v=.slice a l.length c/\l.length<=c/\c<=maxLen/\(∀g,v.ownBlock=some g->g<w.heap.size)/\(l≠[]->∃g o,a=some ⟨g,o,none⟩/\∀i x,l[i]? = some x->w.cell? ⟨g,o+i,none⟩=some (.string x))
section
variable {w w':World}{v:Value}{l:List ByteArray}
theorem RdT.ch {C:Nat->Prop}(h:RdT w v l)(c:Ch C w w')(hC:∀g,v.ownBlock=some g->¬C g):RdT w' v l:=by
 obtain⟨a,n,rfl,h1,h2,h3,h4⟩:=h
 refine⟨a,n,rfl,h1,h2,λg hg=>Nat.lt_of_lt_of_le (h3 g hg) c.size,λhne=>?_⟩
 obtain⟨g,o,rfl,hx⟩:=h4 hne
 have hg:(Value.slice (some ⟨g,o,none⟩) l.length n).ownBlock=some g:=rfl
 exact⟨g,o,rfl,λi x hi=>(c.cell ⟨g,o+i,none⟩ (h3 g hg) (hC g hg)).trans (hx i x hi)⟩
theorem RdT.below (h:RdT w v l)(b:Below w.heap.size w w'):RdT w' v l:=h.ch (Ch.of_below b (λ_=>False)) (λ_ _ h=>h)
theorem RdT.cellAt (h:RdT w v l){i:Nat}(hi:i<l.length):∃g o c,v=.slice (some ⟨g,o,none⟩) l.length c/\l.length<=c/\c<=maxLen/\g<w.heap.size/\w.cell? ⟨g,o+i,none⟩=some (.string l[i]):=by
 obtain⟨a,c,rfl,h1,h2,h3,h4⟩:=h
 obtain⟨g,o,rfl,hx⟩:=h4 (by intro e;rw[e] at hi;cases hi)
 exact⟨g,o,c,rfl,h1,h2,h3 g rfl,hx i _ (List.getElem?_eq_getElem hi)⟩
theorem RdT.shape (h:RdT w v l):∃a c,v=.slice a l.length c/\l.length<=c/\c<=9223372036854775807:=by
 obtain⟨a,c,rfl,h1,h2,_⟩:=h
 exact⟨a,c,rfl,h1,by unfold maxLen at h2;omega⟩
end
def exE (V:Vars)(i:Int):En:=(entO V i).getD ⟨0,[],false,0,0⟩
def sumS (s:ByteArray):Str:=Ms.dl (Ms.sumD s.data.toList)
theorem sumS_len (s:ByteArray):(sumS s).length=32:=Ms.dl_len _
def exC (V:Vars)(i:Nat)(l:List ByteArray):Int:=match entO V i with
 | none=>6
 | some e=>if l.length<=i\/(l.getD i ⟨#[]⟩).size=0 then 6 else if e.a=false then 9 else if sumS (l.getD i ⟨#[]⟩)≠e.d then 21 else if e.d∈denV V then 13 else if e.n<=e.u then 14 else 0
theorem entT_ex (V:Vars)(i:Int):entT V i=.tuple #[enV (exE V i),.int .i64 ((exE V i).u:Int),.int .i64 (if (entO V i).isSome=true then 0 else 6)]:=by
 unfold entT exE
 rcases entO V i with _|e<;>rfl
theorem entO_some {V:Vars}{i:Int}{e:En}(h:entO V i=some e):e.i=i/\isId i=true/\e.d.length=32/\e.n<=255/\e.u<=255:=by
 unfold entO at h
 obtain⟨v,hv,rfl⟩:=Option.map_eq_some_iff.1 h
 obtain⟨h1,_,h3⟩:=entV_some hv
 have h4:=okE_len h3
 have h5:=(v.getD 33 0).toNat_lt
 have h6:=(v.getD 34 0).toNat_lt
 refine⟨rfl,h1,?_,?_,?_⟩
 ·show(v.take 32).length=32
  rw[List.length_take];omega
 ·show(v.getD 33 0).toNat<=255
  omega
 ·show(v.getD 34 0).toNat<=255
  omega
theorem sum_str (s:ByteArray)(w:World)(hs:s.size<=1073741824)(hr:Ms.Rnd w)(h0:0<w.heap.size):Calls Tryz.prog 14 #[.string s] w λe w'=>e=.returned (.agg (Ms.arr 32 (Ms.b8 (dgF (sumS s)))))/\Below w.heap.size w w':=by
 have h:=Ms.sum_any s w hs hr h0
 have e:=sumD_dg s.data.toList
 unfold dgA at e
 show Calls _ _ _ _ λe w'=>e=.returned (.agg (Ms.arr 32 (Ms.b8 (dgF (Ms.dl (Ms.sumD s.data.toList))))))/\_
 rw[e]
 exact h
theorem ld_dg {W:World}{g t:Nat}{i:Int}{d:Str}{a:Bool}{n:Int}(h:Row W g t 35 (ecl i d a n)):Ms.ldN 32 W (.pointer (some ⟨g,1,none⟩))=some (Ms.arr 32 (Ms.b8 (dgF d))):=
 Ms.ldN_of (λj u hu=>by
  have hj:j<32:=by have:=(List.getElem?_eq_some_iff.1 hu).1;simpa[Ms.arr] using this
  have:u=Ms.b8 (dgF d) j:=by simpa[Ms.arr,hj] using hu.symm
  rw[this,h.cell (i:=1+j) (by omega),ecl_mid _ _ _ _ _ hj]
  rfl) (Ms.arr_size _ _)
section
variable {w w':World}{N M S L n:Nat}{O:Nat->Prop}{b:BM}{v:Value}{l:List ByteArray}
theorem examine_any (h:BW w N O M S L n b)(i:Nat)(hv:RdT w v l)(hs:∀x∈l,x.size<=1073741824):Calls Tryz.prog 59 #[fptr M,.int .i64 (i:Int),v] w λe w'=>e=.returned (.tuple #[enV (exE b.st.V i),.int .i64 ((exE b.st.V i).u:Int),.int .i64 (exC b.st.V i l)])/\Below w.heap.size w w':=by
 obtain⟨ce,hce⟩:∃c,exC b.st.V i l=c:=⟨_,rfl⟩
 obtain⟨en,hen⟩:∃e,exE b.st.V (i:Int)=e:=⟨_,rfl⟩
 have HCE:=Hh hce
 have HEN:=Hh hen
 rw[hce,hen]
 have HW0:=Hh (h.below ((Below.refl w.heap.size w).alloc (Nat.le_refl _) (.cells (Ms.arr 35 (ecl 0 [] false 0)) 34)))
 have hbe:=bentry_any HW0.out (i:Int)
 rw[entT_ex,hen] at hbe
 obtain⟨c0,hc0⟩:∃c:Int,(if (entO b.st.V (i:Int)).isSome=true then (0:Int) else 6)=c:=⟨_,rfl⟩
 rw[hc0] at hbe
 have HBE:=Hh hbe
 have HR0:=Hh (nE_row w)
 have HB0:Hid (Below w.heap.size w (w.alloc (.cells (Ms.arr 35 (ecl 0 [] false 0)) 34))):=(Below.refl _ _).alloc (Nat.le_refl _) _
 obtain⟨E,hE⟩:∃E,w.heap.size=E:=⟨_,rfl⟩
 have HE:=Hh hE
 obtain⟨a,c,rfl,hac,hcm⟩:=hv.shape
 have HV:=Hh hv
 have HS:=Hh hs
 have HWW:=Hh h
 obtain⟨ei,ed,ea,en',eu,rfl⟩:∃a b c d e,en=⟨a,b,c,d,e⟩:=⟨en.i,en.d,en.a,en.n,en.u,rfl⟩
 have hev:enV ⟨ei,ed,ea,en',eu⟩=.agg (Ms.arr 35 (ecl ei ed ea en')):=rfl
 rw[hev] at HBE ⊢
 have hst9:=λ(W:World)=>st34 (nE_row W) ei ed ea en'
 rw[hE] at HR0
 clear hbe hev h hv hs hce hen hE
 go_enter Tryz.func59,Tryz.ntmps59
 go_wp2_with fail
 rw[HE.out]
 generalize w.alloc (.cells (Ms.arr 35 (ecl 0 [] false 0)) 34)=W0 at *
 refine HBE.out.mono ?_
 rintro e w1 ⟨rfl,b1⟩
 have HB1:Hid (Below w.heap.size w w1):=HB0.out.trans (b1.mono HB0.out.size)
 have HR1:=Hh (HR0.out.ch (Ch.of_below b1 (λ_=>False)) id)
 have HR6:Hid (Row (w1.alloc (.cells (Ms.arr 35 (ecl ei ed ea en')) 34)) E 34 35 (ecl 0 [] false 0)):=HR1.out.alloc _
 have HR9:Hid (Row (w1.alloc (.cells (Ms.arr 35 (ecl ei ed ea en')) 34)) w1.heap.size 34 35 (ecl ei ed ea en')):=Row.ofList w1 _ _ _ 35 rfl
 have HB2:Hid (Below w.heap.size w (w1.alloc (.cells (Ms.arr 35 (ecl ei ed ea en')) 34))):=HB1.out.alloc HB1.out.size _
 have hne:E≠w1.heap.size:=by have:=HR1.out.lt;omega
 clear b1 HBE HW0 HR0 HB0 HR1 HB1
 rcases hO:entO b.st.V (i:Int) with _|e
 ·have hcc:ce=6:=by rw[<-HCE.out];unfold exC;rw[hO]
  have e1:c0=6:=by rw[<-hc0,hO];rfl
  subst e1
  clear hO hc0 HCE
  go_upto_if 19 with fail
  generalize w1.heap.size=E9 at *
  generalize w1.alloc (.cells (Ms.arr 35 (ecl ei ed ea en')) 34)=W at *
  clear hst9
  subst hcc
  have hst6:=st34 (W:=W) HR6.out ei ed ea en'
  have hld9:=ld34 (W:=W) HR9.out
  have HRF:Hid (Row ((W).setCells E 0 (Ms.arr 35 (ecl ei ed ea en')).toList) E 34 35 (ecl ei ed ea en')):=Ms.Row.setWhole (w:=W) HR6.out
  have HBF:Hid (Below w.heap.size w ((W).setCells E 0 (Ms.arr 35 (ecl ei ed ea en')).toList)):=Ms.Below.setAll (by rw[HE.out];exact Nat.le_refl _) _ _ _ HB2.out
  go_wp2_with fail
  exact bodyPost_ret (v:=.tuple #[.agg (Ms.arr 35 (ecl ei ed ea en')),.int .i64 (eu:Int),.int .i64 6]) (res3 rfl _ _ E (Ms.arr 35 (ecl ei ed ea en')) _ _ rfl rfl rfl (ret34 HRF.out)) rfl ⟨rfl,HBF.out⟩
 have HIMG:Hid (ce=if l.length<=i\/(l.getD i ⟨#[]⟩).size=0 then 6 else if ea=false then 9 else if sumS (l.getD i ⟨#[]⟩)≠ed then 21 else if ed∈denV b.st.V then 13 else if en'<=eu then 14 else 0):=by
  have h1:=HEN.out
  unfold exE at h1
  rw[hO] at h1
  have h2:e=⟨ei,ed,ea,en',eu⟩:=h1
  show _=_
  rw[<-HCE.out]
  unfold exC
  rw[hO,h2]
 have HED:Hid (ed.length=32):=by
  have h1:=HEN.out
  unfold exE at h1
  rw[hO] at h1
  have h2:e=⟨ei,ed,ea,en',eu⟩:=h1
  have:=(entO_some hO).2.2.1
  rw[h2] at this
  exact this
 have e1:c0=0:=by rw[<-hc0,hO];rfl
 subst e1
 clear hO hc0 HCE HEN
 by_cases hlt:i<l.length
 ·have hil:=hlt
  obtain⟨g,o,c',e,_,_,hgl,hc⟩:=(HV.out.below HB2.out).cellAt hlt
  injection e with e1 _ e3
  subst e1 e3
  have hgw:g<w.heap.size:=by obtain⟨_,_,e,_,_,h3,_⟩:=HV.out;exact h3 g rfl
  have HGW:=Hh hgw
  have HSZ:=Hh (HS.out _ (List.getElem_mem hlt))
  have hgd:l.getD i ⟨#[]⟩=l[i]:=by rw[List.getD_eq_getElem?_getD,List.getElem?_eq_getElem hlt];rfl
  rw[hgd] at HIMG
  generalize l[i]=img at *
  have HC:=Hh hc
  have y0:¬l.length<=i:=by omega
  obtain⟨em,hem⟩:∃b,(img.toList==[])=b:=⟨_,rfl⟩
  have HEM:Hid (em=true↔img.size=0):=by
   show _↔_
   rw[<-hem,ByteArray.toList_eq,bsz,beq_iff_eq,List.length_eq_zero_iff]
  clear hgd hgw hgl
  rcases em with _|_
  ·have hne0:img.size≠0:=λq=>by have:=HEM.out.2 q;cases this
   have HII:Hid (ce=if ea=false then 9 else if sumS img≠ed then 21 else if ed∈denV b.st.V then 13 else if en'<=eu then 14 else 0):=by
    show _=_
    rw[HIMG.out,if_neg (λq=>q.elim y0 hne0)]
   clear HIMG HEM hne0
   go_upto_if 19 with fail
   clear hst9 hc
   generalize w1.heap.size=E9 at *
   generalize w1.alloc (.cells (Ms.arr 35 (ecl ei ed ea en')) 34)=W at *
   have c33:W.cell? ⟨E9,33,none⟩=some (.bool ea):=HR9.out.cell (i:=33) (by omega)
   rcases ea with _|_
   ·have hcc:ce=9:=by rw[HII.out,if_pos rfl]
    clear HII
    subst hcc
    have hst6:=st34 (W:=W) HR6.out ei ed false en'
    have hld9:=ld34 (W:=W) HR9.out
    have HRF:Hid (Row ((W).setCells E 0 (Ms.arr 35 (ecl ei ed false en')).toList) E 34 35 (ecl ei ed false en')):=Ms.Row.setWhole (w:=W) HR6.out
    have HBF:Hid (Below w.heap.size w ((W).setCells E 0 (Ms.arr 35 (ecl ei ed false en')).toList)):=Ms.Below.setAll (by rw[HE.out];exact Nat.le_refl _) _ _ _ HB2.out
    go_wp2_with fail
    exact bodyPost_ret (v:=.tuple #[.agg (Ms.arr 35 (ecl ei ed false en')),.int .i64 (eu:Int),.int .i64 9]) (res3 rfl _ _ E (Ms.arr 35 (ecl ei ed false en')) _ _ rfl rfl rfl (ret34 HRF.out)) rfl ⟨rfl,HBF.out⟩
   have HI2:Hid (ce=if sumS img≠ed then 21 else if ed∈denV b.st.V then 13 else if en'<=eu then 14 else 0):=by
    show _=_
    rw[HII.out,if_neg (by simp)]
   have HWb:=Hh (HWW.out.below HB2.out)
   have HSM:=Hh (sum_str img W.drew HSZ.out HWb.out.rnd HWb.out.pos)
   have hsl:=sumS_len img
   generalize sumS img=sd at *
   have hne2:∀Y,(binOp .neq 31 (.agg (Ms.arr 32 (Ms.b8 (dgF sd)))) (.agg (Ms.arr 32 (Ms.b8 (dgF ed))))).run Tryz.prog Y=.ok (.bool (!decide (sd=ed))) Y:=λ Y=>neDg hsl HED.out Y
   have S1:Hid (W.drew.cell? ⟨g,o+i,none⟩=some (.string img)/\Ms.ldN 32 W.drew (.pointer (some ⟨E9,1,none⟩))=some (Ms.arr 32 (Ms.b8 (dgF ed)))):=⟨HC.out,by rw[Ms.ldN_drew];exact ld_dg HR9.out⟩
   clear HII
   go_wp2_with fail
   clear c33
   refine wp_region_pl (λ Y=>Y.cell? ⟨g,o+i,none⟩=some (.string img)/\Ms.ldN 32 Y (.pointer (some ⟨E9,1,none⟩))=some (Ms.arr 32 (Ms.b8 (dgF ed)))) ((0,0)::(1,0)::(2,0)::(3,0)::(5,0)::(6,0)::(4,1)::(7,0)::(8,0)::[]) (by kernel_rfl) (by kernel_rfl) ?_
   iterate 6 (apply wpP_go;rfl;rfl;exact S1.out;(rintro Y ⟨s0,s1⟩;go_simp;exact rfl);intro K hK;go_simp;refine hK _ ?_;clear hK K)
   apply wpP_one
   rfl
   intro K hK
   go_simp
   refine HSM.out.mono ?_
   rintro e W2 ⟨rfl,b2⟩
   have HR62:=Hh ((show Row W.drew _ _ _ _ from HR6.out).ch (Ch.of_below b2 (λ_=>False)) id)
   have HR92:=Hh ((show Row W.drew _ _ _ _ from HR9.out).ch (Ch.of_below b2 (λ_=>False)) id)
   have HB3:Hid (Below w.heap.size w W2):=HB2.out.drew.trans (b2.mono HB2.out.size)
   have S2:Hid (W2.cell? ⟨g,o+i,none⟩=some (.string img)/\Ms.ldN 32 W2 (.pointer (some ⟨E9,1,none⟩))=some (Ms.arr 32 (Ms.b8 (dgF ed)))):=⟨(b2.cell (p:=⟨g,o+i,none⟩) (Nat.lt_of_lt_of_le HGW.out HB2.out.size)).trans S1.out.1,ld_dg HR92.out⟩
   refine hK _ _ S2.out ?_
   clear hK K
   iterate 2 (apply wpP_go;rfl;rfl;exact S2.out;(rintro Y ⟨s0,s1⟩;go_simp;exact rfl);intro K hK;go_simp;refine hK _ ?_;clear hK K)
   refine wpP_done ?_
   clear S1 HR6 HR9 HB2 b2 HSM HWb hne2 HC HSZ hsl
   have HR6:=HR62
   have HR9:=HR92
   have HB2:=HB3
   clear HR62 HR92 HB3
   by_cases hsd:sd=ed
   ·have hds:decide (sd=ed)=true:=decide_eq_true hsd
    rw[hds]
    have HI3:Hid (ce=if ed∈denV b.st.V then 13 else if en'<=eu then 14 else 0):=by
     show _=_
     rw[HI2.out,if_neg (λq=>q hsd)]
    clear hsd hds HI2
    have HWb:=Hh (HWW.out.below HB2.out)
    have HDN:=Hh (denied_any HWb.out.drew)
    have hl32:∀e∈denV b.st.V,e.length=32:=denV_32
    have HL32:=Hh hl32
    generalize denV b.st.V=dn at *
    have S3:Hid (Ms.ldN 32 W2.drew (.pointer (some ⟨E9,1,none⟩))=some (Ms.arr 32 (Ms.b8 (dgF ed)))):=by show _=_;rw[Ms.ldN_drew];exact S2.out.2
    clear hl32 S2
    go_wp2_with fail
    refine wp_region_pl (λ Y=>Ms.ldN 32 Y (.pointer (some ⟨E9,1,none⟩))=some (Ms.arr 32 (Ms.b8 (dgF ed)))) ((0,0)::(2,0)::(3,0)::(1,1)::(4,1)::(5,0)::[]) (by kernel_rfl) (by kernel_rfl) ?_
    iterate 3 (apply wpP_go;rfl;rfl;exact S3.out;(rintro Y s1;go_simp;exact rfl);intro K hK;go_simp;refine hK _ ?_;clear hK K)
    apply wpP_one
    rfl
    intro K hK
    go_simp
    refine HDN.out.mono ?_
    rintro e W3 ⟨dv,rfl,hdo,b3⟩
    have HR63:=Hh ((show Row W2.drew _ _ _ _ from HR6.out).ch (Ch.of_below b3 (λ_=>False)) id)
    have HR93:=Hh ((show Row W2.drew _ _ _ _ from HR9.out).ch (Ch.of_below b3 (λ_=>False)) id)
    have HB3:Hid (Below w.heap.size w W3):=HB2.out.drew.trans (b3.mono HB2.out.size)
    have S4:Hid (Ms.ldN 32 W3 (.pointer (some ⟨E9,1,none⟩))=some (Ms.arr 32 (Ms.b8 (dgF ed)))):=ld_dg HR93.out
    have HCT:=Hh (containsD_any hdo.rd HL32.out HED.out)
    unfold dgA at HCT
    refine hK _ _ S4.out ?_
    clear hK K hdo b3
    apply wpP_one
    rfl
    intro K hK
    go_simp
    refine HCT.out.mono ?_
    rintro e W4 ⟨rfl,b4⟩
    have HR64:=Hh (HR63.out.ch (Ch.of_below b4 (λ_=>False)) id)
    have HR94:=Hh (HR93.out.ch (Ch.of_below b4 (λ_=>False)) id)
    have HB4:Hid (Below w.heap.size w W4):=HB3.out.trans (b4.mono HB3.out.size)
    have S5:Hid (Ms.ldN 32 W4 (.pointer (some ⟨E9,1,none⟩))=some (Ms.arr 32 (Ms.b8 (dgF ed)))):=ld_dg HR94.out
    refine hK _ _ S5.out ?_
    clear hK K b4
    iterate 1 (apply wpP_go;rfl;rfl;exact S5.out;(rintro Y s1;go_simp;exact rfl);intro K hK;go_simp;refine hK _ ?_;clear hK K)
    refine wpP_done ?_
    clear S3 S4 S5 HR6 HR9 HB2 HR63 HR93 HB3 HDN HCT HWb
    have HR6:=HR64
    have HR9:=HR94
    have HB2:=HB4
    clear HR64 HR94 HB4
    by_cases hmem:ed∈dn
    ·have hd:decide (ed∈dn)=true:=decide_eq_true hmem
     rw[hd]
     have hcc:ce=13:=by rw[HI3.out,if_pos hmem]
     clear HI3 hmem hd
     subst hcc
     have hst6:=st34 (W:=W4) HR6.out ei ed true en'
     have hld9:=ld34 (W:=W4) HR9.out
     have HRF:Hid (Row ((W4).setCells E 0 (Ms.arr 35 (ecl ei ed true en')).toList) E 34 35 (ecl ei ed true en')):=Ms.Row.setWhole (w:=W4) HR6.out
     have HBF:Hid (Below w.heap.size w ((W4).setCells E 0 (Ms.arr 35 (ecl ei ed true en')).toList)):=Ms.Below.setAll (by rw[HE.out];exact Nat.le_refl _) _ _ _ HB2.out
     go_wp2_with fail
     exact bodyPost_ret (v:=.tuple #[.agg (Ms.arr 35 (ecl ei ed true en')),.int .i64 (eu:Int),.int .i64 13]) (res3 rfl _ _ E (Ms.arr 35 (ecl ei ed true en')) _ _ rfl rfl rfl (ret34 HRF.out)) rfl ⟨rfl,HBF.out⟩
    ·have hd:decide (ed∈dn)=false:=decide_eq_false hmem
     rw[hd]
     have c34:W4.cell? ⟨E9,34,none⟩=some (.int .i64 (en':Int)):=HR9.out.cell (i:=34) (by omega)
     by_cases hu:en'<=eu
     ·have hcc:ce=14:=by rw[HI3.out,if_neg hmem,if_pos hu]
      have huI:(eu:Int) ≥ (en':Int):=by omega
      clear HI3 hmem hd
      subst hcc
      have hst6:=st34 (W:=W4) HR6.out ei ed true en'
      have hld9:=ld34 (W:=W4) HR9.out
      have HRF:Hid (Row ((W4).setCells E 0 (Ms.arr 35 (ecl ei ed true en')).toList) E 34 35 (ecl ei ed true en')):=Ms.Row.setWhole (w:=W4) HR6.out
      have HBF:Hid (Below w.heap.size w ((W4).setCells E 0 (Ms.arr 35 (ecl ei ed true en')).toList)):=Ms.Below.setAll (by rw[HE.out];exact Nat.le_refl _) _ _ _ HB2.out
      go_wp2_with fail
      exact bodyPost_ret (v:=.tuple #[.agg (Ms.arr 35 (ecl ei ed true en')),.int .i64 (eu:Int),.int .i64 14]) (res3 rfl _ _ E (Ms.arr 35 (ecl ei ed true en')) _ _ rfl rfl rfl (ret34 HRF.out)) rfl ⟨rfl,HBF.out⟩
     ·have hcc:ce=0:=by rw[HI3.out,if_neg hmem,if_neg hu]
      have huI:¬(eu:Int) ≥ (en':Int):=by omega
      clear HI3 hmem hd
      subst hcc
      have hst6:=st34 (W:=W4) HR6.out ei ed true en'
      have hld9:=ld34 (W:=W4) HR9.out
      have HRF:Hid (Row ((W4).setCells E 0 (Ms.arr 35 (ecl ei ed true en')).toList) E 34 35 (ecl ei ed true en')):=Ms.Row.setWhole (w:=W4) HR6.out
      have HBF:Hid (Below w.heap.size w ((W4).setCells E 0 (Ms.arr 35 (ecl ei ed true en')).toList)):=Ms.Below.setAll (by rw[HE.out];exact Nat.le_refl _) _ _ _ HB2.out
      go_wp2_with fail
      exact bodyPost_ret (v:=.tuple #[.agg (Ms.arr 35 (ecl ei ed true en')),.int .i64 (eu:Int),.int .i64 0]) (res3 rfl _ _ E (Ms.arr 35 (ecl ei ed true en')) _ _ rfl rfl rfl (ret34 HRF.out)) rfl ⟨rfl,HBF.out⟩
   ·have hds:decide (sd=ed)=false:=decide_eq_false hsd
    rw[hds]
    have hcc:ce=21:=by rw[HI2.out,if_pos hsd]
    clear HI2 hsd hds
    subst hcc
    have hst6:=st34 (W:=W2) HR6.out ei ed true en'
    have hld9:=ld34 (W:=W2) HR9.out
    have HRF:Hid (Row ((W2).setCells E 0 (Ms.arr 35 (ecl ei ed true en')).toList) E 34 35 (ecl ei ed true en')):=Ms.Row.setWhole (w:=W2) HR6.out
    have HBF:Hid (Below w.heap.size w ((W2).setCells E 0 (Ms.arr 35 (ecl ei ed true en')).toList)):=Ms.Below.setAll (by rw[HE.out];exact Nat.le_refl _) _ _ _ HB2.out
    go_wp2_with fail
    exact bodyPost_ret (v:=.tuple #[.agg (Ms.arr 35 (ecl ei ed true en')),.int .i64 (eu:Int),.int .i64 21]) (res3 rfl _ _ E (Ms.arr 35 (ecl ei ed true en')) _ _ rfl rfl rfl (ret34 HRF.out)) rfl ⟨rfl,HBF.out⟩
  ·have hcc:ce=6:=by rw[HIMG.out,if_pos (.inr (HEM.out.1 rfl))]
   clear HIMG HEM
   go_upto_if 19 with fail
   clear hst9 hc
   generalize w1.heap.size=E9 at *
   generalize w1.alloc (.cells (Ms.arr 35 (ecl ei ed ea en')) 34)=W at *
   subst hcc
   have hst6:=st34 (W:=W) HR6.out ei ed ea en'
   have hld9:=ld34 (W:=W) HR9.out
   have HRF:Hid (Row ((W).setCells E 0 (Ms.arr 35 (ecl ei ed ea en')).toList) E 34 35 (ecl ei ed ea en')):=Ms.Row.setWhole (w:=W) HR6.out
   have HBF:Hid (Below w.heap.size w ((W).setCells E 0 (Ms.arr 35 (ecl ei ed ea en')).toList)):=Ms.Below.setAll (by rw[HE.out];exact Nat.le_refl _) _ _ _ HB2.out
   go_wp2_with fail
   exact bodyPost_ret (v:=.tuple #[.agg (Ms.arr 35 (ecl ei ed ea en')),.int .i64 (eu:Int),.int .i64 6]) (res3 rfl _ _ E (Ms.arr 35 (ecl ei ed ea en')) _ _ rfl rfl rfl (ret34 HRF.out)) rfl ⟨rfl,HBF.out⟩
 ·have y0:(i:Int) ≥ (l.length:Int):=by omega
  have hcc:ce=6:=by rw[HIMG.out,if_pos (.inl (by omega))]
  clear HIMG
  go_upto_if 19 with fail
  generalize w1.heap.size=E9 at *
  generalize w1.alloc (.cells (Ms.arr 35 (ecl ei ed ea en')) 34)=W at *
  clear hst9
  subst hcc
  have hst6:=st34 (W:=W) HR6.out ei ed ea en'
  have hld9:=ld34 (W:=W) HR9.out
  have HRF:Hid (Row ((W).setCells E 0 (Ms.arr 35 (ecl ei ed ea en')).toList) E 34 35 (ecl ei ed ea en')):=Ms.Row.setWhole (w:=W) HR6.out
  have HBF:Hid (Below w.heap.size w ((W).setCells E 0 (Ms.arr 35 (ecl ei ed ea en')).toList)):=Ms.Below.setAll (by rw[HE.out];exact Nat.le_refl _) _ _ _ HB2.out
  go_wp2_with fail
  exact bodyPost_ret (v:=.tuple #[.agg (Ms.arr 35 (ecl ei ed ea en')),.int .i64 (eu:Int),.int .i64 6]) (res3 rfl _ _ E (Ms.arr 35 (ecl ei ed ea en')) _ _ rfl rfl rfl (ret34 HRF.out)) rfl ⟨rfl,HBF.out⟩
end
end
section
attribute [local go_sem ↓] alloc34 load34 store34 build34 build34o
attribute [local go_sem] Ms.set_new
def succB (b:BM):Int×BM:=match entO b.st.V b.last with
 | none=>(9,b)
 | some e=>setB b (nmE e.i.toNat) (entS e.d e.a e.n 0)
section
variable {w w':World}{N M S L n:Nat}{O:Nat->Prop}{b:BM}
theorem MR.err (h:BW w' N O M S L n b)(hb:Below w.heap.size w w')(c:Int):MR w N O M S L (n+1) (c,b) (.returned (.int .i64 c)) w':=
 ⟨rfl,MLeft.same (h.mono (Nat.le_succ _)) (Ch.of_below hb _)⟩
theorem succeeded_any (h:BW w N O M S L n b)(hb:b.st.blk<b.fl.B)(hn:n<1000):Calls Tryz.prog 18 #[fptr M] w (MR w N O M S L (n+1) (succB b)):=by
 have c4:=h.c4
 have hbe:=bentry_any h b.last
 have HWW:=Hh h
 obtain⟨r,hr⟩:∃r,succB b=r:=⟨_,rfl⟩
 have HRE:=Hh hr
 rw[hr]
 unfold succB at HRE
 clear h hr
 have hst9:=λ(W:World) (i:Int) (d:Str) (a:Bool) (k:Int)=>st34 (nE_row W) i d a k
 rcases hO:entO b.st.V b.last with _|e
 ·have he:entT b.st.V b.last=.tuple #[.agg (Ms.arr 35 (ecl 0 [] false 0)),.int .i64 0,.int .i64 6]:=by unfold entT;rw[hO];rfl
  rw[he] at hbe
  have HBE:=Hh hbe
  have e0:r=(9,b):=by rw[<-HRE.out,hO]
  subst e0
  generalize b.last=la at *
  clear hO he hbe HRE
  go_enter Tryz.func18,Tryz.ntmps18
  go_wp2_with fail
  refine HBE.out.mono ?_
  rintro e w1 ⟨rfl,b1⟩
  have HB1:=Hh b1
  have HW1:=Hh (HWW.out.below b1)
  clear b1 HBE
  go_wp2_with fail
  go_ret
  exact MR.err (HW1.out.below ((Below.refl _ _).alloc (Nat.le_refl _) _)) (HB1.out.alloc HB1.out.size _) 9
 ·obtain⟨h1,h2,h3,h4,h5⟩:=entO_some hO
  have hid:=isId_iff.1 h2
  obtain⟨ei,ed,ea,en,eu⟩:=e
  obtain⟨k,hk⟩:∃k:Nat,ei=(k:Int):=⟨ei.toNat,by simp only at h1;omega⟩
  subst hk
  simp only at h1 h2 h3 h4 h5
  have hk16:k<16:=by omega
  have he:entT b.st.V b.last=.tuple #[.agg (Ms.arr 35 (ecl k ed ea en)),.int .i64 (eu:Int),.int .i64 0]:=by unfold entT;rw[hO];rfl
  rw[he] at hbe
  have HBE:=Hh hbe
  have e0:r=setB b (nmE k) (entS ed ea en 0):=by rw[<-HRE.out,hO];rfl
  subst e0
  have HD:=Hh h3
  clear hO he hbe HRE h1 h2 h3
  generalize b.last=la at *
  go_enter Tryz.func18,Tryz.ntmps18
  go_wp2_with fail
  refine HBE.out.mono ?_
  rintro e w1 ⟨rfl,b1⟩
  have HB2:Hid (Below w.heap.size w (w1.alloc (.cells (Ms.arr 35 (ecl k ed ea en)) 34))):=b1.alloc b1.size _
  have HW2:=Hh (HWW.out.below HB2.out)
  have hld:=ld34 (show Row (w1.alloc (.cells (Ms.arr 35 (ecl k ed ea en)) 34)) w1.heap.size 34 35 (ecl k ed ea en) from Row.ofList w1 _ _ _ 35 rfl)
  have HPT:=Hh (bput_any HW2.out hb hn k (by omega) HD.out ea en 0 h4 (by omega))
  unfold entA at HPT
  clear b1 HBE
  go_wp2_with fail
  refine HPT.out.mono ?_
  rintro e w3 ⟨rfl,hl⟩
  have HLf:=Hh hl
  clear hl HPT
  go_wp2_with fail
  go_ret
  exact⟨rfl,HLf.out.after HB2.out⟩
theorem Tryz.infoSt:(Tryz.prog.info? 40).map (λi=>(i.zero,i.size,i.bytes))=some (some (.agg #[.int .i64 0,.int .i64 0]),2,16):=by kernel_rfl
theorem stv_one (l:List (Int×Int)):∀u∈stv l,u.oneCell'=true:=λu hu=>by
 obtain⟨x,_,hx⟩:=List.mem_flatMap.1 hu
 rcases List.mem_cons.1 hx with rfl|hx
 ·rfl
 ·rw[List.mem_singleton.1 hx];rfl
def NewS (w:World)(l:List (Int×Int))(e:Ending)(w':World):Prop:=∃v,e=.returned v/\w'.ownsRow w.heap.size 40 2 v l.length (stv l)/\Below w.heap.size w w'
theorem cloneS_any {v:Value}{l:List (Int×Int)}{B:Nat}(h:w.ownsRow B 40 2 v l.length (stv l))(hl:l.length<=1000):Calls Tryz.prog 112 #[v] w (NewS w l):=by
 rcases h.2 with ⟨rfl,e⟩|⟨g,cap,cur,rfl,_,hh,h5,h6,_,h7⟩
 ·have he:l=[]:=List.eq_nil_of_length_eq_zero e
  subst he
  have hnil:=λ W=>Lib.run_eql_slice_nil (P:=Tryz.prog) W 96 40 none 0 0 0 0 Tryz.underlying96
  clear h
  go_enter Tryz.func112,Tryz.ntmps112
  go_wp2_with fail
  go_ret
  exact⟨_,rfl,⟨rfl,.inl ⟨rfl,rfl⟩⟩,Below.refl _ _⟩
 ·have hnil:=λ W=>Lib.run_eql_slice_nil (P:=Tryz.prog) W 96 40 (some ⟨g,0,none⟩) l.length cap 0 0 Tryz.underlying96
  simp only[Option.isNone_some] at hnil
  have hmk:∀W,(Instr.buildSlice 96 0 #[]).run Tryz.prog W=.ok (.slice (some ⟨W.heap.size,0,none⟩) 0 0) (W.alloc (.cells #[] 40)):=λ_=>by kernel_rfl
  have ho:Hid ((w.alloc (.cells #[] 40)).ownsRow w.heap.size 40 2 (.slice (some ⟨w.heap.size,0,none⟩) 0 0) 0 []):=⟨rfl,.inr ⟨w.heap.size,0,#[],rfl,Nat.le_refl _,heap_alloc_new w _,Nat.le_refl _,by simp[maxLen],rfl,rfl⟩⟩
  obtain⟨i0,hi0,hz0,hz1,hz2⟩:=info_parts Tryz.infoSt
  by_cases he:l=[]
  ·subst he
   have hnil0:∀W,(binOp .eql 96 (.slice (some ⟨g,0,none⟩) 0 cap) (.slice none 0 0)).run Tryz.prog W=.ok (.bool false) W:=hnil
   clear hnil
   have ha:(Builtin.append_ #[96,96] 96 #[.slice (some ⟨w.heap.size,0,none⟩) 0 0,.slice (some ⟨g,0,none⟩) 0 cap]).run Tryz.prog (w.alloc (.cells #[] 40))=.ok (.slice (some ⟨w.heap.size,0,none⟩) 0 0) (w.alloc (.cells #[] 40)):=by
    simp[Builtin.append_,run_underlying Tryz.underlying96,sizeOf,typeInfo,hi0,Builtin.lenOf,Builtin.firstCells,storeCells,loadCells,loadCellsFrom]
   clear h hh h7
   go_enter Tryz.func112,Tryz.ntmps112
   go_wp2_with fail
   go_ret
   exact⟨_,rfl,ho.out,(Below.refl _ _).alloc (Nat.le_refl _) _⟩
  ·have hpos:0<l.length:=List.length_pos_iff.2 he
   have hlt:=heap_lt hh
   have hnews:Hid (∀j u,(stv l)[j]? = some u->(w.alloc (.cells #[] 40)).cell? ((⟨g,0,none⟩:Addr).add j)=some u):=λj u hu=>by
    have hj:j<l.length*2:=by have:=(List.getElem?_eq_some_iff.1 hu).1;rw[stv_len] at this;exact this
    rw[Addr.add_mid,Nat.zero_add,World.cell?_of_block (w:=w) (Below.heap_alloc w _ g hlt),cell_of_row w g j cur _ (0,0) hh]
    rw[<-h7,List.getElem?_take_of_lt hj,Array.getElem?_toList] at hu
    exact hu
   have hone:Hid (∀u∈stv l,u.oneCell'=true):=stv_one l
   clear he h hh h7
   go_enter Tryz.func112,Tryz.ntmps112
   go_wp2_with (at_builtin;refine wpList_append_lies _ rfl _ _ 96 rfl w.heap.size 40 i0 _ 2 16 Tryz.underlying96 hi0 hz0 hz1 hz2 (by kernel_rfl) (by omega) _ 0 [] rfl (by exact ho.out) ⟨g,0,none⟩ l.length cap (stv l) rfl (stv_len l) (by exact hnews.out) hone.out hpos (by simp only[maxLen];omega) (by omega) (by simp) (w.heap.size+1) (by simp) ?_)
   intro g2 cap2 w' hown hgrow hat hlt2
   have hb:Below w.heap.size w w':=Below.grown ((Below.refl _ _).alloc (Nat.le_refl _) _) hgrow (by simp) (λk hk=>by
    have:w.heap.size=k:=by simpa[Value.ownBlock] using hk
    omega)
   have HO:=Hh hown
   clear hown hgrow hat
   go_wp2_with fail
   go_ret
   exact⟨_,rfl,HO.out,hb⟩
theorem blog_any (h:BW w N O M S L n b)(hl:b.log.length<=1000):Calls Tryz.prog 47 #[fptr M] w (NewS w b.log):=by
 obtain⟨vl,c3,hv,_⟩:=h.c3
 have HC:=Hh (cloneS_any hv hl)
 obtain⟨va,vc,rfl⟩:=Ms.own_len hv
 clear h hv
 go_enter Tryz.func47,Tryz.ntmps47
 go_wp2_with fail
 refine HC.out.mono ?_
 rintro e w' ⟨v',rfl,hO',hb⟩
 have HO':=Hh hO'
 clear hO'
 go_wp2_with fail
 go_ret
 exact⟨_,rfl,HO'.out,hb⟩
theorem bnew_any {D DS:Nat->Prop}{X m:Nat}{y:FLay}{fl:FL}{st:ST}(hf:FW w D X y fl)(hs:SW w DS S X m n st)(hg:Ms.LG w L (Ms.regs []) (.slice none 0 0))(hr:Ms.Rnd w)(h0:0<N)
  (d1:∀k,D k->¬DS k) (d2:¬D L/\¬DS L) (dN:∀k,D k->N<=k) (sN:∀k,DS k->N<=k) (lN:N<=L) (hNs:N<=w.heap.size) :
  Calls Tryz.prog 41 #[fptr S,fptr L] w λe w'=>e=.returned (fptr w.heap.size)/\BW w' N (λk=>(D k\/DS k\/k=L)\/k=w.heap.size) w.heap.size S L n ⟨fl,st,[],[],-1,[]⟩/\Below w.heap.size w w':=by
 have hB:Below w.heap.size w (w.alloc (.cells #[fptr S,fptr L,.slice none 0 0,.slice none 0 0,.int .i64 (-1)] 117)):=(Below.refl _ _).alloc (Nat.le_refl _) _
 have hL:L<w.heap.size:=Row.lt hg
 have HF:Hid (BW (w.alloc (.cells #[fptr S,fptr L,.slice none 0 0,.slice none 0 0,.int .i64 (-1)] 117)) N (λk=>(D k\/DS k\/k=L)\/k=w.heap.size) w.heap.size S L n ⟨fl,st,[],[],-1,[]⟩):=by
  open Classical in
  refine⟨λk=>if D k then 1 else if DS k then 2 else if k=L then 3 else if k=w.heap.size then 4 else 0,D,DS,X,m,y,.slice none 0 0,.slice none 0 0,.slice none 0 0,?_⟩
  have nD:¬D w.heap.size:=λq=>by have:=hf.fin _ q;omega
  have nS:¬DS w.heap.size:=λq=>by have:=hs.fin _ q;omega
  exact {
   f:=hf.below hB
   s:=hs.below hB
   g:=hg.alloc _
   e:=⟨rfl,.inl ⟨rfl,rfl⟩⟩
   t:=Row.ofList w _ _ _ 5 rfl
   c:=RdI.nil _
   l:=⟨rfl,.inl ⟨rfl,rfl⟩⟩
   rD:=λk hk=>if_pos hk
   rS:=λk hk=>by
    show(if D k then 1 else if DS k then 2 else if k=L then 3 else if k=w.heap.size then 4 else 0)=2
    rw[if_neg (λq=>d1 k q hk),if_pos hk]
   rL:=by
    show(if D L then 1 else if DS L then 2 else if L=L then 3 else if L=w.heap.size then 4 else 0)=3
    rw[if_neg d2.1,if_neg d2.2,if_pos rfl]
   rE:=λk hk=>(by cases hk)
   rM:=by
    show(if D w.heap.size then 1 else if DS w.heap.size then 2 else if w.heap.size=L then 3 else if w.heap.size=w.heap.size then 4 else 0)=4
    rw[if_neg nD,if_neg nS,if_neg (by omega),if_pos rfl]
   rl:=λk hk=>(by cases hk)
   rC:=λk hk=>(by cases hk)
   hO:=λk hk=>by
    by_cases h1:D k
    ·exact .inl (.inl h1)
    ·by_cases h2:DS k
     ·exact .inl (.inr (.inl h2))
     ·by_cases h3:k=L
      ·exact .inl (.inr (.inr h3))
      ·by_cases h4:k=w.heap.size
       ·exact .inr h4
       ·have hk:(if D k then 1 else if DS k then 2 else if k=L then 3 else if k=w.heap.size then 4 else 0)≠0:=hk
        rw[if_neg h1,if_neg h2,if_neg h3,if_neg h4] at hk
        exact absurd rfl hk
   oN:=λk hk=>by
    have hsz:w.heap.size<(w.alloc (.cells #[fptr S,fptr L,.slice none 0 0,.slice none 0 0,.int .i64 (-1)] 117)).heap.size:=by simp
    rcases hk with (q|q|q)|q
    ·exact⟨dN k q,Nat.lt_trans (hf.fin k q) hsz⟩
    ·exact⟨sN k q,Nat.lt_trans (hs.fin k q) hsz⟩
    ·rw[q];exact⟨lN,Nat.lt_trans hL hsz⟩
    ·rw[q];exact⟨hNs,hsz⟩
   rnd:=rnd_ch hr (Ch.of_below hB (λ_=>False)) id (by omega)
   h0:=h0
   hN:=Nat.le_trans hNs hB.size }
 have HB:=Hh hB
 clear hf hs hg hr hB
 go_enter Tryz.func41,Tryz.ntmps41
 go_wp2_with fail
 go_ret
 exact⟨rfl,HF.out,HB.out⟩
end
end
end Go.Proofs.YtdinbpdpalgohaaGreatDoor
