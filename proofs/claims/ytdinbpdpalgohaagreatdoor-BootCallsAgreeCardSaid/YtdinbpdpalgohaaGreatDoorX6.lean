/- Walks and laws: PA PB PC PD PE PF PG PH. Conditions: those that each theorem names. -/
import Derived.Test.YtdinbpdpalgohaaGreatDoorX5
set_option maxHeartbeats 1000000
namespace Go.Proofs.YtdinbpdpalgohaaGreatDoor
open Go.RowKit
def zl:Nat->Nat->Nat
 | 0,_=>0
 | k+1,x=>(if x%2=1 then 0 else 1)+zl k (x/2)
theorem zl_sup:∀(k x y:Nat),x ||| y=x->zl k x<=zl k y/\(x<2^k->zl k x=zl k y->x=y)
 | 0,x,y,h=>⟨Nat.le_refl _,λhx _=>by
  have:x=0:=by simpa using hx
  subst this
  have:=Nat.right_le_or (n:=0) (m:=y)
  rw[h] at this
  omega⟩
 | k+1,x,y,h=>by
  have h2:x/2 ||| y/2=x/2:=by rw[<-Nat.or_div_two,h]
  have h1:y%2=1->x%2=1:=λhy=>by
   have:=(Nat.or_mod_two_eq_one (a:=x) (b:=y)).2 (.inr hy)
   rwa [h] at this
  have ih:=zl_sup k (x/2) (y/2) h2
  refine⟨?_,λhx he=>?_⟩
  ·unfold zl
   by_cases hy:y%2=1
   ·rw[if_pos hy,if_pos (h1 hy)];omega
   ·rw[if_neg hy];split<;>omega
  ·unfold zl at he
   have hb:x/2<2^k:=by rw[Nat.pow_succ] at hx;omega
   have h3:=ih.1
   by_cases hy:y%2=1
   ·rw[if_pos hy,if_pos (h1 hy)] at he
    have:=ih.2 hb (by omega)
    have:=h1 hy
    omega
   ·rw[if_neg hy] at he
    by_cases hx1:x%2=1
    ·rw[if_pos hx1] at he;omega
    ·rw[if_neg hx1] at he
     have:=ih.2 hb (by omega)
     omega
theorem zbit_zl8:∀x:Fin 256,8-Lib.onesCount x.val=zl 8 x.val:=by decide +kernel
theorem zbit_zl (b:UInt8):zbit b=zl 8 b.toNat:=zbit_zl8 ⟨b.toNat,b.toNat_lt⟩
def supB (a b:UInt8):Prop:=a.toNat ||| b.toNat=a.toNat
theorem supB.le {a b:UInt8}(h:supB a b):b.toNat<=a.toNat:=by
 have:=Nat.right_le_or (n:=a.toNat) (m:=b.toNat)
 unfold supB at h
 omega
theorem supB.refl (a:UInt8):supB a a:=Nat.or_self _
theorem supB.trans {a b c:UInt8}(h:supB a b)(k:supB b c):supB a c:=by
 unfold supB at *
 rw[<-h,Nat.or_assoc,k]
theorem supB.zb {a b:UInt8}(h:supB a b):zbit a<=zbit b/\(zbit a=zbit b->a=b):=by
 have:=zl_sup 8 a.toNat b.toNat h
 rw[zbit_zl,zbit_zl]
 exact⟨this.1,λe=>UInt8.toNat_inj.1 (this.2 a.toNat_lt e)⟩
theorem supB.or (a b:UInt8):supB (a ||| b) a:=by
 unfold supB
 rw[UInt8.toNat_or,Nat.or_assoc,Nat.or_comm b.toNat,<-Nat.or_assoc,Nat.or_self]
theorem supB_255 (b:UInt8):supB 255 b:=by
 unfold supB
 have h:=b.toNat_lt
 have h1:=Nat.or_lt_two_pow (x:=255) (y:=b.toNat) (n:=8) (by omega) (by omega)
 have h2:=Nat.left_le_or (n:=255) (m:=b.toNat)
 show 255 ||| b.toNat=255
 omega
theorem supB_torn (d m:UInt8):supB (255 &&& ~~~((255 &&& ~~~d) &&& m)) d:=by
 have:(255 &&& ~~~((255 &&& ~~~d) &&& m)) ||| d=255 &&& ~~~((255 &&& ~~~d) &&& m):=by
  apply UInt8.eq_of_toBitVec_eq
  ext i hi
  have h255:(255#8)[i]=true:=by
   rw[show(255#8)=BitVec.allOnes 8 from rfl]
   exact BitVec.getElem_allOnes i hi
  cases hd:d.toBitVec[i]<;>cases hm:m.toBitVec[i]<;>simp[h255,hd,hm]
 unfold supB
 rw[<-UInt8.toNat_or,this]
inductive Sup:Str->Str->Prop
 | nil:Sup [] []
 | cons {a b:UInt8} {l m:Str}:supB a b->Sup l m->Sup (a::l) (b::m)
theorem Sup.len {a b:Str}(h:Sup a b):a.length=b.length:=by induction h with
 | nil=>rfl
 | cons _ _ ih=>simp[ih]
theorem Sup.refl:∀l:Str,Sup l l
 | []=>.nil
 | a::l=>.cons (supB.refl a) (Sup.refl l)
theorem Sup.trans {a b c:Str}(h:Sup a b)(k:Sup b c):Sup a c:=by
 induction h generalizing c with
 | nil=>exact k
 | cons h1 _ ih=>
  cases k with
  | cons k1 k2=>exact .cons (h1.trans k1) (ih k2)
theorem Sup.zeros {a b:Str}(h:Sup a b):zeros a<=zeros b/\(zeros a=zeros b->a=b):=by
 induction h with
 | nil=>exact⟨Nat.le_refl _,λ_=>rfl⟩
 | cons h1 _ ih=>
  rename_i a b l m _
  have hb:=h1.zb
  have e1:Go.Proofs.YtdinbpdpalgohaaGreatDoor.zeros (a::l)=zbit a+Go.Proofs.YtdinbpdpalgohaaGreatDoor.zeros l:=by simp[Go.Proofs.YtdinbpdpalgohaaGreatDoor.zeros]
  have e2:Go.Proofs.YtdinbpdpalgohaaGreatDoor.zeros (b::m)=zbit b+Go.Proofs.YtdinbpdpalgohaaGreatDoor.zeros m:=by simp[Go.Proofs.YtdinbpdpalgohaaGreatDoor.zeros]
  rw[e1,e2]
  refine⟨by omega,λe=>?_⟩
  rw[hb.2 (by omega),ih.2 (by omega)]
theorem Sup.take {a b:Str}(h:Sup a b):∀n:Nat,Sup (a.take n) (b.take n):=by
 induction h with
 | nil=>intro n;simp;exact .nil
 | cons h1 _ ih=>
  intro n
  cases n with
  | zero=>simp;exact .nil
  | succ n=>exact .cons h1 (ih n)
theorem Sup.drop {a b:Str}(h:Sup a b):∀n:Nat,Sup (a.drop n) (b.drop n):=by
 induction h with
 | nil=>intro n;simp;exact .nil
 | cons h1 h2 ih=>
  intro n
  cases n with
  | zero=>exact .cons h1 h2
  | succ n=>exact ih n
theorem Sup.append {a b c d:Str}(h:Sup a b)(k:Sup c d):Sup (a++c) (b++d):=by
 induction h with
 | nil=>exact k
 | cons h1 _ ih=>exact .cons h1 ih
theorem Sup.of_get {a b:Str}(hl:a.length=b.length)(h:∀i,i<a.length->supB (a.getD i 0) (b.getD i 0)):Sup a b:=by
 induction a generalizing b with
 | nil=>
  cases b with
  | nil=>exact .nil
  | cons _ _=>simp at hl
 | cons x l ih=>
  cases b with
  | nil=>simp at hl
  | cons y m=>
   refine .cons ?_ (ih (by simpa using hl) (λi hi=>?_))
   ·have:=h 0 (by simp);simpa using this
   ·have:=h (i+1) (by simpa using hi);simpa using this
theorem Sup.get {a b:Str}(h:Sup a b)(i:Nat):supB (a.getD i 0) (b.getD i 0):=by
 induction h generalizing i with
 | nil=>simp;exact supB.refl _
 | cons h1 _ ih=>
  cases i with
  | zero=>simpa using h1
  | succ i=>simpa using ih i
theorem Sup.antisymm {a b:Str}(h:Sup a b)(k:Sup b a):a=b:=h.zeros.2 (Nat.le_antisymm h.zeros.1 k.zeros.1)
theorem Sup.blank (l:Str):Sup (List.replicate l.length 255) l:=by
 induction l with
 | nil=>exact .nil
 | cons a l ih=>exact .cons (supB_255 a) ih
theorem zeros_ff (n:Nat):zeros (List.replicate n 255)=0:=by
 induction n with
 | zero=>rfl
 | succ n ih=>
  have e:zeros (List.replicate (n+1) 255)=zbit 255+zeros (List.replicate n 255):=by simp[zeros,List.replicate_succ]
  rw[e,ih,zbit_zl]
  rfl
theorem zeros_zero {l:Str}(h:zeros l=0):l=List.replicate l.length 255:=
 ((Sup.blank l).zeros.2 (by rw[zeros_ff,h])).symm
theorem recd_parts (k:Nat)(n v:Str):recd k n v=[UInt8.ofNat k,UInt8.ofNat n.length,UInt8.ofNat v.length]++[UInt8.ofNat ((zeros [UInt8.ofNat k,UInt8.ofNat n.length,UInt8.ofNat v.length]+zeros n+zeros v)/256),UInt8.ofNat ((zeros [UInt8.ofNat k,UInt8.ofNat n.length,UInt8.ofNat v.length]+zeros n+zeros v)%256)]++n++v:=rfl
def chk (k:Nat)(n v:Str):Nat:=zeros [UInt8.ofNat k,UInt8.ofNat n.length,UInt8.ofNat v.length]+zeros n+zeros v
theorem recd_take3 (k:Nat)(n v r:Str):(recd k n v++r).take 3=[UInt8.ofNat k,UInt8.ofNat n.length,UInt8.ofNat v.length]:=rfl
theorem recd_drop5 (k:Nat)(n v r:Str):(recd k n v++r).drop 5=n++v++r:=by
 rw[recd_parts]
 simp
theorem recd_mid (k:Nat)(n v r:Str):(recd k n v++r).getD 3 0=UInt8.ofNat (chk k n v/256)/\(recd k n v++r).getD 4 0=UInt8.ofNat (chk k n v%256):=⟨rfl,rfl⟩
theorem split5 (l:Str)(h:5<=l.length):l=l.take 3++[l.getD 3 0,l.getD 4 0]++l.drop 5:=by
 match l,h with
 | a::b::c::d::e::r,_=>rfl
theorem sup_recd {F:Str}{k k':Nat}{nm vl nm' vl' r r':Str}(hF:F=recd k' nm' vl'++r')(hs:Sup F (recd k nm vl++r))(hr:zeros r=0)(hn:nm.length<=255)(hv:vl.length<=255)(hn':nm'.length<=255)(hv':vl'.length<=255):F=recd k nm vl++r:=by
 have h3:=(hs.take 3).zeros
 have h5:=(hs.drop 5).zeros
 have g3:=(hs.get 3).le
 have g4:=(hs.get 4).le
 have hc:chk k' nm' vl'<=zeros (F.take 3)+zeros (F.drop 5):=by
  rw[hF,recd_take3,recd_drop5,zeros_append,zeros_append]
  unfold chk
  omega
 rw[recd_take3] at h3
 rw[recd_drop5,zeros_append,zeros_append,hr] at h5
 have hle:chk k' nm' vl'<=chk k nm vl:=by unfold chk at *;omega
 have hcb:chk k nm vl<=65535:=by
  have h1:=zeros_le [UInt8.ofNat k,UInt8.ofNat nm.length,UInt8.ofNat vl.length]
  have h2:=zeros_le nm
  have h3:=zeros_le vl
  simp only[List.length_cons,List.length_nil] at h1
  unfold chk
  omega
 have m1:=(recd_mid k' nm' vl' r')
 have m2:=(recd_mid k nm vl r)
 rw[<-hF] at m1
 rw[m1.1,m2.1,u8_of (by omega),u8_of (by omega)] at g3
 rw[m1.2,m2.2,u8_of (by omega),u8_of (by omega)] at g4
 have hge:chk k nm vl=chk k' nm' vl':=by omega
 have e3:=h3.2 (by unfold chk at *;omega)
 have e5:=h5.2 (by unfold chk at *;omega)
 have hl5:5<=F.length:=by rw[hF];simp[recd_len];omega
 rw[split5 F hl5,e3,e5,m1.1,m1.2,<-hge,List.append_assoc nm vl r]
 rw[recd_parts]
 simp[chk]
abbrev P64 (ps:List Str):Prop:=∀p∈ps,p.length=64
theorem flat_take {ps:List Str}(hl:P64 ps)(c:Nat):(ps.take c).flatten=ps.flatten.take (c*64):=by
 induction ps generalizing c with
 | nil=>simp
 | cons p r ih=>
  cases c with
  | zero=>simp
  | succ c=>
   have hp:=hl p (by simp)
   rw[List.take_succ_cons,List.flatten_cons,List.flatten_cons,ih (λq hq=>hl q (List.mem_cons_of_mem _ hq)),List.take_append,hp,List.take_of_length_le (l:=p) (by omega),show(c+1)*64-64=c*64 by omega]
theorem flat_inj {ps qs:List Str}(hl:P64 ps)(hq:P64 qs)(h:ps.flatten=qs.flatten):ps=qs:=by
 induction ps generalizing qs with
 | nil=>
  cases qs with
  | nil=>rfl
  | cons q r=>
   have:=congrArg List.length h
   rw[flat_len _ hq] at this
   simp at this
 | cons p r ih=>
  cases qs with
  | nil=>
   have:=congrArg List.length h
   rw[flat_len _ hl] at this
   simp at this
  | cons q s=>
   rw[List.flatten_cons,List.flatten_cons] at h
   have hp:=hl p (by simp)
   have hq':=hq q (by simp)
   have:=List.append_inj h (by omega)
   rw[this.1,ih (λx hx=>hl x (List.mem_cons_of_mem _ hx)) (λx hx=>hq x (List.mem_cons_of_mem _ hx)) this.2]
theorem chunks_flat:∀(n:Nat) (d:Str),d.length=n*64->(chunks n d).flatten=d
 | 0,d,h=>by
  have:d=[]:=List.eq_nil_of_length_eq_zero (by omega)
  rw[this];rfl
 | n+1,d,h=>by
  have h1:chunks (n+1) d=d.take 64::chunks n (d.drop 64):=by
   unfold chunks
   rw[List.range_succ_eq_map,List.map_cons,List.map_map]
   congr 1
   apply List.map_congr_left
   intro i _
   simp only[Function.comp,List.drop_drop]
   rw[show 64+64*i=64*(i+1) by omega]
  rw[h1,List.flatten_cons,chunks_flat n (d.drop 64) (by rw[List.length_drop];omega),List.take_append_drop]
theorem chunks_64 (n:Nat)(d:Str)(h:d.length=n*64):P64 (chunks n d):=by
 intro p hp
 unfold chunks at hp
 obtain⟨i,hi,rfl⟩:=List.mem_map.1 hp
 have:=List.mem_range.1 hi
 rw[List.length_take,List.length_drop]
 omega
theorem pagesR_flat (d:Str):(pagesR d).flatten=pad d:=chunks_flat _ _ (pad_len d)
theorem pagesR_64 (d:Str):P64 (pagesR d):=chunks_64 _ _ (pad_len d)
theorem pagesR_len (d:Str):(pagesR d).length=pgs d.length:=by simp[pagesR,chunks]
theorem pad_eq (d:Str):pad d=d++List.replicate (pgs d.length*64-d.length) 255:=rfl
theorem byte_ok {k n v:Nat}(h:okLens k n v=true):(UInt8.ofNat k).toNat=k/\(UInt8.ofNat n).toNat=n/\(UInt8.ofNat v).toNat=v:=by
 have h1:=okLens_le h
 have h2:=okLens_k h
 exact⟨u8_of (by omega),u8_of (by omega),u8_of (by omega)⟩
def decF (F:Str):Option (Nat×Str×Str×Nat):=
 if okLens (F.getD 0 0).toNat (F.getD 1 0).toNat (F.getD 2 0).toNat=false then none else
 if F.length<pgs (5+(F.getD 1 0).toNat+(F.getD 2 0).toNat)*64 then none else
 if F.take (5+(F.getD 1 0).toNat+(F.getD 2 0).toNat)=recd (F.getD 0 0).toNat ((F.drop 5).take (F.getD 1 0).toNat) ((F.drop (5+(F.getD 1 0).toNat)).take (F.getD 2 0).toNat) /\
  zeros ((F.drop (5+(F.getD 1 0).toNat+(F.getD 2 0).toNat)).take (pgs (5+(F.getD 1 0).toNat+(F.getD 2 0).toNat)*64-(5+(F.getD 1 0).toNat+(F.getD 2 0).toNat)))=0
 then some ((F.getD 0 0).toNat,(F.drop 5).take (F.getD 1 0).toNat,(F.drop (5+(F.getD 1 0).toNat)).take (F.getD 2 0).toNat,pgs (5+(F.getD 1 0).toNat+(F.getD 2 0).toNat)) else none
theorem take_drop_in (l:Str)(a b c:Nat)(h:a+b<=c):((l.take c).drop a).take b=(l.drop a).take b:=by
 rw[List.drop_take,List.take_take,Nat.min_eq_left (by omega)]
theorem dec_flat {ps:List Str}(hl:P64 ps):dec ps=decF ps.flatten:=by
 have hg:∀i,i<64->(ps.getD 0 []).getD i 0=ps.flatten.getD i 0:=λi hi=>by
  cases ps with
  | nil=>simp
  | cons p r=>
   have hp:=hl p (by simp)
   rw[List.flatten_cons,List.getD_eq_getElem?_getD (l:=p++r.flatten),List.getElem?_append_left (by omega)]
   simp
 unfold dec decF
 dsimp only
 rw[hg 0 (by omega),hg 1 (by omega),hg 2 (by omega)]
 generalize (ps.flatten.getD 0 0).toNat=k
 generalize (ps.flatten.getD 1 0).toNat=n
 generalize (ps.flatten.getD 2 0).toNat=v
 have hp:5+n+v<=pgs (5+n+v)*64:=pgs_le _
 have hlen:=flat_len ps hl
 have e1:(ps.length<pgs (5+n+v))=(ps.flatten.length<pgs (5+n+v)*64):=by
  rw[hlen];apply propext;omega
 rw[flat_take hl,take_drop_in _ 5 n _ (by omega),take_drop_in _ (5+n) v _ (by omega),List.take_take,Nat.min_eq_left hp,List.drop_take]
 simp only[e1]
theorem decF_some {F:Str}{k c:Nat}{n v:Str}(h:decF F=some (k,n,v,c)) :
  okLens k n.length v.length=true/\c=pgs (5+n.length+v.length)/\F=pad (recd k n v)++F.drop (c*64)/\c*64<=F.length:=by
 unfold decF at h
 split at h
 ·cases h
 ·rename_i h1
  split at h
  ·cases h
  ·rename_i h2
   split at h
   ·rename_i h3
    simp only[Option.some.injEq,Prod.mk.injEq] at h
    obtain⟨e1,e2,e3,e4⟩:=h
    generalize (F.getD 1 0).toNat=nn at *
    generalize (F.getD 2 0).toNat=vv at *
    have hp:5+nn+vv<=pgs (5+nn+vv)*64:=pgs_le _
    have hn:n.length=nn:=by rw[<-e2,List.length_take,List.length_drop];omega
    have hv:v.length=vv:=by rw[<-e3,List.length_take,List.length_drop];omega
    rw[e1,e2,e3] at h3
    refine⟨by rw[hn,hv,<-e1];simpa using h1,by rw[hn,hv,e4],?_,by omega⟩
    have hz:=zeros_zero h3.2
    rw[List.length_take,List.length_drop,Nat.min_eq_left (by omega)] at hz
    rw[pad_eq,recd_len,hn,hv,<-h3.1,<-hz,<-e4]
    conv=>lhs;rw[<-List.take_append_drop (pgs (5+nn+vv)*64) F]
    congr 1
    conv=>lhs;rw[show pgs (5+nn+vv)*64=(5+nn+vv)+(pgs (5+nn+vv)*64-(5+nn+vv)) by omega,List.take_add]
   ·cases h
theorem decF_pad {k:Nat}{n v:Str}(h:okLens k n.length v.length=true)(R:Str):decF (pad (recd k n v)++R)=some (k,n,v,pgs (5+n.length+v.length)):=by
 have hb:=byte_ok h
 have hp:5+n.length+v.length<=pgs (5+n.length+v.length)*64:=pgs_le _
 have hpad:pad (recd k n v)++R=recd k n v++(List.replicate (pgs (5+n.length+v.length)*64-(5+n.length+v.length)) 255++R):=by rw[pad_eq,recd_len,List.append_assoc]
 have hlen:=recd_len k n v
 rw[hpad]
 obtain⟨r,hr⟩:∃r,List.replicate (pgs (5+n.length+v.length)*64-(5+n.length+v.length)) 255++R=r:=⟨_,rfl⟩
 have g0:(recd k n v++r).getD 0 0=UInt8.ofNat k:=rfl
 have g1:(recd k n v++r).getD 1 0=UInt8.ofNat n.length:=rfl
 have g2:(recd k n v++r).getD 2 0=UInt8.ofNat v.length:=rfl
 have d5:(recd k n v++r).drop 5=n++v++r:=recd_drop5 k n v r
 rw[hr]
 unfold decF
 rw[g0,g1,g2,hb.1,hb.2.1,hb.2.2,d5]
 have t1:(n++v++r).take n.length=n:=by rw[List.append_assoc,List.take_left'];rfl
 have t2:((recd k n v++r).drop (5+n.length)).take v.length=v:=by
  rw[<-List.drop_drop,d5,List.append_assoc,List.drop_left' rfl,List.take_left' rfl]
 have t3:(recd k n v++r).take (5+n.length+v.length)=recd k n v:=List.take_left' hlen
 have t4:((recd k n v++r).drop (5+n.length+v.length)).take (pgs (5+n.length+v.length)*64-(5+n.length+v.length))=List.replicate (pgs (5+n.length+v.length)*64-(5+n.length+v.length)) 255:=by
  rw[List.drop_left' hlen,<-hr,List.take_left' (by simp)]
 rw[t1,t2,t3,t4,zeros_ff,if_neg (by rw[h];simp),if_neg (by rw[List.length_append,hlen,<-hr,List.length_append,List.length_replicate];omega),if_pos ⟨rfl,rfl⟩]
theorem P64.take {ps:List Str}(h:P64 ps)(n:Nat):P64 (ps.take n):=λp hp=>h p (List.mem_of_mem_take hp)
theorem P64.drop {ps:List Str}(h:P64 ps)(n:Nat):P64 (ps.drop n):=λp hp=>h p (List.mem_of_mem_drop hp)
theorem P64.append {ps qs:List Str}(h:P64 ps)(k:P64 qs):P64 (ps++qs):=λp hp=>(List.mem_append.1 hp).elim (h p) (k p)
theorem dec_take {ps:List Str}{k c:Nat}{n v:Str}(hl:P64 ps)(h:dec ps=some (k,n,v,c)) :
  okLens k n.length v.length=true/\c=pgs (5+n.length+v.length)/\1<=c/\c<=ps.length/\ps.take c=pagesR (recd k n v):=by
 have h0:=dec_some hl h
 rw[dec_flat hl] at h
 obtain⟨h1,h2,h3,h4⟩:=decF_some h
 refine⟨h1,h2,h0.2.2.1,h0.2.2.2,flat_inj (hl.take c) (pagesR_64 _) ?_⟩
 have hp:(pad (recd k n v)).length=c*64:=by rw[pad_len,recd_len,h2]
 rw[flat_take hl,pagesR_flat]
 conv=>lhs;rw[h3]
 exact List.take_left' hp
theorem dec_of {ps:List Str}{k:Nat}{n v:Str}(hl:P64 ps)(hok:okLens k n.length v.length=true)(ht:ps.take (pgs (5+n.length+v.length))=pagesR (recd k n v)) :
  dec ps=some (k,n,v,pgs (5+n.length+v.length)):=by
 rw[dec_flat hl,<-List.take_append_drop (pgs (5+n.length+v.length)) ps,List.flatten_append,ht,pagesR_flat]
 exact decF_pad hok _
theorem dec_local {ps qs:List Str}{k c:Nat}{n v:Str}(hl:P64 ps)(hq:P64 qs)(h:dec ps=some (k,n,v,c))(e:qs.take c=ps.take c):dec qs=some (k,n,v,c):=by
 obtain⟨h1,h2,_,_,h5⟩:=dec_take hl h
 rw[h2] at e h5 ⊢
 exact dec_of hq h1 (e.trans h5)
theorem dec_sup {ps:List Str}{k m:Nat}{nm vl:Str}{x:Nat×Str×Str×Nat}(hl:P64 ps)(h:dec ps=some x)(hok:okLens k nm.length vl.length=true)(hs:Sup ps.flatten (pad (recd k nm vl)++List.replicate m 255)) :
  ps.flatten=pad (recd k nm vl)++List.replicate m 255:=by
 obtain⟨k',n',v',c'⟩:=x
 rw[dec_flat hl] at h
 obtain⟨h1,_,h3,_⟩:=decF_some h
 have hb:=okLens_le hok
 have hb':=okLens_le h1
 rw[pad_eq,List.append_assoc] at h3 hs ⊢
 exact sup_recd h3 hs (by rw[zeros_append,zeros_ff,zeros_ff]) (by omega) (by omega) (by omega) (by omega)
inductive Run (ps:List Str):Vars->Nat->Vars->Nat->Prop
 | refl (V:Vars) (n:Nat):Run ps V n V n
 | step {V V':Vars} {n n' k c:Nat} {nm v:Str}:n<ps.length->zeros (ps.getD n [])≠0->dec (ps.drop n)=some (k,nm,v,c)->Run ps (appV V k nm v) (n+c) V' n'->Run ps V n V' n'
theorem Run.trans {ps:List Str}{V V' V'':Vars}{n n' n'':Nat}(h:Run ps V n V' n')(k:Run ps V' n' V'' n''):Run ps V n V'' n'':=by
 induction h with
 | refl=>exact k
 | step h1 h2 h3 _ ih=>exact .step h1 h2 h3 (ih k)
theorem Run.le {ps:List Str}{V V':Vars}{n n':Nat}(h:Run ps V n V' n'):n<=n':=by
 induction h with
 | refl=>exact Nat.le_refl _
 | step _ _ _ _ ih=>omega
theorem getD_take {ps qs:List Str}{n n':Nat}(h:n<n')(e:qs.take n'=ps.take n'):qs.getD n []=ps.getD n []:=by
 have:(qs.take n')[n]? = (ps.take n')[n]? := by rw[e]
 rw[List.getElem?_take_of_lt h,List.getElem?_take_of_lt h] at this
 rw[List.getD_eq_getElem?_getD,List.getD_eq_getElem?_getD,this]
theorem Run.ext {ps qs:List Str}(hl:P64 ps)(hq:P64 qs){V V':Vars}{n n':Nat}(h:Run ps V n V' n')(e:qs.take n'=ps.take n')(hlen:n'<=qs.length):Run qs V n V' n':=by
 induction h with
 | refl=>exact .refl _ _
 | step h1 h2 h3 h4 ih=>
  rename_i V1 V2 a b k c nm v
  have hle:=h4.le
  have hc:=(dec_some (hl.drop _) h3).2.2.1
  refine .step (by omega) (by rw[getD_take (by omega) e];exact h2) (dec_local (hl.drop _) (hq.drop _) h3 ?_) (ih e hlen)
  have e2:∀l:List Str,(l.drop a).take c=(l.take (a+c)).drop a:=λl=>by rw[List.drop_take];congr 1;omega
  have e3:∀l:List Str,l.take (a+c)=(l.take b).take (a+c):=λl=>by rw[List.take_take,Nat.min_eq_left hle]
  rw[e2,e2,e3 qs,e3 ps,e]
theorem rpl_more {ps:List Str}(hl:P64 ps):∀(f:Nat) (V:Vars) (n:Nat),ps.length-n<=f->rpl (f+1) ps V n=rpl f ps V n
 | 0,V,n,h=>by
  rw[rpl_stop (f:=1) (λk=>by have:=k.1;omega)];rfl
 | f+1,V,n,h=>by
  by_cases hc:n<ps.length/\zeros (ps.getD n [])≠0
  ·rcases hd:dec (ps.drop n) with _|⟨k,nm,v,c⟩
   ·rw[rpl_none hc hd,rpl_none hc hd]
   ·rw[rpl_some hc hd,rpl_some hc hd]
    have:=(dec_some (hl.drop _) hd).2.2.1
    exact rpl_more hl f _ _ (by omega)
  ·rw[rpl_stop hc,rpl_stop hc]
theorem rpl_fuel {ps:List Str}(hl:P64 ps){V:Vars}{n:Nat}(f:Nat)(h:ps.length-n<=f)(j:Nat):rpl (f+j) ps V n=rpl f ps V n:=by
 induction j with
 | zero=>rfl
 | succ j ih=>rw[<-Nat.add_assoc,rpl_more hl (f+j) V n (by omega),ih]
theorem rpl_any {ps:List Str}(hl:P64 ps){V:Vars}{n:Nat}{f g:Nat}(hf:ps.length-n<=f)(hg:ps.length-n<=g):rpl f ps V n=rpl g ps V n:=by
 rcases Nat.le_total f g with h|h
 ·obtain⟨j,rfl⟩:=Nat.le.dest h;exact(rpl_fuel hl f hf j).symm
 ·obtain⟨j,rfl⟩:=Nat.le.dest h;exact rpl_fuel hl g hg j
theorem Run.rpl {ps:List Str}(hl:P64 ps){V V':Vars}{n n':Nat}(h:Run ps V n V' n'){f:Nat}(hf:ps.length-n<=f):rpl f ps V n=rpl f ps V' n':=by
 induction h with
 | refl=>rfl
 | step h1 h2 h3 h4 ih=>
  have hc:=(dec_some (hl.drop _) h3).2.2.1
  cases f with
  | zero=>omega
  | succ f=>
   rw[rpl_some ⟨h1,h2⟩ h3,rpl_any hl (f:=f) (g:=f+1) (by omega) (by omega)]
   exact ih (by omega)
theorem recd_first {k:Nat}{n v:Str}(hok:okLens k n.length v.length=true):zeros ((pagesR (recd k n v)).getD 0 [])≠0:=by
 intro h
 have h1:=pagesR_len (recd k n v)
 have h2:0<(pagesR (recd k n v)).length:=by rw[h1,recd_len];unfold pgs;omega
 have h3:=zeros_zero h
 have h4:=pagesR_flat (recd k n v)
 have h5:(pagesR (recd k n v)).getD 0 []=(pagesR (recd k n v))[0]:=by rw[List.getD_eq_getElem?_getD,List.getElem?_eq_getElem h2];rfl
 have h6:((pagesR (recd k n v)).getD 0 []).length=64:=by rw[h5];exact pagesR_64 _ _ (List.getElem_mem h2)
 rw[h6] at h3
 have h7:(pad (recd k n v)).getD 0 0=UInt8.ofNat k:=rfl
 rw[<-h4] at h7
 have h8:((pagesR (recd k n v)).flatten).getD 0 0=((pagesR (recd k n v)).getD 0 []).getD 0 0:=by
  cases hc:pagesR (recd k n v) with
  | nil=>rw[hc] at h2;cases h2
  | cons p r=>
   rw[hc] at h6
   simp at h6
   rw[List.flatten_cons,List.getD_eq_getElem?_getD (l:=p++r.flatten),List.getElem?_append_left (by omega)]
   simp
 rw[h8,h3] at h7
 have h9:=congrArg UInt8.toNat h7
 rw[(byte_ok hok).1] at h9
 have h10:=okLens_k hok
 have h11:((List.replicate 64 (255:UInt8)).getD 0 0).toNat=255:=rfl
 rw[h11] at h9
 omega
theorem run_one {ps:List Str}(hl:P64 ps){V:Vars}{n k:Nat}{nm v:Str}(hok:okLens k nm.length v.length=true)(hin:n+pgs (5+nm.length+v.length)<=ps.length)(h:(ps.drop n).take (pgs (5+nm.length+v.length))=pagesR (recd k nm v)) :
  Run ps V n (appV V k nm v) (n+pgs (5+nm.length+v.length)):=by
 have h1:1<=pgs (5+nm.length+v.length):=by unfold pgs;omega
 refine .step (by omega) ?_ (dec_of (hl.drop n) hok h) (.refl _ _)
 have e:ps.getD n []=(pagesR (recd k nm v)).getD 0 []:=by
  rw[<-h,List.getD_eq_getElem?_getD,List.getD_eq_getElem?_getD,List.getElem?_take_of_lt (by omega),List.getElem?_drop,Nat.add_zero]
 rw[e]
 exact recd_first hok
def Same (fl g:FL):Prop:=g.B=fl.B/\g.P=fl.P/\g.E=fl.E/\g.torn=fl.torn
theorem Same.refl (fl:FL):Same fl fl:=⟨rfl,rfl,rfl,rfl⟩
theorem Same.trans {a b c:FL}(h:Same a b)(k:Same b c):Same a c:=⟨k.1.trans h.1,k.2.1.trans h.2.1,k.2.2.1.trans h.2.2.1,k.2.2.2.trans h.2.2.2⟩
def updP (f:Nat->Nat->Str)(b p:Nat)(cs:List Str):Nat->Nat->Str:=λc q=>if c=b/\p<=q/\q<p+cs.length then cs.getD (q-p) [] else f c q
theorem updP_nil (f:Nat->Nat->Str)(b p:Nat):updP f b p []=f:=by
 funext c q
 unfold updP
 rw[if_neg (λk=>by have h1:=k.2.1;have h2:=k.2.2;simp at h2;omega)]
theorem updP_cons (f:Nat->Nat->Str)(b p:Nat)(x:Str)(cs:List Str):updP (up2 f b p x) b (p+1) cs=updP f b p (x::cs):=by
 funext c q
 unfold updP up2
 by_cases e:c=b
 ·subst e
  by_cases e2:q=p
  ·subst e2
   rw[if_neg (λk=>by have:=k.2.1;omega),if_pos ⟨rfl,rfl⟩,if_pos ⟨rfl,Nat.le_refl _,by simp⟩]
   simp
  ·by_cases h:p+1<=q/\q<p+1+cs.length
   ·have e3:q-p=(q-(p+1))+1:=by omega
    rw[if_pos ⟨rfl,h.1,h.2⟩,if_pos ⟨rfl,by omega,by simp;omega⟩,e3]
    simp
   ·rw[if_neg (λk=>h ⟨k.2.1,k.2.2⟩),if_neg (λk=>e2 k.2),if_neg (λk=>by have h1:=k.2.1;have h2:=k.2.2;simp at h2;omega)]
 ·rw[if_neg (λk=>e k.1),if_neg (λk=>e k.1),if_neg (λk=>e k.1)]
theorem updP_other {f:Nat->Nat->Str}{b p:Nat}{cs:List Str}{c q:Nat}(h:c≠b):updP f b p cs c q=f c q:=if_neg (λk=>h k.1)
theorem updP_off {f:Nat->Nat->Str}{b p:Nat}{cs:List Str}{c q:Nat}(h:q<p\/p+cs.length<=q):updP f b p cs c q=f c q:=if_neg (λk=>by omega)
theorem updP_in {f:Nat->Nat->Str}{b p:Nat}{cs:List Str}{i:Nat}(h:i<cs.length):updP f b p cs b (p+i)=cs.getD i []:=by
 unfold updP
 rw[if_pos ⟨rfl,by omega,by omega⟩]
 congr 1
 omega
theorem pgsF_ext {fl g:FL}{b c:Nat}(hP:g.P=fl.P)(h:∀q,q<fl.P->g.pg c q=fl.pg b q):pgsF g c=pgsF fl b:=by
 unfold pgsF
 rw[hP]
 apply List.map_congr_left
 intro q hq
 exact h q (List.mem_range.1 hq)
theorem pgsF_64 {fl:FL}{b:Nat}(h:∀q,q<fl.P->(fl.pg b q).length=64):P64 (pgsF fl b):=by
 intro p hp
 unfold pgsF at hp
 obtain⟨q,hq,rfl⟩:=List.mem_map.1 hp
 exact h q (List.mem_range.1 hq)
theorem pgsF_take {fl g:FL}{b n:Nat}(hP:g.P=fl.P)(h:∀q,q<n->g.pg b q=fl.pg b q):(pgsF g b).take n=(pgsF fl b).take n:=by
 unfold pgsF
 rw[hP,<-List.map_take,<-List.map_take]
 apply List.map_congr_left
 intro q hq
 rw[List.take_range] at hq
 exact h q (by have:=List.mem_range.1 hq;omega)
theorem pgsF_drop {fl:FL}{b n:Nat}{cs:List Str}(hn:n+cs.length<=fl.P)(h:∀i,i<cs.length->fl.pg b (n+i)=cs.getD i []):((pgsF fl b).drop n).take cs.length=cs:=by
 apply List.ext_getElem
 ·rw[List.length_take,List.length_drop,pgsF_len];omega
 ·intro i h1 h2
  rw[List.getElem_take,List.getElem_drop]
  have e1:(pgsF fl b)[n+i]'(by rw[pgsF_len];omega)=fl.pg b (n+i):=by
   have:=pgsF_get fl b (n+i) (by omega)
   rw[List.getD_eq_getElem?_getD,List.getElem?_eq_getElem (by rw[pgsF_len];omega)] at this
   exact this
  rw[e1,h i h2,List.getD_eq_getElem?_getD,List.getElem?_eq_getElem h2]
  rfl
theorem fitsB_blank (s:Str):fitsB blank s=true:=by
 have h1:∀d:UInt8,fits1 255 d=true:=λd=>by
  unfold fits1
  rw[beq_iff_eq]
  have:(~~~(255:UInt8))=0:=rfl
  rw[this]
  simp
 have h2:∀(n:Nat) (s:Str),(List.zipWith fits1 (List.replicate n 255) s).all id=true:=by
  intro n
  induction n with
  | zero=>intro s;simp
  | succ n ih=>
   intro s
   cases s with
   | nil=>simp
   | cons d r=>rw[List.replicate_succ,List.zipWith_cons_cons,List.all_cons,h1,ih];rfl
 exact h2 64 s
theorem tornP_sup {s:Str}(hs:s.length=64)(t:Nat):Sup (tornP t blank s) s:=by
 refine Sup.of_get (by simp[tornP,blank,hs]) λi hi=>?_
 have hi64:i<64:=by simpa[tornP,blank] using hi
 have h1:(tornP t blank s).getD i 0=torn1 t i (blank.getD i 0) (s.getD i 0):=by
  unfold tornP
  rw[List.getD_eq_getElem?_getD,List.getElem?_map,List.getElem?_range (by simpa[blank] using hi64)]
  rfl
 have h2:blank.getD i 0=255:=by
  unfold blank
  rw[List.getD_eq_getElem?_getD,List.getElem?_replicate,if_pos hi64];rfl
 rw[h1,h2]
 exact supB_torn _ _
theorem intF_c0 {fl:FL}(h:fl.cut=false):intF fl=(false,fl):=by unfold intF;rw[if_pos h]
theorem intF_c1 {fl:FL}(h:fl.cut=true)(hl:0<fl.left):intF fl=(false,{ fl with left:=fl.left-1 }):=by unfold intF;rw[if_neg (by simp[h]),if_pos hl]
theorem intF_c2 {fl:FL}(h:fl.cut=true)(hl:¬0<fl.left):intF fl=(true,loseF fl):=by unfold intF;rw[if_neg (by simp[h]),if_neg hl]
theorem progF_cases {fl:FL}{b p:Nat}{s:Str}(ho:fl.off=false)(hb:fl.pg b p=blank)(hs:s.length=64) :
  (∃g,progF fl b p s=(0,g)/\g.off=false/\Same fl g/\g.er=fl.er/\g.pg=up2 fl.pg b p s/\(fl.cut=false->g.cut=false)) \/
  (fl.cut=true/\∃g t,progF fl b p s=(16,g)/\g.off=true/\g.cut=false/\Same fl g/\g.er=fl.er/\g.pg=up2 fl.pg b p t/\t.length=64/\Sup t s):=by
 unfold progF
 rw[if_neg (by simp[ho]),hb,fitsB_blank,if_neg (by simp)]
 cases hc:fl.cut
 ·left
  rw[intF_c0 hc]
  exact⟨fl.put b p s,rfl,ho,⟨rfl,rfl,rfl,rfl⟩,rfl,rfl,λ_=>hc⟩
 ·by_cases hl:0<fl.left
  ·left
   rw[intF_c1 hc hl]
   exact⟨({ fl with left:=fl.left-1 }:FL).put b p s,rfl,ho,⟨rfl,rfl,rfl,rfl⟩,rfl,rfl,λh=>absurd h (by simp)⟩
  ·right
   rw[intF_c2 hc hl]
   exact⟨rfl,(loseF fl).put b p (tornP fl.torn blank s),tornP fl.torn blank s,rfl,rfl,rfl,⟨rfl,rfl,rfl,rfl⟩,rfl,rfl,by simp[tornP,blank],tornP_sup hs _⟩
theorem wrL_cases:∀(cs:List Str) (fl:FL) (b p:Nat),fl.off=false->(∀i,i<cs.length->fl.pg b (p+i)=blank)->P64 cs ->
  (∃g,wrL fl b p cs=(0,g)/\g.off=false/\Same fl g/\g.er=fl.er/\g.pg=updP fl.pg b p cs/\(fl.cut=false->g.cut=false)) \/
  (fl.cut=true/\∃g j t,wrL fl b p cs=(16,g)/\g.off=true/\g.cut=false/\Same fl g/\g.er=fl.er/\j<cs.length/\g.pg=updP fl.pg b p (cs.take j++[t])/\t.length=64/\Sup t (cs.getD j []))
 | [],fl,b,p,ho,_,_=>.inl ⟨fl,rfl,ho,Same.refl _,rfl,(updP_nil _ _ _).symm,id⟩
 | c::r,fl,b,p,ho,hb,h64=>by
  have hb0:=hb 0 (by simp)
  rw[Nat.add_zero] at hb0
  rcases progF_cases ho hb0 (h64 c (by simp)) with ⟨g,h1,h2,h3,h4,h5,h6⟩|⟨hc,g,t,h1,h2,h2',h3,h4,h5,h6,h7⟩
  ·have hw:wrL fl b p (c::r)=wrL g b (p+1) r:=by
    conv=>lhs;unfold wrL
    rw[h1,if_pos rfl]
   have hb':∀i,i<r.length->g.pg b (p+1+i)=blank:=λi hi=>by
    have:=hb (i+1) (by simpa using hi)
    rw[h5]
    unfold up2
    rw[if_neg (by omega),<-this]
    congr 1
    omega
   rcases wrL_cases r g b (p+1) h2 hb' (λx hx=>h64 x (List.mem_cons_of_mem _ hx)) with ⟨g',k1,k2,k3,k4,k5,k6⟩|⟨kc,g',j,t,k1,k2,k2',k3,k4,k5,k6,k7,k8⟩
   ·left
    exact⟨g',hw.trans k1,k2,h3.trans k3,k4.trans h4,by rw[k5,h5,updP_cons],λh=>k6 (h6 h)⟩
   ·right
    refine⟨?_,g',j+1,t,hw.trans k1,k2,k2',h3.trans k3,k4.trans h4,by simp;omega,?_,k7,by simpa using k8⟩
    ·cases hfc:fl.cut
     ·rw[h6 hfc] at kc;cases kc
     ·rfl
    ·rw[k6,h5,updP_cons];rfl
  ·right
   refine⟨hc,g,0,t,?_,h2,h2',h3,h4,by simp,?_,h6,by simpa using h7⟩
   ·conv=>lhs;unfold wrL
    rw[h1,if_neg (by simp)]
   ·rw[h5,show(c::r).take 0++[t]=t::[] from rfl,<-updP_cons]
    have:updP (up2 fl.pg b p t) b (p+1) []=up2 fl.pg b p t:=updP_nil _ _ _
    rw[this]
theorem wrL_append:∀(cs ds:List Str) (fl:FL) (b p:Nat),wrL fl b p (cs++ds)=if (wrL fl b p cs).1=0 then wrL (wrL fl b p cs).2 b (p+cs.length) ds else wrL fl b p cs
 | [],ds,fl,b,p=>by simp[wrL]
 | c::r,ds,fl,b,p=>by
  rw[List.cons_append]
  by_cases h:(progF fl b p c).1=0
  ·have e:∀l,wrL fl b p (c::l)=wrL (progF fl b p c).2 b (p+1) l:=λl=>by
    conv=>lhs;unfold wrL
    rw[if_pos h]
   rw[e,e,wrL_append r ds,List.length_cons,show p+1+r.length=p+(r.length+1) by omega]
  ·have e:∀l,wrL fl b p (c::l)=progF fl b p c:=λl=>by
    conv=>lhs;unfold wrL
    rw[if_neg h]
   rw[e,e,if_neg h]
def allP (rs:List Str):List Str:=(rs.map pagesR).flatten
theorem allP_len:∀rs:List Str,(allP rs).length=sumP rs
 | []=>rfl
 | r::l=>by
  have:=allP_len l
  unfold allP at *
  rw[List.map_cons,List.flatten_cons,List.length_append,this,pagesR_len]
  rfl
theorem allP_64 (rs:List Str):P64 (allP rs):=by
 intro p hp
 unfold allP at hp
 obtain⟨l,hl,hp⟩:=List.mem_flatten.1 hp
 obtain⟨r,_,rfl⟩:=List.mem_map.1 hl
 exact pagesR_64 r p hp
theorem wrAll_wrL:∀(rs:List Str) (fl:FL) (b p:Nat),(wrAll fl b p rs).1=(wrL fl b p (allP rs)).1/\(wrAll fl b p rs).2.1=(wrL fl b p (allP rs)).2/\((wrAll fl b p rs).1=0->(wrAll fl b p rs).2.2=p+sumP rs)
 | [],_,_,_=>⟨rfl,rfl,λ_=>rfl⟩
 | r::l,fl,b,p=>by
  have e:allP (r::l)=pagesR r++allP l:=rfl
  rw[e,wrL_append]
  unfold wrAll
  by_cases h:(wrL fl b p (pagesR r)).1=0
  ·rw[if_pos h,if_pos h,pagesR_len]
   have:=wrAll_wrL l (wrL fl b p (pagesR r)).2 b (p+pgs r.length)
   refine⟨this.1,this.2.1,λh0=>?_⟩
   rw[this.2.2 h0]
   simp only[sumP]
   omega
  ·rw[if_neg h,if_neg h]
   exact⟨rfl,rfl,λh0=>absurd h0 h⟩
theorem selB_full (i:Nat):selB 18446744073709551615 i=255:=by
 unfold selB
 have h:i%8=0\/i%8=1\/i%8=2\/i%8=3\/i%8=4\/i%8=5\/i%8=6\/i%8=7:=by omega
 rcases h with h|h|h|h|h|h|h|h<;>rw[h]<;>rfl
theorem tornE_sup (t:Nat)(l:Str):Sup (tornE t l) l:=by
 refine Sup.of_get (tornE_len t l) λi hi=>?_
 have hi':i<l.length:=by rwa [tornE_len] at hi
 have h1:(tornE t l).getD i 0=l.getD i 0 ||| selB t i:=by
  unfold tornE
  rw[List.getD_eq_getElem?_getD,List.getElem?_map,List.getElem?_range hi']
  rfl
 rw[h1]
 exact supB.or _ _
theorem tornE_full {l:Str}(h:l.length=64):tornE 18446744073709551615 l=blank:=by
 have h1:∀a:UInt8,a ||| 255=255:=λa=>by
  have h1:=supB_255 a
  unfold supB at h1
  apply UInt8.toNat_inj.1
  rw[UInt8.toNat_or,Nat.or_comm]
  exact h1
 unfold tornE blank
 rw[h]
 apply List.eq_replicate_iff.2
 refine⟨by simp,λx hx=>?_⟩
 obtain⟨i,_,rfl⟩:=List.mem_map.1 hx
 rw[selB_full,h1]
def bump (f:Nat->Nat)(b:Nat):Nat->Nat:=λc=>if c=b then f b+1 else f c
theorem eraseF_cases {fl:FL}{b:Nat}(ho:fl.off=false)(he:fl.er b<fl.E)(h64:∀q,q<fl.P->(fl.pg b q).length=64) :
  (∃g,eraseF fl b=(0,g)/\g.off=false/\Same fl g/\g.er=bump fl.er b/\(∀q,q<fl.P->g.pg b q=blank)/\(∀c q,c≠b->g.pg c q=fl.pg c q)/\(fl.cut=false->g.cut=false)) \/
  (fl.cut=true/\∃g,eraseF fl b=(16,g)/\g.off=true/\g.cut=false/\Same fl g/\g.er=bump fl.er b/\(∀q,q<fl.P->Sup (g.pg b q) (fl.pg b q))/\(∀c q,c≠b->g.pg c q=fl.pg c q)):=by
 unfold eraseF
 rw[if_neg (by simp[ho]),if_neg (by omega)]
 cases hc:fl.cut
 ·left
  rw[intF_c0 (show(fl.erd b (fl.er b+1)).cut=false from hc)]
  refine⟨_,rfl,ho,⟨rfl,rfl,rfl,rfl⟩,rfl,λq hq=>?_,λc q hcb=>?_,λ_=>hc⟩
  ·show(if b=b/\q<fl.P then tornE 18446744073709551615 (fl.pg b q) else fl.pg b q)=blank
   rw[if_pos ⟨rfl,hq⟩,tornE_full (h64 q hq)]
  ·show(if c=b/\q<fl.P then tornE 18446744073709551615 (fl.pg c q) else fl.pg c q)=fl.pg c q
   rw[if_neg (λk=>hcb k.1)]
 ·by_cases hl:0<fl.left
  ·left
   rw[intF_c1 (show(fl.erd b (fl.er b+1)).cut=true from hc) hl]
   refine⟨_,rfl,ho,⟨rfl,rfl,rfl,rfl⟩,rfl,λq hq=>?_,λc q hcb=>?_,λh=>absurd h (by simp)⟩
   ·show(if b=b/\q<fl.P then tornE 18446744073709551615 (fl.pg b q) else fl.pg b q)=blank
    rw[if_pos ⟨rfl,hq⟩,tornE_full (h64 q hq)]
   ·show(if c=b/\q<fl.P then tornE 18446744073709551615 (fl.pg c q) else fl.pg c q)=fl.pg c q
    rw[if_neg (λk=>hcb k.1)]
  ·right
   rw[intF_c2 (show(fl.erd b (fl.er b+1)).cut=true from hc) hl]
   refine⟨rfl,_,rfl,rfl,rfl,⟨rfl,rfl,rfl,rfl⟩,rfl,λq hq=>?_,λc q hcb=>?_⟩
   ·show Sup (if b=b/\q<fl.P then tornE fl.torn (fl.pg b q) else fl.pg b q) (fl.pg b q)
    rw[if_pos ⟨rfl,hq⟩]
    exact tornE_sup _ _
   ·show(if c=b/\q<fl.P then tornE fl.torn (fl.pg c q) else fl.pg c q)=fl.pg c q
    rw[if_neg (λk=>hcb k.1)]
section
theorem numB_be8 (n:Nat)(h:n<18446744073709551616):numB (be8 n)=n:=by
 have e:be8 n=[UInt8.ofNat (n/2^56%256),UInt8.ofNat (n/2^48%256),UInt8.ofNat (n/2^40%256),UInt8.ofNat (n/2^32%256),UInt8.ofNat (n/2^24%256),UInt8.ofNat (n/2^16%256),UInt8.ofNat (n/2^8%256),UInt8.ofNat (n/2^0%256)]:=rfl
 rw[e]
 unfold numB
 simp only[List.foldl_cons,List.foldl_nil]
 rw[u8_of (by omega),u8_of (by omega),u8_of (by omega),u8_of (by omega),u8_of (by omega),u8_of (by omega),u8_of (by omega),u8_of (by omega)]
 omega
theorem be8_len (n:Nat):(be8 n).length=8:=by simp[be8]
theorem hdr_ok (n:Nat):okLens 3 ([]:Str).length (be8 n).length=true:=by rw[be8_len];rfl
theorem hdr_len (n:Nat):(hdr n).length=13:=by unfold hdr;rw[recd_len,be8_len];rfl
theorem hdr_pages (n:Nat):pagesR (hdr n)=[pad (hdr n)]:=by
 have h1:=pagesR_len (hdr n)
 rw[hdr_len] at h1
 have h2:=pagesR_flat (hdr n)
 match hc:pagesR (hdr n),h1 with
 | [p],_=>
  rw[hc] at h2
  simp at h2
  rw[h2]
theorem hdr_pad_len (n:Nat):(pad (hdr n)).length=64:=by rw[pad_len,hdr_len];rfl
theorem hdr_blank (a:Nat):pad (hdr a)≠blank:=λh=>by
 have h1:(pad (hdr a)).getD 0 0=3:=rfl
 rw[h] at h1
 exact absurd h1 (by decide)
theorem blank_sup (a:Nat):Sup blank (pad (hdr a)):=by
 have:=Sup.blank (pad (hdr a))
 rw[hdr_pad_len] at this
 exact this
theorem pgsF_take1 {fl:FL}{b:Nat}(hP:1<=fl.P):(pgsF fl b).take 1=[fl.pg b 0]:=by
 unfold pgsF
 rw[<-List.map_take,List.take_range,Nat.min_eq_left hP]
 rfl
theorem hdrG_of {fl:FL}{b g:Nat}(hP:1<=fl.P)(h64:P64 (pgsF fl b))(hg:g<18446744073709551616)(h:fl.pg b 0=pad (hdr g)):hdrG (pgsF fl b)=some g:=by
 have h1:dec (pgsF fl b)=some (3,[],be8 g,pgs (5+([]:Str).length+(be8 g).length)):=dec_of h64 (hdr_ok g) (by
  rw[be8_len]
  show(pgsF fl b).take 1=pagesR (hdr g)
  rw[pgsF_take1 hP,h,hdr_pages])
 rw[hdrG_3 h1,numB_be8 g hg]
theorem hdrG_sup {fl:FL}{b g g1:Nat}(hP:1<=fl.P)(h64:P64 (pgsF fl b))(h1:g1<18446744073709551616)(hs:Sup (fl.pg b 0) (pad (hdr g1)))(h:hdrG (pgsF fl b)=some g):fl.pg b 0=pad (hdr g1)/\g=g1:=by
 rcases hd:dec (pgsF fl b) with _|⟨k,n,v,c⟩
 ·rw[hdrG_no hd] at h;cases h
 ·by_cases hk:k=3
  ·subst hk
   obtain⟨hok,hc,_,_,_⟩:=dec_take h64 hd
   have hnv:n.length=0/\v.length=8:=by
    unfold okLens at hok
    simp at hok
    exact⟨by rw[hok.1];rfl,hok.2⟩
   have hc1:c=1:=by rw[hc,hnv.1,hnv.2];rfl
   subst hc1
   have h2:dec [fl.pg b 0]=some (3,n,v,1):=dec_local h64 (by rw[<-pgsF_take1 hP];exact h64.take 1) hd (by rw[pgsF_take1 hP];rfl)
   have h3:=dec_sup (m:=0) (by rw[<-pgsF_take1 hP];exact h64.take 1) h2 (hdr_ok g1) (by simp;exact hs)
   have h4:fl.pg b 0=pad (hdr g1):=by simp at h3;exact h3
   refine⟨h4,?_⟩
   rw[hdrG_of hP h64 h1 h4] at h
   injection h with h
   exact h.symm
  ·rw[hdrG_k hd hk] at h;cases h
structure Inv (fl:FL)(st:ST):Prop where
 B2:2<=fl.B
 P2:2<=fl.P
 l64:∀b q,b<fl.B->q<fl.P->(fl.pg b q).length=64
 off:fl.off=false
 blk:st.blk<fl.B
 g64:st.gen<18446744073709551616
 hd:fl.pg st.blk 0=pad (hdr st.gen)
 run:Run (pgsF fl st.blk) [] 1 st.V st.nxt
 nx:st.nxt<=fl.P
 stp:st.clo=false->∀q,st.nxt<=q->q<fl.P->fl.pg st.blk q=blank
 cls:st.clo=true->st.nxt<fl.P/\zeros (fl.pg st.blk st.nxt)≠0/\dec ((pgsF fl st.blk).drop st.nxt)=none
 cap:1+sumP (recs st.V)<=st.nxt
 oth:∀b,b<fl.B->b≠st.blk->∃g1,g1<18446744073709551616/\Sup (fl.pg b 0) (pad (hdr g1))/\(fl.pg b 0=pad (hdr g1)->g1<st.gen)
 srt:Srt st.V
 ok:∀p∈st.V,okLens 1 p.1.length p.2.length=true
 er:∀b,b<fl.B->fl.er b<=fl.E
section
variable {fl g:FL}{st:ST}
theorem Inv.p64 (h:Inv fl st){b:Nat}(hb:b<fl.B):P64 (pgsF fl b):=pgsF_64 λq hq=>h.l64 b q hb hq
theorem Inv.h0 (h:Inv fl st):hdrG (pgsF fl st.blk)=some st.gen:=hdrG_of (by have:=h.P2;omega) (h.p64 h.blk) h.g64 h.hd
theorem Inv.h1 (h:Inv fl st){b g:Nat}(hb:b<fl.B)(hne:b≠st.blk)(hg:hdrG (pgsF fl b)=some g):g<st.gen:=by
 obtain⟨g1,k1,k2,k3⟩:=h.oth b hb hne
 obtain⟨e1,e2⟩:=hdrG_sup (by have:=h.P2;omega) (h.p64 hb) k1 k2 hg
 rw[e2]
 exact k3 e1
theorem Inv.opnK (h:Inv fl st):∀k,k<=fl.B->(st.blk<k->opnK fl k=some (st.blk,st.gen))/\(k<=st.blk->∀b g,opnK fl k=some (b,g)->g<st.gen)
 | 0,_=>⟨λk=>by omega,λ_ b g k=>by cases k⟩
 | k+1,hk=>by
  have ih:=Inv.opnK h k (by omega)
  have e:Go.Proofs.YtdinbpdpalgohaaGreatDoor.opnK fl (k+1)=pickG (Go.Proofs.YtdinbpdpalgohaaGreatDoor.opnK fl k) k (hdrG (pgsF fl k)):=rfl
  rw[e]
  rcases Nat.lt_trichotomy st.blk k with h1|h1|h1
  ·refine⟨λ_=>?_,λk=>by omega⟩
   rw[ih.1 h1]
   rcases hg:hdrG (pgsF fl k) with _|g
   ·rfl
   ·have:=h.h1 (by omega) (by omega) hg
    show(if st.gen<g then _ else _)=_
    rw[if_neg (by omega)]
  ·refine⟨λ_=>?_,λk=>by omega⟩
   rw[<-h1,h.h0]
   rcases ho:Go.Proofs.YtdinbpdpalgohaaGreatDoor.opnK fl st.blk with _|⟨b,g⟩
   ·rfl
   ·have:=ih.2 (by omega) b g (by rw[<-h1];exact ho)
    show(if g<st.gen then _ else _)=_
    rw[if_pos this]
  ·refine⟨λk=>by omega,λ_ b g hbg=>?_⟩
   rcases hg:hdrG (pgsF fl k) with _|g'
   ·rw[hg] at hbg
    exact ih.2 (by omega) b g hbg
   ·rw[hg] at hbg
    have hl:=h.h1 (by omega) (by omega) hg
    rcases ho:Go.Proofs.YtdinbpdpalgohaaGreatDoor.opnK fl k with _|⟨b0,g0⟩
    ·rw[ho] at hbg
     simp[pickG] at hbg
     omega
    ·rw[ho] at hbg
     have:=ih.2 (by omega) b0 g0 ho
     unfold pickG at hbg
     simp only at hbg
     split at hbg
     ·injection hbg with hbg;injection hbg with e1 e2;omega
     ·injection hbg with hbg;injection hbg with e1 e2;omega
theorem Inv.rpl (h:Inv fl st):rpl fl.P (pgsF fl st.blk) [] 1=(st.V,st.nxt,st.clo):=by
 have hl:=h.p64 h.blk
 rw[h.run.rpl hl (by rw[pgsF_len];omega)]
 have hget:st.nxt<fl.P->(pgsF fl st.blk).getD st.nxt []=fl.pg st.blk st.nxt:=λhn=>pgsF_get fl st.blk st.nxt hn
 have hP:=h.P2
 cases hc:st.clo
 ·apply rpl_stop
  rintro ⟨k1,k2⟩
  rw[pgsF_len] at k1
  rw[hget k1,h.stp hc st.nxt (Nat.le_refl _) k1] at k2
  exact k2 (zeros_ff 64)
 ·obtain⟨k1,k2,k3⟩:=h.cls hc
  rw[show fl.P=(fl.P-1)+1 by omega]
  exact rpl_none ⟨by rw[pgsF_len];exact k1,by rw[hget k1];exact k2⟩ k3
theorem Inv.opens (h:Inv fl st):opnF fl=(0,some st):=by
 have hB:=h.B2
 have hP:=h.P2
 unfold opnF
 rw[if_neg (by simp;omega),if_neg (by simp[h.off]),(h.opnK fl.B (Nat.le_refl _)).1 h.blk]
 simp only[h.rpl]
theorem Inv.keep (h:Inv fl st)(hS:Same fl g)(ho:g.off=false)(hp:∀q,q<fl.P->g.pg st.blk q=fl.pg st.blk q)(hl:∀b q,b<fl.B->q<fl.P->b≠st.blk->(g.pg b q).length=64)
  (hoth:∀b,b<fl.B->b≠st.blk->∃g1,g1<18446744073709551616/\Sup (g.pg b 0) (pad (hdr g1))/\(g.pg b 0=pad (hdr g1)->g1<st.gen)) (her:∀b,b<fl.B->g.er b<=fl.E):Inv g st:=by
 have hB:=h.B2
 have hP:=h.P2
 have e:pgsF g st.blk=pgsF fl st.blk:=pgsF_ext hS.2.1 hp
 obtain⟨s1,s2,s3,s4⟩:=hS
 refine⟨by omega,by omega,λb q hb hq=>?_,ho,by rw[s1];exact h.blk,h.g64,by rw[hp 0 (by omega)];exact h.hd,by rw[e];exact h.run,by rw[s2];exact h.nx,λhc q h1 h2=>?_,λhc=>?_,h.cap,λb hb hne=>hoth b (by omega) hne,h.srt,h.ok,λb hb=>by rw[s3];exact her b (by omega)⟩
 ·by_cases eb:b=st.blk
  ·subst eb;rw[hp q (by omega)];exact h.l64 _ q h.blk (by omega)
  ·exact hl b q (by omega) (by omega) eb
 ·rw[hp q (by omega)];exact h.stp hc q h1 (by omega)
 ·obtain⟨k1,k2,k3⟩:=h.cls hc
  rw[s2,hp st.nxt k1,e]
  exact⟨k1,k2,k3⟩
end
end
def elig (fl:FL)(d:Nat):Prop:=blankP (pgsF fl d)=true\/fl.er d<fl.E
theorem tgtK_spec (fl:FL)(blk:Nat):∀k,
  ((tgtK fl blk k).2.2=true->(tgtK fl blk k).1<k/\(tgtK fl blk k).1≠blk/\(tgtK fl blk k).2.1=blankP (pgsF fl (tgtK fl blk k).1)/\elig fl (tgtK fl blk k).1/\∀d,d<k->d≠blk->elig fl d->fl.er (tgtK fl blk k).1<=fl.er d) /\
  ((tgtK fl blk k).2.2=false->∀d,d<k->d≠blk->¬elig fl d)
 | 0=>⟨(λh=>by cases h),λ_ d hd=>by omega⟩
 | k+1=>by
  have ih:=tgtK_spec fl blk k
  rw[tgtK_succ]
  generalize tgtK fl blk k=t at *
  unfold tstep
  by_cases h1:k=blk
  ·rw[if_pos (.inl h1)]
   refine⟨λh=>?_,λh d hd hne he=>?_⟩
   ·obtain⟨a,b,c,d,e⟩:=ih.1 h
    exact⟨by omega,b,c,d,λx hx hne he=>e x (by omega) hne he⟩
   ·exact ih.2 h d (by omega) hne he
  ·by_cases h2:t.2.2=true/\fl.er t.1<=fl.er k
   ·rw[if_pos (.inr h2)]
    refine⟨λh=>?_,λh=>by rw[h2.1] at h;cases h⟩
    obtain⟨a,b,c,d,e⟩:=ih.1 h
    refine⟨by omega,b,c,d,λx hx hne he=>?_⟩
    rcases(by omega:x<k\/x=k) with hx|hx
    ·exact e x hx hne he
    ·rw[hx];exact h2.2
   ·rw[if_neg (λh=>h.elim h1 h2)]
    by_cases h3:blankP (pgsF fl k)=false/\fl.E<=fl.er k
    ·rw[if_pos h3]
     have hk:¬elig fl k:=λh=>h.elim (λh=>by rw[h3.1] at h;cases h) (λh=>by omega)
     refine⟨λh=>?_,λh d hd hne he=>?_⟩
     ·obtain⟨a,b,c,d,e⟩:=ih.1 h
      refine⟨by omega,b,c,d,λx hx hne he=>?_⟩
      rcases(by omega:x<k\/x=k) with hx|hx
      ·exact e x hx hne he
      ·rw[hx] at he;exact absurd he hk
     ·rcases(by omega:d<k\/d=k) with hx|hx
      ·exact ih.2 h d hx hne he
      ·rw[hx] at he;exact hk he
    ·rw[if_neg h3]
     have hk:elig fl k:=by
      unfold elig
      cases hb:blankP (pgsF fl k)
      ·right;rcases Nat.lt_or_ge (fl.er k) fl.E with h|h
       ·exact h
       ·exact absurd ⟨hb,h⟩ h3
      ·left;rfl
     refine⟨λ_=>⟨by omega,h1,rfl,hk,λx hx hne he=>?_⟩,λh=>by cases h⟩
     rcases(by omega:x<k\/x=k) with hx|hx
     ·cases ht:t.2.2
      ·exact absurd he (ih.2 ht x hx hne)
      ·have:=(ih.1 ht).2.2.2.2 x hx hne he
       have h4:¬fl.er t.1<=fl.er k:=λh=>h2 ⟨ht,h⟩
       show fl.er k<=fl.er x
       omega
     ·rw[hx];exact Nat.le_refl _
theorem blank_pages {fl:FL}{b:Nat}(h64:∀q,q<fl.P->(fl.pg b q).length=64)(h:blankP (pgsF fl b)=true):∀q,q<fl.P->fl.pg b q=blank:=λq hq=>by
 unfold blankP at h
 rw[List.all_eq_true] at h
 have:=h (fl.pg b q) (by unfold pgsF;exact List.mem_map.2 ⟨q,List.mem_range.2 hq,rfl⟩)
 have:=zeros_zero (by simpa using this)
 rw[this,h64 q hq];rfl
theorem pages_blank {fl:FL}{b:Nat}(h:∀q,q<fl.P->fl.pg b q=blank):blankP (pgsF fl b)=true:=by
 unfold blankP
 rw[List.all_eq_true]
 intro p hp
 unfold pgsF at hp
 obtain⟨q,hq,rfl⟩:=List.mem_map.1 hp
 rw[h q (List.mem_range.1 hq)]
 exact beq_iff_eq.2 (zeros_ff 64)
theorem setV_last {V:Vars}{k v:Str}(h:∀p∈V,p.1<k):setV V k v=V++[(k,v)]:=by
 induction V with
 | nil=>rfl
 | cons p r ih=>
  have h1:=h p (by simp)
  unfold setV
  rw[if_neg (λh2=>List.lt_irrefl _ (List.lt_trans h1 h2)),if_neg (λe=>by rw[e] at h1;exact List.lt_irrefl _ h1),ih (λq hq=>h q (List.mem_cons_of_mem _ hq))]
  rfl
theorem run_all {ps:List Str}(hl:P64 ps):∀(W U:Vars) (n:Nat),Srt (U++W)->(∀p∈W,okLens 1 p.1.length p.2.length=true)->n+sumP (recs W)<=ps.length->(ps.drop n).take (sumP (recs W))=allP (recs W)->Run ps U n (U++W) (n+sumP (recs W))
 | [],U,n,_,_,_,_=>by
  rw[List.append_nil]
  exact .refl _ _
 | p::r,U,n,hs,hok,hin,he=>by
  have e0:recs (p::r)=recd 1 p.1 p.2::recs r:=rfl
  have e1:sumP (recs (p::r))=pgs (5+p.1.length+p.2.length)+sumP (recs r):=by rw[e0];simp only[sumP,recd_len]
  have e2:allP (recs (p::r))=pagesR (recd 1 p.1 p.2)++allP (recs r):=rfl
  rw[e1] at hin he ⊢
  rw[e2] at he
  have hlen:(pagesR (recd 1 p.1 p.2)).length=pgs (5+p.1.length+p.2.length):=by rw[pagesR_len,recd_len]
  have h1:(ps.drop n).take (pgs (5+p.1.length+p.2.length))=pagesR (recd 1 p.1 p.2):=by
   have:=congrArg (List.take (pgs (5+p.1.length+p.2.length))) he
   rw[List.take_take,Nat.min_eq_left (by omega),List.take_left' hlen] at this
   exact this
  have h2:(ps.drop (n+pgs (5+p.1.length+p.2.length))).take (sumP (recs r))=allP (recs r):=by
   have:=congrArg (List.drop (pgs (5+p.1.length+p.2.length))) he
   rw[List.drop_left' hlen,List.drop_take,List.drop_drop] at this
   rw[<-this]
   congr 1
   omega
  have h3:=run_one (V:=U) hl (hok p (by simp)) (by omega) h1
  have h4:appV U 1 p.1 p.2=U++[p]:=by
   show setV U p.1 p.2=_
   rw[setV_last]
   intro q hq
   exact(List.pairwise_append.1 hs).2.2 q hq p (by simp)
  rw[h4] at h3
  have h5:=run_all hl r (U++[p]) (n+pgs (5+p.1.length+p.2.length)) (by rw[List.append_assoc];exact hs) (λq hq=>hok q (List.mem_cons_of_mem _ hq)) (by omega) h2
  rw[List.append_assoc] at h5
  rw[<-Nat.add_assoc]
  exact h3.trans h5
def FL.on (g:FL):FL:={ g with off:=false }
theorem Inv.fresh {fl g:FL}{st:ST}{V:Vars}{t:Nat}(h:Inv fl st)(hS:Same fl g)(ho:g.off=false)(ht:t<fl.B)(hne:t≠st.blk)(hg:st.gen+1<18446744073709551616)(hroom:1+sumP (recs V)<=fl.P)(hV:Srt V)(hok:∀p∈V,okLens 1 p.1.length p.2.length=true)
  (h0:g.pg t 0=pad (hdr (st.gen+1))) (hr:∀i,i<sumP (recs V)->g.pg t (1+i)=(allP (recs V)).getD i []) (hb:∀q,1+sumP (recs V)<=q->q<fl.P->g.pg t q=blank) (hother:∀c q,c≠t->g.pg c q=fl.pg c q) (her:∀b,b<fl.B->g.er b<=fl.E) :
  Inv g ⟨V,t,st.gen+1,1+sumP (recs V),false⟩:=by
 have hB:=h.B2
 have hP:=h.P2
 obtain⟨s1,s2,s3,s4⟩:=hS
 have hl:∀b q,b<fl.B->q<fl.P->(g.pg b q).length=64:=λb q hb' hq=>by
  by_cases e:b=t
  ·subst e
   rcases Nat.eq_zero_or_pos q with e|e
   ·rw[e,h0,hdr_pad_len]
   ·rcases Nat.lt_or_ge q (1+sumP (recs V)) with e2|e2
    ·rw[show q=1+(q-1) by omega,hr (q-1) (by omega)]
     have hlt:q-1<(allP (recs V)).length:=by rw[allP_len];omega
     rw[List.getD_eq_getElem?_getD,List.getElem?_eq_getElem hlt]
     exact allP_64 _ _ (List.getElem_mem hlt)
    ·rw[hb q e2 hq];rfl
  ·rw[hother b q e];exact h.l64 b q hb' hq
 have h64:P64 (pgsF g t):=pgsF_64 λq hq=>hl t q ht (by omega)
 refine⟨by omega,by omega,λb q hb' hq=>hl b q (by omega) (by omega),ho,by rw[s1];exact ht,hg,h0,?_,by rw[s2];exact hroom,λ_ q h1 h2=>hb q h1 (by omega),(λk=>by cases k),Nat.le_refl _,λb hb' hbt=>?_,hV,hok,λb hb'=>by rw[s3];exact her b (by omega)⟩
 ·have h5:=run_all h64 V [] 1 hV hok (by rw[pgsF_len];omega) (by
   have:=pgsF_drop (fl:=g) (b:=t) (n:=1) (cs:=allP (recs V)) (by rw[allP_len];omega) (λi hi=>hr i (by rwa [allP_len] at hi))
   rwa [allP_len] at this)
  exact h5
 ·have hbt':b≠t:=hbt
  rw[hother b 0 hbt']
  by_cases e:b=st.blk
  ·subst e
   exact⟨st.gen,h.g64,by rw[h.hd];exact Sup.refl _,λ_=>Nat.lt_succ_self _⟩
  ·obtain⟨g1,k1,k2,k3⟩:=h.oth b (by omega) e
   exact⟨g1,k1,k2,λk=>by have:=k3 k;show g1<st.gen+1;omega⟩
theorem bump_le (f:Nat->Nat)(b c:Nat):bump f b c<=f c+1:=by
 unfold bump
 split
 ·rename_i e;subst e;exact Nat.le_refl _
 ·omega
def Done (fl:FL)(st:ST)(V:Vars)(r:Int×FL×ST):Prop:=
 ∃g st',r=(0,g,st')/\Inv g st'/\st'.V=V/\Same fl g/\(fl.cut=false->g.cut=false)/\(∀c q,c≠st'.blk->g.pg c q=fl.pg c q) /\
  ((st'.blk=st.blk/\st'.gen=st.gen/\g.er=fl.er)\/(∃bl,tgtF fl st.blk=(st'.blk,bl,true)/\st'.gen=st.gen+1/\g.er=if bl=true then fl.er else bump fl.er st'.blk))
def Lost (fl:FL)(st:ST)(V:Vars)(r:Int×FL×ST):Prop:=
 fl.cut=true/\∃g st',r=(16,g,st)/\g.off=true/\g.cut=false/\Same fl g/\Inv g.on st'/\(st'.V=st.V\/st'.V=V)/\st'.gen<=st.gen+1/\∀c,g.er c<=fl.er c+1
theorem cmpF_cases {fl:FL}{st:ST}{V:Vars}(h:Inv fl st)(hV:Srt V)(hok:∀p∈V,okLens 1 p.1.length p.2.length=true)(hg:st.gen+1<18446744073709551616) :
  Done fl st V (cmpF fl st V)\/(cmpF fl st V=(8,fl,st)/\(fl.P<1+sumP (recs V)\/∀d,d<fl.B->d≠st.blk->¬elig fl d))\/Lost fl st V (cmpF fl st V):=by
 have hB:=h.B2
 have hP:=h.P2
 by_cases h1:fl.P<1+sumP (recs V)
 ·right;left
  exact⟨cmp1 rfl h1,.inl h1⟩
 ·obtain⟨t,bl,fo,ht⟩:∃t bl fo,tgtF fl st.blk=(t,bl,fo):=⟨_,_,_,rfl⟩
  have hsp:=tgtK_spec fl st.blk fl.B
  have ht':tgtK fl st.blk fl.B=(t,bl,fo):=ht
  rw[ht'] at hsp
  cases fo
  ·right;left
   exact⟨cmp2 rfl h1 ht,.inr (hsp.2 rfl)⟩
  ·obtain⟨htB,hne,hbl,hel,_⟩:=hsp.1 rfl
   simp only at htB hne hbl hel
   have hmod:(st.gen+1)%18446744073709551616=st.gen+1:=Nat.mod_eq_of_lt hg
   have hl64:∀q,q<fl.P->(fl.pg t q).length=64:=λq hq=>h.l64 t q htB hq
   have hprep:(∃g,prepF fl (t,bl,true)=(0,g)/\g.off=false/\Same fl g/\g.er=(if bl=true then fl.er else bump fl.er t)/\(∀q,q<fl.P->g.pg t q=blank)/\(∀c q,c≠t->g.pg c q=fl.pg c q)/\(fl.cut=false->g.cut=false)) \/
     (fl.cut=true/\∃g,prepF fl (t,bl,true)=(16,g)/\g.off=true/\g.cut=false/\Same fl g/\g.er=(if bl=true then fl.er else bump fl.er t)/\(∀q,q<fl.P->Sup (g.pg t q) (fl.pg t q))/\(∀c q,c≠t->g.pg c q=fl.pg c q)):=by
    cases bl
    ·have her:fl.er t<fl.E:=hel.elim (λk=>by rw[<-hbl] at k;cases k) id
     have:=eraseF_cases h.off her hl64
     simpa[prepF] using this
    ·left
     exact⟨fl,rfl,h.off,Same.refl _,rfl,blank_pages hl64 hbl.symm,λ_ _ _=>rfl,id⟩
   have herle:∀c,c<fl.B->(if bl=true then fl.er else bump fl.er t) c<=fl.E:=λc hc=>by
    cases bl
    ·have her:fl.er t<fl.E:=hel.elim (λk=>by rw[<-hbl] at k;cases k) id
     show bump fl.er t c<=fl.E
     unfold bump
     split
     ·omega
     ·exact h.er c hc
    ·exact h.er c hc
   have herb:∀c,(if bl=true then fl.er else bump fl.er t) c<=fl.er c+1:=λc=>by
    cases bl
    ·exact bump_le _ _ _
    ·show fl.er c<=fl.er c+1;omega
   obtain⟨er',her'⟩:∃er',(if bl=true then fl.er else bump fl.er t)=er':=⟨_,rfl⟩
   rw[her'] at hprep herle herb
   rcases hprep with ⟨f1,p1,p2,p3,p4,p5,p6,p7⟩|⟨pc,f1,p1,p2,p2',p3,p4,p5,p6⟩
   ·have hw:=wrAll_wrL (recs V) f1 t 1
    have hbl1:∀i,i<(allP (recs V)).length->f1.pg t (1+i)=blank:=λi hi=>p5 (1+i) (by rw[allP_len] at hi;omega)
    rcases wrL_cases (allP (recs V)) f1 t 1 p2 hbl1 (allP_64 _) with ⟨f2,q1,q2,q3,q4,q5,q6⟩|⟨qc,f2,j,tp,q1,q2,q2',q3,q4,q5,q6,q7,q8⟩
    ·rw[q1] at hw
     have hw3:=hw.2.2 hw.1
     have e2:wrAll f1 t 1 (recs V)=(0,f2,1+sumP (recs V)):=Prod.ext hw.1 (Prod.ext hw.2.1 hw3)
     have hpg:=hdr_pages (st.gen+1)
     have hb0:∀i,i<[pad (hdr (st.gen+1))].length->f2.pg t (0+i)=blank:=λi hi=>by
      have:i=0:=by simpa using hi
      subst this
      rw[q5,updP_off (.inl (by omega))]
      exact p5 0 (by omega)
     have hS2:Same fl f2:=p3.trans q3
     rcases wrL_cases [pad (hdr (st.gen+1))] f2 t 0 q2 hb0 (λp hp=>by rw[List.mem_singleton.1 hp];exact hdr_pad_len _) with ⟨f3,r1,r2,r3,r4,r5,r6⟩|⟨rc,f3,j,tp,r1,r2,r2',r3,r4,r5,r6,r7,r8⟩
     ·left
      have hpg2:∀c q,f3.pg c q=updP (updP f1.pg t 1 (allP (recs V))) t 0 [pad (hdr (st.gen+1))] c q:=λc q=>by rw[r5,q5]
      have hx:∀c q,c≠t->f3.pg c q=fl.pg c q:=λc q hc=>by rw[hpg2,updP_other hc,updP_other hc,p6 c q hc]
      have hI:Inv f3 ⟨V,t,st.gen+1,1+sumP (recs V),false⟩:=h.fresh (hS2.trans r3) r2 htB hne hg (by omega) hV hok (by rw[hpg2];exact updP_in (f:=updP f1.pg t 1 (allP (recs V))) (b:=t) (p:=0) (i:=0) (cs:=[pad (hdr (st.gen+1))]) (by simp)) (λi hi=>by
        rw[hpg2,updP_off (.inr (by show 0+1<=1+i;omega)),updP_in (by rw[allP_len];exact hi)]) (λq k1 k2=>by
        rw[hpg2,updP_off (.inr (by simp;omega)),updP_off (.inr (by rw[allP_len];omega))]
        exact p5 q k2) hx (λb hb=>by rw[r4,q4,p4];exact herle b hb)
      refine⟨f3,⟨V,t,st.gen+1,1+sumP (recs V),false⟩,?_,hI,rfl,hS2.trans r3,λhc=>r6 (q6 (p7 hc)),hx,.inr ⟨bl,ht,rfl,by rw[r4,q4,p4];exact her'.symm⟩⟩
      have:=cmp6 (fl:=fl) (st:=st) rfl h1 ht p1 e2 (f3:=f3) (by rw[hmod,hpg];exact r1)
      rw[hmod] at this
      exact this
     ·right;right
      have hj:j=0:=by simpa using r5
      subst hj
      have hpg2:∀c q,f3.pg c q=updP (updP f1.pg t 1 (allP (recs V))) t 0 [tp] c q:=λc q=>by rw[r6,q5];rfl
      have hx:∀c q,c≠t->f3.pg c q=fl.pg c q:=λc q hc=>by rw[hpg2,updP_other hc,updP_other hc,p6 c q hc]
      have h00:f3.pg t 0=tp:=by rw[hpg2];exact updP_in (f:=updP f1.pg t 1 (allP (recs V))) (b:=t) (p:=0) (i:=0) (cs:=[tp]) (by simp)
      have hpq:∀q,1<=q->f3.pg t q=updP f1.pg t 1 (allP (recs V)) t q:=λq hq=>by rw[hpg2,updP_off (.inr (by simp;omega))]
      have h8:Sup tp (pad (hdr (st.gen+1))):=r8
      have hc0:fl.cut=true:=by
       cases hfc:fl.cut
       ·rw[q6 (p7 hfc)] at rc;cases rc
       ·rfl
      have hE:cmpF fl st V=(16,f3,st):=cmp5 (fl:=fl) (st:=st) rfl h1 ht p1 e2 (f3:=f3) (by rw[hmod,hpg];exact r1) (by decide)
      have hlt:∀q,1<=q->q<fl.P->(f3.pg t q).length=64:=λq k1 k2=>by
       rw[hpq q k1]
       rcases Nat.lt_or_ge q (1+sumP (recs V)) with e|e
       ·rw[show q=1+(q-1) by omega,updP_in (by rw[allP_len];omega)]
        have hlt:q-1<(allP (recs V)).length:=by rw[allP_len];omega
        rw[List.getD_eq_getElem?_getD,List.getElem?_eq_getElem hlt]
        exact allP_64 _ _ (List.getElem_mem hlt)
       ·rw[updP_off (.inr (by rw[allP_len];omega)),p5 q k2];rfl
      by_cases hfull:tp=pad (hdr (st.gen+1))
      ·have hI:Inv f3.on ⟨V,t,st.gen+1,1+sumP (recs V),false⟩:=h.fresh (hS2.trans r3) rfl htB hne hg (by omega) hV hok (h00.trans hfull) (λi hi=>by
         show f3.pg t (1+i)=_
         rw[hpq _ (by omega),updP_in (by rw[allP_len];exact hi)]) (λq k1 k2=>by
         show f3.pg t q=_
         rw[hpq _ (by omega),updP_off (.inr (by rw[allP_len];omega))]
         exact p5 q k2) hx (λb hb=>by show f3.er b<=_;rw[r4,q4,p4];exact herle b hb)
       exact⟨hc0,f3,_,hE,r2,r2',hS2.trans r3,hI,.inr rfl,Nat.le_refl _,λc=>by rw[r4,q4,p4];exact herb c⟩
      ·have hI:Inv f3.on st:=h.keep (hS2.trans r3) rfl (λq hq=>hx _ _ (λe=>hne e.symm)) (λb q hb hq hbne=>by
         show(f3.pg b q).length=64
         by_cases e:b=t
         ·subst e
          rcases Nat.eq_zero_or_pos q with e|e
          ·rw[e,h00];exact r7
          ·exact hlt q e hq
         ·rw[hx b q e];exact h.l64 b q hb hq) (λb hb hbne=>by
         show ∃g1,g1<18446744073709551616/\Sup (f3.pg b 0) (pad (hdr g1))/\(f3.pg b 0=pad (hdr g1)->g1<st.gen)
         by_cases e:b=t
         ·subst e
          rw[h00]
          exact⟨st.gen+1,hg,h8,λk=>absurd k hfull⟩
         ·rw[hx b 0 e];exact h.oth b hb hbne) (λb hb=>by show f3.er b<=_;rw[r4,q4,p4];exact herle b hb)
       exact⟨hc0,f3,st,hE,r2,r2',hS2.trans r3,hI,.inl rfl,by omega,λc=>by rw[r4,q4,p4];exact herb c⟩
    ·right;right
     rw[q1] at hw
     have hc0:fl.cut=true:=by
      cases hfc:fl.cut
      ·rw[p7 hfc] at qc;cases qc
      ·rfl
     obtain⟨p',e2⟩:∃p',wrAll f1 t 1 (recs V)=(16,f2,p'):=⟨_,Prod.ext hw.1 (Prod.ext hw.2.1 rfl)⟩
     have hE:cmpF fl st V=(16,f2,st):=cmp4 rfl h1 ht p1 e2 (by decide)
     have hS2:Same fl f2:=p3.trans q3
     have hx:∀c q,c≠t->f2.pg c q=fl.pg c q:=λc q hc=>by rw[q6,updP_other hc,p6 c q hc]
     have hlj:((allP (recs V)).take j++[tp]).length=j+1:=by rw[List.length_append,List.length_take,Nat.min_eq_left (by omega)];rfl
     rw[allP_len] at q5
     have hI:Inv f2.on st:=h.keep hS2 rfl (λq hq=>hx _ _ (λe=>hne e.symm)) (λb q hb hq hbne=>by
       show(f2.pg b q).length=64
       by_cases e:b=t
       ·subst e
        rw[q6]
        rcases(by omega:q<1\/(1<=q/\q<1+(j+1))\/1+(j+1)<=q) with e|e|e
        ·rw[updP_off (.inl e),p5 q hq];rfl
        ·rw[show q=1+(q-1) by omega,updP_in (by omega)]
         have hlt:q-1<((allP (recs V)).take j++[tp]).length:=by omega
         rw[List.getD_eq_getElem?_getD,List.getElem?_eq_getElem hlt]
         have hm:((allP (recs V)).take j++[tp])[q-1]∈(allP (recs V)).take j++[tp]:=List.getElem_mem hlt
         rcases List.mem_append.1 hm with hm|hm
         ·exact allP_64 _ _ (List.mem_of_mem_take hm)
         ·show List.length (((allP (recs V)).take j++[tp])[q-1])=64
          rw[List.mem_singleton.1 hm];exact q7
        ·rw[updP_off (.inr (by omega)),p5 q hq];rfl
       ·rw[hx b q e];exact h.l64 b q hb hq) (λb hb hbne=>by
       show ∃g1,g1<18446744073709551616/\Sup (f2.pg b 0) (pad (hdr g1))/\(f2.pg b 0=pad (hdr g1)->g1<st.gen)
       by_cases e:b=t
       ·subst e
        rw[q6,updP_off (.inl (by omega)),p5 0 (by omega)]
        exact⟨0,by omega,blank_sup 0,λk=>absurd k.symm (hdr_blank 0)⟩
       ·rw[hx b 0 e];exact h.oth b hb hbne) (λb hb=>by show f2.er b<=_;rw[q4,p4];exact herle b hb)
     exact⟨hc0,f2,st,hE,q2,q2',hS2,hI,.inl rfl,by omega,λc=>by rw[q4,p4];exact herb c⟩
   ·right;right
    have hE:cmpF fl st V=(16,f1,st):=cmp3 rfl h1 ht p1 (by decide)
    have hI:Inv f1.on st:=h.keep p3 rfl (λq hq=>p6 _ _ (λe=>hne e.symm)) (λb q hb hq hbne=>by
      show(f1.pg b q).length=64
      by_cases e:b=t
      ·subst e
       rw[(p5 q hq).len];exact hl64 q hq
      ·rw[p6 b q e];exact h.l64 b q hb hq) (λb hb hbne=>by
      show ∃g1,g1<18446744073709551616/\Sup (f1.pg b 0) (pad (hdr g1))/\(f1.pg b 0=pad (hdr g1)->g1<st.gen)
      by_cases e:b=t
      ·subst e
       obtain⟨g1,k1,k2,k3⟩:=h.oth b hb hbne
       refine⟨g1,k1,(p5 0 (by omega)).trans k2,λk=>k3 ?_⟩
       refine Sup.antisymm k2 ?_
       rw[<-k];exact p5 0 (by omega)
      ·rw[p6 b 0 e];exact h.oth b hb hbne) (λb hb=>by show f1.er b<=_;rw[p4];exact herle b hb)
    exact⟨pc,f1,st,hE,p2,p2',p3,hI,.inl rfl,by omega,λc=>by rw[p4];exact herb c⟩
section
theorem sup_flat:∀(ps qs:List Str),ps.length=qs.length->(∀i,i<ps.length->Sup (ps.getD i []) (qs.getD i []))->Sup ps.flatten qs.flatten
 | [],[],_,_=>.nil
 | [],_::_,h,_=>by simp at h
 | _::_,[],h,_=>by simp at h
 | p::r,q::s,h,hs=>by
  rw[List.flatten_cons,List.flatten_cons]
  refine Sup.append (by have:=hs 0 (by simp);simpa using this) (sup_flat r s (by simpa using h) λi hi=>?_)
  have:=hs (i+1) (by simpa using hi)
  simpa using this
theorem sumP_setV (V:Vars)(n v:Str):sumP (recs (setV V n v))<=sumP (recs V)+pgs (recd 1 n v).length:=by
 induction V with
 | nil=>simp[setV,recs,sumP]
 | cons p r ih=>
  have e:∀(q:Str×Str) (l:Vars),sumP (recs (q::l))=pgs (recd 1 q.1 q.2).length+sumP (recs l):=λ_ _=>rfl
  unfold setV
  split
  ·rw[e];show pgs (recd 1 n v).length+_<=_;omega
  ·split
   ·rw[e,e];show pgs (recd 1 n v).length+_<=_;omega
   ·rw[e,e];omega
theorem sumP_delV (V:Vars)(n:Str):sumP (recs (delV V n))<=sumP (recs V):=by
 induction V with
 | nil=>exact Nat.le_refl _
 | cons p r ih=>
  have e:∀(q:Str×Str) (l:Vars),sumP (recs (q::l))=pgs (recd 1 q.1 q.2).length+sumP (recs l):=λ_ _=>rfl
  unfold delV at *
  rw[List.filter_cons]
  split
  ·rw[e,e];omega
  ·rw[e];omega
theorem setV_same {V:Vars}(hV:Srt V){n v:Str}(h:getV V n=some v):setV V n v=V:=by
 induction V with
 | nil=>cases h
 | cons p r ih=>
  have h':=List.pairwise_cons.1 hV
  by_cases e:p.1=n
  ·have hb:(p.1==n)=true:=by simpa using e
   have h2:p.2=v:=by simpa[getV,hb] using h
   unfold setV
   rw[if_neg (by rw[e];exact List.lt_irrefl _),if_pos e.symm,<-e,<-h2]
  ·have hb:(p.1==n)=false:=by simpa using e
   have h2:getV r n=some v:=by simpa[getV,hb] using h
   have hm:n∈r.map (·.1):=getV_isSome.1 (by rw[h2];rfl)
   obtain⟨q,hq,hqn⟩:=List.mem_map.1 hm
   have hlt:=h'.1 q hq
   rw[hqn] at hlt
   unfold setV
   rw[if_neg (λk=>List.lt_irrefl _ (List.lt_trans k hlt)),if_neg (λk=>e k.symm),ih h'.2 h2]
theorem chgV_app {V:Vars}{k:Nat}{n v:Str}(hk:k=1\/k=2):chgV V k n v=appV V k n v:=by
 rcases hk with rfl|rfl<;>rfl
theorem okLens_1 {k n v:Nat}(hk:k=1\/k=2)(h:okLens k n v=true):okLens 1 n v=true:=by
 rcases hk with rfl|rfl
 ·exact h
 ·unfold okLens at *
  simp at *
  omega
section
variable {fl g:FL}{st:ST}{k:Nat}{n v:Str}
theorem chgV_srtI (h:Inv fl st)(hk:k=1\/k=2):Srt (chgV st.V k n v):=by
 rw[chgV_app hk];exact appV_srt h.srt k n v
theorem chgV_okI (h:Inv fl st)(hk:k=1\/k=2)(hok:okLens k n.length v.length=true):∀p∈chgV st.V k n v,okLens 1 p.1.length p.2.length=true:=by
 intro p hp
 unfold chgV at hp
 split at hp
 ·rcases mem_setV hp with e|e
  ·rw[e];exact okLens_1 hk hok
  ·exact h.ok p e
 ·exact h.ok p (mem_delV hp)
theorem chgV_cap (hk:k=1\/k=2)(V:Vars):sumP (recs (chgV V k n v))<=sumP (recs V)+pgs (recd k n v).length:=by
 rcases hk with rfl|rfl
 ·exact sumP_setV V n v
 ·have:=sumP_delV V n
  show sumP (recs (delV V n))<=_
  omega
theorem Inv.appended (h:Inv fl st)(hc:st.clo=false)(hk:k=1\/k=2)(hok:okLens k n.length v.length=true)(hroom:st.nxt+pgs (recd k n v).length<=fl.P)(hS:Same fl g)(ho:g.off=false)(her:g.er=fl.er)
  (hlow:∀q,q<st.nxt->g.pg st.blk q=fl.pg st.blk q) (hrec:∀i,i<pgs (recd k n v).length->g.pg st.blk (st.nxt+i)=(pagesR (recd k n v)).getD i []) (hhigh:∀q,st.nxt+pgs (recd k n v).length<=q->q<fl.P->g.pg st.blk q=blank) (hother:∀c q,c≠st.blk->g.pg c q=fl.pg c q) :
  Inv g ⟨chgV st.V k n v,st.blk,st.gen,st.nxt+pgs (recd k n v).length,st.clo⟩:=by
 have hB:=h.B2
 have hP:=h.P2
 have h1:=h.run.le
 obtain⟨s1,s2,s3,s4⟩:=hS
 have hl:∀b q,b<fl.B->q<fl.P->(g.pg b q).length=64:=λb q hb hq=>by
  by_cases e:b=st.blk
  ·subst e
   rcases(by omega:q<st.nxt\/(st.nxt<=q/\q<st.nxt+pgs (recd k n v).length)\/st.nxt+pgs (recd k n v).length<=q) with e|e|e
   ·rw[hlow q e];exact h.l64 _ q h.blk hq
   ·rw[show q=st.nxt+(q-st.nxt) by omega,hrec _ (by omega)]
    have hlt:q-st.nxt<(pagesR (recd k n v)).length:=by rw[pagesR_len];omega
    rw[List.getD_eq_getElem?_getD,List.getElem?_eq_getElem hlt]
    exact pagesR_64 _ _ (List.getElem_mem hlt)
   ·rw[hhigh q e hq];rfl
  ·rw[hother b q e];exact h.l64 b q hb hq
 have h64:P64 (pgsF g st.blk):=pgsF_64 λq hq=>hl _ q h.blk (by omega)
 have hlen:pgs (recd k n v).length=pgs (5+n.length+v.length):=by rw[recd_len]
 have hr1:Run (pgsF g st.blk) [] 1 st.V st.nxt:=h.run.ext (h.p64 h.blk) h64 (pgsF_take s2 hlow) (by rw[pgsF_len,s2];exact h.nx)
 have hr2:Run (pgsF g st.blk) st.V st.nxt (chgV st.V k n v) (st.nxt+pgs (recd k n v).length):=by
  rw[chgV_app hk,hlen]
  refine run_one h64 hok (by rw[pgsF_len];omega) ?_
  have:=pgsF_drop (fl:=g) (b:=st.blk) (n:=st.nxt) (cs:=pagesR (recd k n v)) (by rw[pagesR_len];omega) (λi hi=>hrec i (by rwa [pagesR_len] at hi))
  rw[pagesR_len,hlen] at this
  exact this
 refine⟨by omega,by omega,λb q hb hq=>hl b q (by omega) (by omega),ho,by rw[s1];exact h.blk,h.g64,by rw[hlow 0 (by omega)];exact h.hd,hr1.trans hr2,by rw[s2];exact hroom,λ_ q k1 k2=>hhigh q k1 (by omega),(λe=>by have e':st.clo=true:=e;rw[hc] at e';cases e'),?_,λb hb hne=>?_,chgV_srtI h hk,chgV_okI h hk hok,λb hb=>by rw[s3,her];exact h.er b (by omega)⟩
 ·have:=chgV_cap (n:=n) (v:=v) hk st.V
  have:=h.cap
  show 1+sumP (recs (chgV st.V k n v))<=st.nxt+pgs (recd k n v).length
  omega
 ·rw[hother b 0 hne];exact h.oth b (by omega) hne
theorem Inv.torn (h:Inv fl st)(hn:st.nxt<fl.P)(hS:Same fl g)(ho:g.off=false)(her:g.er=fl.er)(hlow:∀q,q<st.nxt->g.pg st.blk q=fl.pg st.blk q)(hl:∀q,q<fl.P->(g.pg st.blk q).length=64)
  (hz:zeros (g.pg st.blk st.nxt)≠0) (hd:dec ((pgsF g st.blk).drop st.nxt)=none) (hother:∀c q,c≠st.blk->g.pg c q=fl.pg c q):Inv g ⟨st.V,st.blk,st.gen,st.nxt,true⟩:=by
 have hB:=h.B2
 have hP:=h.P2
 have h1:=h.run.le
 obtain⟨s1,s2,s3,s4⟩:=hS
 have h64:P64 (pgsF g st.blk):=pgsF_64 λq hq=>hl q (by omega)
 refine⟨by omega,by omega,λb q hb hq=>?_,ho,by rw[s1];exact h.blk,h.g64,by rw[hlow 0 (by omega)];exact h.hd,h.run.ext (h.p64 h.blk) h64 (pgsF_take s2 hlow) (by rw[pgsF_len,s2];exact h.nx),by rw[s2];exact h.nx,(λe=>by cases e),λ_=>⟨by rw[s2];exact hn,hz,hd⟩,h.cap,λb hb hne=>by rw[hother b 0 hne];exact h.oth b (by omega) hne,h.srt,h.ok,λb hb=>by rw[s3,her];exact h.er b (by omega)⟩
 by_cases e:b=st.blk
 ·subst e;exact hl q (by omega)
 ·rw[hother b q e];exact h.l64 b q (by omega) (by omega)
theorem chgF_cases (h:Inv fl st)(hk:k=1\/k=2)(hok:okLens k n.length v.length=true)(hg:st.gen+1<18446744073709551616) :
  Done fl st (chgV st.V k n v) (chgF fl st k n v)\/(chgF fl st k n v=(8,fl,st)/\(fl.P<1+sumP (recs (chgV st.V k n v))\/∀d,d<fl.B->d≠st.blk->¬elig fl d))\/Lost fl st (chgV st.V k n v) (chgF fl st k n v):=by
 by_cases hfull:st.clo=true\/fl.P<st.nxt+pgs (recd k n v).length
 ·rw[chg2 h.off hfull]
  exact cmpF_cases h (chgV_srtI h hk) (chgV_okI h hk hok) hg
 ·have hclo:st.clo=false:=by
   cases hc:st.clo
   ·rfl
   ·exact absurd (.inl hc) hfull
  have hroom:st.nxt+pgs (recd k n v).length<=fl.P:=by
   rcases Nat.lt_or_ge fl.P (st.nxt+pgs (recd k n v).length) with e|e
   ·exact absurd (.inr e) hfull
   ·exact e
  have hlen:=pagesR_len (recd k n v)
  have hbl:∀i,i<(pagesR (recd k n v)).length->fl.pg st.blk (st.nxt+i)=blank:=λi hi=>h.stp hclo _ (by omega) (by omega)
  rcases wrL_cases (pagesR (recd k n v)) fl st.blk st.nxt h.off hbl (pagesR_64 _) with ⟨g,q1,q2,q3,q4,q5,q6⟩|⟨qc,g,j,t,q1,q2,q2',q3,q4,q5,q6,q7,q8⟩
  ·left
   have hI:=h.appended (g:=g) hclo hk hok hroom q3 q2 q4 (λq hq=>by rw[q5,updP_off (.inl hq)]) (λi hi=>by rw[q5,updP_in (by omega)]) (λq k1 k2=>by rw[q5,updP_off (.inr (by omega))];exact h.stp hclo q (by omega) k2) (λc q hc=>by rw[q5,updP_other hc])
   exact⟨g,_,chg4 h.off hfull q1,hI,rfl,q3,q6,λc q hc=>by rw[q5,updP_other hc],.inl ⟨rfl,rfl,q4⟩⟩
  ·right;right
   have hE:=chg3 (fl:=fl) (st:=st) (k:=k) (nm:=n) (v:=v) h.off hfull q1 (by decide)
   have hlj:((pagesR (recd k n v)).take j++[t]).length=j+1:=by rw[List.length_append,List.length_take,Nat.min_eq_left (by omega)];rfl
   have hother:∀c q,c≠st.blk->g.pg c q=fl.pg c q:=λc q hc=>by rw[q6,updP_other hc]
   have hlow:∀q,q<st.nxt->g.pg st.blk q=fl.pg st.blk q:=λq hq=>by rw[q6,updP_off (.inl hq)]
   have hat:∀i,st.nxt+i<fl.P->g.pg st.blk (st.nxt+i)=if i<j then (pagesR (recd k n v)).getD i [] else if i=j then t else blank:=λi hi=>by
    rw[q6]
    rcases(by omega:i<j\/i=j\/j+1<=i) with e|e|e
    ·rw[if_pos e,updP_in (by omega),List.getD_eq_getElem?_getD,List.getElem?_append_left (by rw[List.length_take];omega),List.getElem?_take_of_lt e,<-List.getD_eq_getElem?_getD]
    ·rw[if_neg (by omega),if_pos e,updP_in (by omega),e,List.getD_eq_getElem?_getD,List.getElem?_append_right (by rw[List.length_take];omega),List.length_take,Nat.min_eq_left (by omega),Nat.sub_self]
     rfl
    ·rw[if_neg (by omega),if_neg (by omega),updP_off (.inr (by omega))]
     exact h.stp hclo _ (by omega) hi
   have hl:∀q,q<fl.P->(g.pg st.blk q).length=64:=λq hq=>by
    rcases Nat.lt_or_ge q st.nxt with e|e
    ·rw[hlow q e];exact h.l64 _ q h.blk hq
    ·rw[show q=st.nxt+(q-st.nxt) by omega,hat _ (by omega)]
     split
     ·rename_i e2
      have hlt:q-st.nxt<(pagesR (recd k n v)).length:=by omega
      rw[List.getD_eq_getElem?_getD,List.getElem?_eq_getElem hlt]
      exact pagesR_64 _ _ (List.getElem_mem hlt)
     ·split
      ·exact q7
      ·rfl
   have herb:∀c,g.er c<=fl.er c+1:=λc=>by rw[q4];omega
   have h64:P64 (pgsF g st.blk):=pgsF_64 λq hq=>hl q (by rw[q3.2.1] at hq;exact hq)
   have hnP:st.nxt<fl.P:=by omega
   have hlen2:((pgsF g st.blk).drop st.nxt).length=fl.P-st.nxt:=by rw[List.length_drop,pgsF_len,q3.2.1]
   rcases hd:dec ((pgsF g st.blk).drop st.nxt) with _|x
   ·by_cases hz:zeros (g.pg st.blk st.nxt)=0
    ·have h00:=hat 0 (by omega)
     rw[Nat.add_zero] at h00
     have hj:j=0:=by
      rcases Nat.eq_zero_or_pos j with e|e
      ·exact e
      ·rw[if_pos e] at h00
       rw[h00] at hz
       exact absurd hz (recd_first hok)
     have hall:∀q,q<fl.P->g.pg st.blk q=fl.pg st.blk q:=λq hq=>by
      rcases Nat.lt_or_ge q st.nxt with e|e
      ·exact hlow q e
      ·have e2:g.pg st.blk q=blank:=by
        rcases Nat.eq_or_lt_of_le e with e3|e3
        ·rw[<-e3]
         have:=zeros_zero hz
         rw[hl _ hnP] at this
         exact this
        ·rw[show q=st.nxt+(q-st.nxt) by omega,hat _ (by omega),if_neg (by omega),if_neg (by omega)]
       rw[e2,h.stp hclo q e hq]
     have hI:Inv g.on st:=h.keep q3 rfl hall (λb q hb hq hne=>by show(g.pg b q).length=64;rw[hother b q hne];exact h.l64 b q hb hq) (λb hb hne=>by show ∃g1,g1<18446744073709551616/\Sup (g.pg b 0) (pad (hdr g1))/\(g.pg b 0=pad (hdr g1)->g1<st.gen);rw[hother b 0 hne];exact h.oth b hb hne) (λb hb=>by show g.er b<=_;rw[q4];exact h.er b hb)
     exact⟨qc,g,st,hE,q2,q2',q3,hI,.inl rfl,by omega,herb⟩
    ·have hI:Inv g.on ⟨st.V,st.blk,st.gen,st.nxt,true⟩:=h.torn hnP q3 rfl q4 hlow hl hz hd hother
     exact⟨qc,g,_,hE,q2,q2',q3,hI,.inl rfl,Nat.le_succ _,herb⟩
   ·have hqs:Sup ((pgsF g st.blk).drop st.nxt).flatten (pagesR (recd k n v)++List.replicate (fl.P-st.nxt-pgs (recd k n v).length) blank).flatten:=by
     refine sup_flat _ _ (by rw[hlen2,List.length_append,List.length_replicate];omega) λi hi=>?_
     rw[hlen2] at hi
     have e1:((pgsF g st.blk).drop st.nxt).getD i []=g.pg st.blk (st.nxt+i):=by
      rw[List.getD_eq_getElem?_getD,List.getElem?_drop,<-List.getD_eq_getElem?_getD]
      exact pgsF_get g st.blk (st.nxt+i) (by rw[q3.2.1];omega)
     rw[e1,hat i (by omega)]
     have e2:∀i,i<pgs (recd k n v).length->(pagesR (recd k n v)++List.replicate (fl.P-st.nxt-pgs (recd k n v).length) blank).getD i []=(pagesR (recd k n v)).getD i []:=λi hi=>by
      rw[List.getD_eq_getElem?_getD,List.getElem?_append_left (by omega),<-List.getD_eq_getElem?_getD]
     split
     ·rw[e2 i (by omega)];exact Sup.refl _
     ·split
      ·rename_i e
       rw[e,e2 j (by omega)];exact q8
      ·rcases Nat.lt_or_ge i (pgs (recd k n v).length) with e|e
       ·rw[e2 i e]
        have hlt:i<(pagesR (recd k n v)).length:=by omega
        have:=Sup.blank ((pagesR (recd k n v)).getD i [])
        rw[show((pagesR (recd k n v)).getD i []).length=64 by rw[List.getD_eq_getElem?_getD,List.getElem?_eq_getElem hlt];exact pagesR_64 _ _ (List.getElem_mem hlt)] at this
        exact this
       ·rw[List.getD_eq_getElem?_getD,List.getElem?_append_right (by omega),List.getElem?_replicate,if_pos (by omega)]
        exact Sup.refl _
    have hff:∀m,(List.replicate m blank).flatten=List.replicate (m*64) (255:UInt8):=λm=>by
     induction m with
     | zero=>simp
     | succ m ih=>rw[List.replicate_succ,List.flatten_cons,ih,show(m+1)*64=64+m*64 by omega,<-List.replicate_append_replicate];rfl
    have hfl:(pagesR (recd k n v)++List.replicate (fl.P-st.nxt-pgs (recd k n v).length) blank).flatten=pad (recd k n v)++List.replicate ((fl.P-st.nxt-pgs (recd k n v).length)*64) 255:=by
     rw[List.flatten_append,pagesR_flat,hff]
    have heq:=dec_sup (h64.drop st.nxt) hd hok (by rw[<-hfl];exact hqs)
    rw[<-hfl] at heq
    have hpp:=flat_inj (h64.drop st.nxt) ((pagesR_64 _).append (λp hp=>by rw[List.eq_of_mem_replicate hp];rfl)) heq
    have hget:∀i,st.nxt+i<fl.P->g.pg st.blk (st.nxt+i)=(pagesR (recd k n v)++List.replicate (fl.P-st.nxt-pgs (recd k n v).length) blank).getD i []:=λi hi=>by
     rw[<-hpp,List.getD_eq_getElem?_getD,List.getElem?_drop,<-List.getD_eq_getElem?_getD]
     exact(pgsF_get g st.blk (st.nxt+i) (by rw[q3.2.1];omega)).symm
    have hI:Inv g.on ⟨chgV st.V k n v,st.blk,st.gen,st.nxt+pgs (recd k n v).length,st.clo⟩:=h.appended hclo hk hok hroom q3 rfl q4 hlow (λi hi=>by
      show g.pg st.blk (st.nxt+i)=_
      rw[hget i (by omega),List.getD_eq_getElem?_getD,List.getElem?_append_left (by omega),<-List.getD_eq_getElem?_getD]) (λq k1 k2=>by
      show g.pg st.blk q=blank
      rw[show q=st.nxt+(q-st.nxt) by omega,hget _ (by omega),List.getD_eq_getElem?_getD,List.getElem?_append_right (by omega),List.getElem?_replicate,if_pos (by omega)]
      rfl) hother
    exact⟨qc,g,_,hE,q2,q2',q3,hI,.inr rfl,Nat.le_succ _,herb⟩
end
end
abbrev st0:ST:=⟨[],0,1,1,false⟩
theorem fmt1_blank {fl:FL}(ho:fl.off=false)(h:∀b,blankP (pgsF fl b)=true):∀r b,fmt1 r b fl=(0,fl)
 | 0,_=>rfl
 | r+1,b=>by
  unfold fmt1
  rw[if_neg (by simp[ho]),if_pos (h b)]
  exact fmt1_blank ho h r (b+1)
theorem least_zero {fl:FL}(h:∀b,fl.er b=0):∀k,least fl k=0
 | 0=>rfl
 | k+1=>by rw[least_succ,if_neg (by rw[h,h];omega),least_zero h k]
theorem fmt_new {B P E:Nat}(hB:2<=B)(hP:2<=P):∃f1,fmtF (newF B P E)=(0,f1)/\Inv f1 st0/\Same (newF B P E) f1/\(∀b,f1.er b=0)/\f1.cut=false/\∀b,b≠0->blankP (pgsF f1 b)=true:=by
 have hbl:∀b,blankP (pgsF (newF B P E) b)=true:=λb=>pages_blank λq _=>rfl
 have h1:=fmt1_blank (fl:=newF B P E) rfl hbl B 0
 have h2:=least_zero (fl:=newF B P E) (λ_=>rfl) B
 have h3:=hdr_pages 1
 rcases wrL_cases [pad (hdr 1)] (newF B P E) 0 0 rfl (λi _=>rfl) (λp hp=>by rw[List.mem_singleton.1 hp];exact hdr_pad_len 1) with ⟨g,q1,q2,q3,q4,q5,q6⟩|⟨hc,_⟩
 ·have hpg:∀b q,¬(b=0/\q=0)->g.pg b q=blank:=λb q hn=>by
   rw[q5]
   unfold updP
   rw[if_neg (λk=>hn ⟨k.1,by have:=k.2.2;simp at this;omega⟩)]
   rfl
  have h00:g.pg 0 0=pad (hdr 1):=by rw[q5];exact updP_in (f:=(newF B P E).pg) (b:=0) (p:=0) (i:=0) (cs:=[pad (hdr 1)]) (by simp)
  refine⟨g,?_,?_,q3,λb=>by rw[q4];rfl,q6 rfl,λb hb=>pages_blank λq _=>hpg b q (λk=>hb k.1)⟩
  ·unfold fmtF
   show(if (decide (2<=B)&&decide (2<=P))=false then _ else _)=_
   rw[if_neg (by simp;omega)]
   show(if (fmt1 B 0 (newF B P E)).1≠0 then _ else wrL (fmt1 B 0 (newF B P E)).2 (least (fmt1 B 0 (newF B P E)).2 B) 0 (pagesR (hdr 1)))=_
   rw[h1]
   show wrL (newF B P E) (least (newF B P E) B) 0 _=_
   rw[h2,h3,q1]
  ·obtain⟨s1,s2,s3,s4⟩:=q3
   have s1':g.B=B:=s1
   have s2':g.P=P:=s2
   refine⟨by omega,by omega,λb q _ _=>?_,q2,by show 0<g.B;omega,by show 1<_;omega,h00,.refl _ _,by show 1<=g.P;omega,λ_ q k1 _=>hpg 0 q (λk=>by have:1<=q:=k1;omega),(λk=>by cases k),by show 1+0<=1;omega,λb _ hne=>⟨0,by omega,?_,λk=>?_⟩,List.Pairwise.nil,(λp hp=>by cases hp),λb _=>by rw[q4];exact Nat.zero_le _⟩
   ·by_cases e:b=0/\q=0
    ·rw[e.1,e.2,h00];exact hdr_pad_len 1
    ·rw[hpg b q e];rfl
   ·rw[hpg b 0 (λk=>hne k.1)];exact blank_sup 0
   ·rw[hpg b 0 (λk=>hne k.1)] at k
    exact absurd k.symm (hdr_blank 0)
 ·cases hc
end Go.Proofs.YtdinbpdpalgohaaGreatDoor
