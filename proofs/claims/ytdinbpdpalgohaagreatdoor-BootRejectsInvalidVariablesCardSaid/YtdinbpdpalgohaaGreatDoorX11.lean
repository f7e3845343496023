/- Walks and laws: RF RG RH RI RJ RK. Conditions: those that each theorem names. -/
import Derived.ArgAppend
import Derived.Test.YtdinbpdpalgohaaGreatDoorX10
set_option maxHeartbeats 4000000
set_option maxRecDepth 100000
namespace Go.Proofs.YtdinbpdpalgohaaGreatDoor
open Go.RowKit
def BA (w:World)(g n cap:Nat)(l:Str):Prop:=∃(cur:Array Value) (fr:Nat×Nat),w.heap[g]? = some (.cells cur 5 fr)/\l.length=n/\cur.size=cap/\n<=cap/\cap<=maxLen/\(∀i,i<n->cur[i]? = some (.int .u8 ((l.getD i 0).toNat:Int)))/\∀i,i<cap->¬(fr.1<=i/\i<fr.2)
theorem BA.bt {w:World}{g n cap:Nat}{l:Str}(h:BA w g n cap l):Bt w g n l:=by
 obtain⟨cur,fr,h1,h2,h3,h4,h5,h6,h7⟩:=h
 exact⟨cur,fr,h1,h2,h6,λi hi=>h7 i (by omega)⟩
theorem BA.le {w:World}{g n cap:Nat}{l:Str}(h:BA w g n cap l):n<=cap/\cap<=maxLen:=by
 obtain⟨cur,fr,h1,h2,h3,h4,h5,h6,h7⟩:=h
 exact⟨h4,h5⟩
theorem BA.len {w:World}{g n cap:Nat}{l:Str}(h:BA w g n cap l):l.length=n:=by
 obtain⟨cur,fr,h1,h2,h3,h4,h5,h6,h7⟩:=h
 exact h2
theorem BA.ch {C:Nat->Prop}{w w':World}{g n cap:Nat}{l:Str}(h:BA w g n cap l)(c:Ch C w w')(hg:¬C g):BA w' g n cap l:=by
 obtain⟨cur,fr,h1,r⟩:=h
 exact⟨cur,fr,(c.block g (heap_lt h1) hg).trans h1,r⟩
theorem conv_ba (w:World)(s:ByteArray)(hs:s.size<=100000):∃cap W,(convert 9 99 (.string s)).run Tryz.prog w=.ok (.slice (some ⟨w.heap.size,0,none⟩) s.size cap) W/\BA W w.heap.size s.size cap s.data.toList/\Below w.heap.size w W:=by
 have hg1:=grownCap_ge w s.size 0 5
 have hg2:=grownCap_le_maxLen w s.size 0 5 (by unfold maxLen;omega)
 refine⟨_,_,run_bytes_of_string (P:=Tryz.prog) w 9 99 5 s Tryz.underlying9 Tryz.underlying99 Tryz.underlying5,⟨_,_,heap_alloc_new w.drew _,Array.length_toList,?_,hg1,hg2,λi hi=>?_,λi hi=>?_⟩,((Below.refl _ _).drew).alloc (Nat.le_refl _) _⟩
 ·generalize grownCap w s.size 0 5=cap at *
  simp[bytesRow]
  have:s.data.size=s.size:=rfl
  omega
 ·generalize grownCap w s.size 0 5=cap at *
  have h0:i<s.data.size:=hi
  unfold bytesRow
  rw[Array.getElem?_append_left (by simpa using h0),Array.getElem?_map,Array.getElem?_eq_getElem h0,List.getD_eq_getElem?_getD,List.getElem?_eq_getElem (by simpa using h0)]
  simp
 ·generalize grownCap w s.size 0 5=cap at *
  have:(bytesRow s cap).size=cap:=by
   simp[bytesRow]
   have:s.data.size=s.size:=rfl
   omega
  simp only[this]
  omega
theorem wpList_append_run {P:Program}{w:World}{ops:Array Oper}{rest:List Oper}{o:Oper}{a:Act}{Q:Exit->Act->World->Prop}(hgd:o.guard=none)(s x:Operand)(t:TypeId)
  (ho:o.op=.call { callee:=.builtin .append,args:=#[s,x],argTypes:=#[t,t] }) (hty:o.type=t) (v1 v2 R:Value) (W':World) (hs:a.eval s=v1) (hx:a.eval x=v2)
  (hr:(Builtin.append_ #[t,t] t #[v1,v2]).run P w=.ok R W') (h:wpList P ops Q rest (a.put o.dst R) W'):wpList P ops Q (o::rest) a w:=
 wpList_plain hgd λ_ hK=>by
  unfold Oper.wp execOp
  simp only[ho,hty,resolve,invoke,builtin,Sem.run_bind,Sem.run_pure,Result.andThen_ok,List.map_toArray,List.map_cons,List.map_nil,hs,hx,hr]
  exact hK _ _ h
theorem BA.push {w w1:World}{g n cap:Nat}{l:Str}(h:BA w g n cap l)(b:UInt8)(hn:n<=100000)(e:w1=w.alloc (.cells #[.int .u8 (b.toNat:Int)] 5)) :
  ∃g2 c2 w2,(Builtin.append_ #[99,99] 99 #[.slice (some ⟨g,0,none⟩) n cap,.slice (some ⟨w.heap.size,0,none⟩) 1 1]).run Tryz.prog w1=.ok (.slice (some ⟨g2,0,none⟩) (n+1) c2) w2/\BA w2 g2 (n+1) c2 (l++[b])/\Ch (λx=>x=g) w w2/\(g2=g\/w.heap.size<=g2):=by
 obtain⟨i0,hi0,hx0,hx1,hx2⟩:=info_parts Tryz.infoU
 have hgl:=h.bt.lt
 have h1:BA w1 g n cap l:=by rw[e];exact h.ch (((Ch.refl (λ_=>False) w).alloc _)) id
 have c1:Ch (λx=>x=g) w w1:=by rw[e];exact(Ch.refl _ w).alloc _
 have hnew:∀j u,[Value.int .u8 (b.toNat:Int)][j]? = some u->w1.cell? ((⟨w.heap.size,0,none⟩:Addr).add j)=some u:=by rw[e];exact news_new w 5 #[.int .u8 (b.toNat:Int)] _ rfl
 have hone:∀u∈[Value.int .u8 (b.toNat:Int)],u.oneCell'=true:=λu hu=>by rw[List.mem_singleton.1 hu];rfl
 have hs1:w.heap.size<=w1.heap.size:=c1.size
 by_cases hroom:n+1<=cap
 ·have hb:=h1
  obtain⟨cur,fr,k1,k2,k3,k4,k5,k6,k7⟩:=h1
  have hcell:(w1.cell? ⟨g,n,none⟩).isSome=true:=by
   rw[cell_of_row _ _ _ _ _ _ k1,Array.getElem?_eq_getElem (by omega)];rfl
  have hfr:w1.frozen? ⟨g,n,none⟩=false:=by
   have:=k7 n (by omega)
   simp only[World.frozen?,k1]
   simp only[Bool.and_eq_false_iff,decide_eq_false_iff_not]
   omega
  have hr:=run_append_room_cells (P:=Tryz.prog) w1 99 99 5 i0 Tryz.underlying99 hi0 g 0 n cap ⟨w.heap.size,0,none⟩ 1 1 [.int .u8 (b.toNat:Int)] (by rw[hx1];rfl) hnew hone hroom (λj hj=>by
   have:j=0:=by simp at hj;omega
   subst this
   rw[hx1];simpa using hcell) (λj hj=>by
   have:j=0:=by simp at hj;omega
   subst this
   rw[hx1];simpa using hfr)
  have e0:0+n*i0.size=n:=by rw[hx1];omega
  rw[e0] at hr
  refine⟨g,cap,_,hr,?_,?_,.inl rfl⟩
  ·refine⟨cur.setIfInBounds n (.int .u8 (b.toNat:Int)),fr,?_,by rw[List.length_append,k2];rfl,by simpa using k3,hroom,k5,λi hi=>?_,k7⟩
   ·show(w1.setCell ⟨g,n,none⟩ _).heap[g]? = _
    simp[World.setCell,Array.getElem?_modify,k1]
   ·by_cases ei:i=n
    ·subst ei
     rw[set_hit (by omega),List.getD_eq_getElem?_getD,List.getElem?_append_right (by omega),k2]
     simp
    ·rw[set_miss (Ne.symm ei),k6 i (by omega),List.getD_eq_getElem?_getD,List.getD_eq_getElem?_getD,List.getElem?_append_left (by omega)]
  ·exact c1.setCell (p:=⟨g,n,none⟩) (λ_=>rfl) _
 ·have hcap:cap=n:=by have:=h.le;omega
  have hol:∀j u,(bys l)[j]? = some u->w1.cell? ((⟨g,0,none⟩:Addr).add j)=some u:=λj u hu=>by
   obtain⟨cur,fr,k1,k2,k3,k4,k5,k6,k7⟩:=h1
   have hj:j<n:=by
    rcases Nat.lt_or_ge j n with h9|h9
    ·exact h9
    ·unfold bys at hu
     rw[List.getElem?_map,List.getElem?_eq_none (by omega)] at hu;cases hu
   have hadd:(⟨g,0,none⟩:Addr).add j=⟨g,j,none⟩:=by unfold Addr.add;split<;>simp_all
   rw[hadd,cell_of_row _ _ _ _ _ _ k1,k6 j hj,<-hu]
   unfold bys
   rw[List.getElem?_map,List.getD_eq_getElem?_getD,List.getElem?_eq_getElem (by omega)]
   rfl
  have hl:=h.len
  obtain⟨v',w2,hr,hown,hgr⟩:=run_append_arg_grows (P:=Tryz.prog) w1 99 99 5 i0 (.int .u8 0) 1 1 Tryz.underlying99 hi0 hx0 hx1 hx2 rfl (by omega) ⟨g,0,none⟩ n cap (bys l) (by simp[bys,hl]) hol ⟨w.heap.size,0,none⟩ 1 1 [.int .u8 (b.toNat:Int)] rfl hnew (by omega) (by simp only[maxLen];omega) (by omega)
  obtain⟨hln,hv|⟨g2,c2,cur,rfl,hb2,hh,hn2,hm2,hsz,ht⟩⟩:=hown
  ·omega
  ·refine⟨g2,c2,w2,hr,⟨cur,(0,0),hh,by rw[List.length_append,hl];rfl,by omega,hn2,hm2,λi hi=>?_,λi _=>by simp⟩,c1.trans (Ch.of_grown hgr λ_ hx _=>by cases hx),.inr (by omega)⟩
   have h2:(bys l++[Value.int .u8 (b.toNat:Int)])[i]? = cur[i]? := by rw[<-ht,List.getElem?_take_of_lt (by omega),Array.getElem?_toList]
   rw[<-h2]
   have e2:bys l++[Value.int .u8 (b.toNat:Int)]=bys (l++[b]):=by unfold bys;rw[List.map_append];rfl
   rw[e2]
   unfold bys
   rw[List.getElem?_map,List.getD_eq_getElem?_getD,List.getElem?_eq_getElem (by rw[List.length_append,hl];simpa using hi)]
   rfl
theorem Bt.strAt {w:World}{g n:Nat}{l:Str}(h:Bt w g n l)(o m c:Nat)(hm:o+m<=n):(convert 99 9 (.slice (some ⟨g,o,none⟩) m c)).run Tryz.prog w=.ok (.string ⟨((l.drop o).take m).toArray⟩) w:=by
 obtain⟨cur,fr,hh,h1,h2,_⟩:=h
 have hl:((l.drop o).take m).length=m:=by rw[List.length_take,List.length_drop];omega
 have:=run_convert_bytes_back (P:=Tryz.prog) w 99 9 5 ⟨g,o,none⟩ c ((l.drop o).take m) Tryz.underlying99 Tryz.underlying5 Tryz.underlying9 (λj hj=>by
  rw[hl] at hj
  rw[Addr.add_mid,cell_of_row _ _ _ _ _ _ hh,h2 (o+j) (by omega),List.getD_eq_getElem?_getD,List.getElem?_eq_getElem (by omega),List.getElem_take,List.getElem_drop]
  rfl)
 rw[hl] at this
 exact this
theorem chunks_get (n:Nat)(d:Str){i:Nat}(h:i<n):(chunks n d).getD i []=(d.drop (64*i)).take 64:=by
 unfold chunks
 rw[List.getD_eq_getElem?_getD,List.getElem?_map,List.getElem?_range h]
 rfl
theorem take_next {l:List Str}{i:Nat}(h:i<l.length):l.take (i+1)=l.take i++[l.getD i []]:=by
 rw[List.take_succ_eq_append_getElem h,List.getD_eq_getElem?_getD,List.getElem?_eq_getElem h]
 rfl
def lenV:Value->Nat
 | .slice _ n _=>n
 | _=>0
theorem rpages_any (d:ByteArray)(w:World)(h1:1<=d.size)(h2:d.size<=1000) :
  Calls Tryz.prog 96 #[.string d] w λe w'=>∃g cap,e=.returned (.slice (some ⟨g,0,none⟩) (pgs d.size) cap)/\PS w' g 0 cap (pagesR d.data.toList)/\w.heap.size<=g/\Below w.heap.size w w':=by
 obtain⟨iS,hiS,hxS0,hxS1,hxS2⟩:=info_parts Tryz.infoS
 obtain⟨cap,w1,hcv,hba,hbel⟩:=conv_ba w d (by omega)
 obtain⟨n,hn⟩:∃n,d.size=n:=⟨_,rfl⟩
 obtain⟨np,hnp⟩:∃np,pgs n=np:=⟨_,rfl⟩
 have hpg:(n+63)/64=np:=by rw[<-hnp];rfl
 rw[hn] at hcv hba h1 h2 ⊢
 rw[hnp]
 have HN:=Hh hn
 have HNP:=Hh hnp
 obtain⟨g0,hg0⟩:∃g,w.heap.size=g:=⟨_,rfl⟩
 have HB:Hid (BA w1 g0 n cap (d.data.toList++List.replicate (n-n) 255)/\g0<=g0/\Below g0 w w1):=by rw[<-hg0];exact⟨by simpa using hba,Nat.le_refl _,hbel⟩
 rw[hg0] at hcv ⊢
 have HG0:=Hh hg0
 clear hba hbel hn hnp hg0
 go_enter Tryz.func96,Tryz.ntmps96
 go_wp2_with fail
 clear hcv
 go_loopw [3] (λx wr=>∃(L g cap:Nat),n<=L/\L<=np*64/\x=.slice (some ⟨g,0,none⟩) L cap/\Hid (BA wr g L cap (d.data.toList++List.replicate (L-n) 255)/\g0<=g/\Below g0 w wr)) (λx _=>np*64-lenV x)
 case atStart=>exact⟨n,g0,cap,by omega,by omega,rfl,HB⟩
 case round=>
  clear HB
  obtain⟨L,g,cap,hL1,hL2,rfl,HB⟩:=hrel
  have hle:=HB.out.1.le
  by_cases hL:L%64=0
  ·have hm:(L:Int)%64=0:=by omega
   have hLn:L=np*64:=by omega
   subst hLn
   have HPD:Hid (d.data.toList++List.replicate (np*64-n) 255=pad d.data.toList/\pagesR d.data.toList=chunks np (pad d.data.toList)):=by
    have hdl:d.data.toList.length=n:=by rw[Array.length_toList];exact HN.out
    refine⟨?_,?_⟩
    ·unfold pad;rw[hdl,HNP.out]
    ·unfold pagesR;rw[hdl,HNP.out]
   have hba:=HB.out.1
   rw[HPD.out.1] at hba
   have HBA:=Hh hba
   have HB2:Hid (g0<=g/\Below g0 w wr):=HB.out.2
   have hgl:=hba.bt.lt
   obtain⟨wm,hwm⟩:∃wm:World,wm=wr:=⟨_,rfl⟩
   subst hwm
   have HO:Hid (OB wm wm 9 1 (.slice none 0 0) 0 (((pagesR d.data.toList).take 0).map str)):=OB.nil (Below.refl _ _)
   have hnpl:np*64<=1063:=by omega
   obtain⟨N,hN⟩:∃N,np*64=N:=⟨_,rfl⟩
   rw[hN] at HBA hle hnpl ⊢
   have hm2:(N:Int)%64=0:=by omega
   clear hba HB hm hL
   go_wp2_with fail
   clear hm2
   go_loopw [4,5] (λx z wr=>∃(i a:Nat) (vl:Value),i<=np/\Hid (a=64*i)/\vl=x/\z=.int .i64 (a:Int)/\Hid (OB wm wr 9 1 vl i (((pagesR d.data.toList).take i).map str))) (λ_ z _=>N-(intOf z).toNat)
   case atStart=>exact⟨0,0,_,by omega,rfl,rfl,rfl,HO⟩
   case round=>
    clear HO
    obtain⟨i,a,vl,hi,HA,hvl,rfl,HO⟩:=hrel
    subst hvl
    have ha:=HA.out
    by_cases hlt:i<np
    ·have y0:(a:Int)<N:=by omega
     have hb2:BA wr g N cap (pad d.data.toList):=HBA.out.ch (Ch.of_below HO.out.bel (λ_=>False)) id
     obtain⟨ck,hck⟩:∃ck:ByteArray,ck=⟨(((pad d.data.toList).drop a).take 64).toArray⟩:=⟨_,rfl⟩
     have hcv:∀c,(convert 99 9 (.slice (some ⟨g,a,none⟩) 64 c)).run Tryz.prog wr=.ok (.string ck) wr:=λc=>by
      rw[hck]
      exact hb2.bt.strAt a 64 c (by omega)
     have HT:Hid (((pagesR d.data.toList).take (i+1)).map str=((pagesR d.data.toList).take i).map str++[.string ck]):=by
      show _=_
      have hl:(pagesR d.data.toList).length=np:=by rw[HPD.out.2];simp[chunks]
      rw[take_next (by omega),List.map_append,hck,ha,<-chunks_get np _ hlt,<-HPD.out.2]
      rfl
     have HOW:=Hh (HO.out.below ((Below.refl _ wr).alloc (Nat.le_refl _) (.cells #[.string ck] 9)))
     have y1:(a:Int)+64<=N:=by omega
     have y2:a+64<=N:=by omega
     have y3:a<=N:=by omega
     have y4:(a:Int)<=(a:Int)+64:=by omega
     have y5:(a:Int)+64<=cap:=by omega
     clear hb2 hck ha
     go_wp2_with (at_builtin;refine wpList_append_lies _ rfl _ _ 37 rfl 0 9 iS _ 1 16 Tryz.underlying37 hiS hxS0 hxS1 hxS2 rfl (by omega) vl i (((pagesR d.data.toList).take i).map str) rfl (by exact HOW.out.row) ⟨wr.heap.size,0,none⟩ 1 1 [.string ck] rfl rfl (by exact news_new wr 9 #[.string ck] _ rfl) (by intro u hu;rw[List.mem_singleton.1 hu];rfl) (by omega) (by simp only[maxLen];omega) (by omega) (Nat.zero_le _) (wr.heap.size+1) (by simp) ?_)
     intro g1 cap1 w6 ho hg hat hbel
     have O2:=HO.out.take (m:=1) (news:=[.string ck]) HOW.out.bel (by simpa using ho) hg (by
      rcases hat with h|h
      ·exact .inl h
      ·right;have:=HO.out.bel.size;omega)
     rw[<-HT.out] at O2
     have HO6:=Hh O2
     clear ho hg hat hbel O2 HO HOW HT hcv
     go_wp2_with fail
     go_roundw
     case rel=>exact⟨i+1,a+64,_,by omega,(by show _=_;rw[HA.out];omega),rfl,by go_num,HO6⟩
     case measure=>simp[intOf];omega
    ·have y0:¬(a:Int)<N:=by omega
     have hin:i=np:=by omega
     subst hin
     have ho:=HO.out
     rw[List.take_of_length_le (by rw[HPD.out.2];simp[chunks])] at ho
     obtain⟨g1,c1,rfl,hg1,hc1,hc2,hr⟩:=ho.ps (by omega)
     have HPS:Hid (PS wr g1 0 c1 (pagesR d.data.toList)):=by
      have hl:(pagesR d.data.toList).length=i:=by rw[HPD.out.2];simp[chunks]
      refine⟨hr.lt,by omega,hc2,λj hj=>?_⟩
      rw[Nat.zero_add]
      exact hr.cell (by omega)
     have HBF:Hid (g0<=g1/\Below g0 w wr):=by
      have h0:=HB2.out.2.size
      rw[HG0.out] at h0
      exact⟨by omega,HB2.out.2.trans (ho.bel.mono h0)⟩
     clear ho hr HO hg1 ha
     go_wp2_with fail
     go_ret
     exact⟨_,_,rfl,HPS.out,HBF.out⟩
  ·obtain⟨m,hm0⟩:∃m,L%64=m:=⟨_,rfl⟩
   have hm:(L:Int)%64=(m:Int):=by omega
   have bm:((m:Int)==0)=false:=by rw[beq_eq_false_iff_ne];omega
   have hm1:¬(m:Int)=0:=by omega
   have hLn:L<np*64:=by omega
   obtain⟨g2,c2,w2,hr,hba,hch,hg2⟩:=HB.out.1.push 255 (by omega) rfl
   have HB2:Hid (BA w2 g2 (L+1) c2 (d.data.toList++List.replicate (L+1-n) 255)/\g0<=g2/\Below g0 w w2):=by
    have h0:=HB.out.2.2.size
    rw[HG0.out] at h0
    refine⟨?_,?_,HB.out.2.2.trans (hch.below h0 (λx hx=>by rw[hx];exact HB.out.2.1))⟩
    ·rw[show L+1-n=(L-n)+1 by omega,List.replicate_succ',<-List.append_assoc];exact hba
    ·have:=HB.out.2.1
     rcases hg2 with h|h<;>omega
   have h255:((255:UInt8).toNat:Int)=255:=rfl
   rw[h255] at hr
   clear hba hch hg2 h255 hm0
   go_wp2_with (at_builtin;refine wpList_append_run rfl _ _ 99 rfl rfl _ _ _ _ rfl rfl (by exact hr) ?_)
   clear hr
   go_wp2_with fail
   go_roundw
   case rel=>exact⟨L+1,g2,c2,by omega,by omega,rfl,HB2⟩
   case measure=>simp[lenV];omega
section
variable {w:World}{D:Nat->Prop}{X:Nat}{y:RLay}{fl:FL}
theorem RW.p64 (h:RW w D X y fl){b:Nat}(hb:b<fl.B):P64 (pgsF fl b):=λp hp=>by
 unfold pgsF at hp
 obtain⟨q,hq,rfl⟩:=List.mem_map.1 hp
 exact h.len b q hb (List.mem_range.1 hq)
theorem rsmall_any (h:RW w D X y fl):Calls Tryz.prog 92 #[fptr X] w λe w'=>e=.returned (.bool (decide (fl.B<2)||decide (fl.P<2)))/\w=w':=by
 have c0:=h.c0
 have c1:=h.c1
 have hB:=h.hB
 have hP:=h.hP
 clear h
 go_enter Tryz.func92,Tryz.ntmps92
 go_wp2_with fail
 all_goals
  go_ret
  refine⟨?_,rfl⟩
  show Ending.returned (Value.bool _)=Ending.returned (Value.bool _)
  congr 2
  rw[Bool.eq_iff_iff]
  simp at *
  try omega
theorem rblock_any (h:RW w D X y fl){b q:Nat}(hb:b<fl.B)(hq:q<=fl.P):Calls Tryz.prog 103 #[fptr X,.int .i64 b,.int .i64 q] w λe w'=>e=.returned (str ((pgsF fl b).drop q).flatten)/\w=w':=by
 have c1:=h.c1
 have c3:=h.c3
 have cs:=h.cs hb
 have hpc:=h.pc
 have hB:=h.hB
 have hP:=h.hP
 have hcp:=h.cp b hb
 have hbI:(b:Int)<fl.B:=by omega
 have hp64:=h.p64 hb
 have H:=Hh h
 have HP64:Hid (∀p∈pgsF fl b,p.length=64):=hp64
 have h0:Hid ((⟨#[]⟩:ByteArray).data.toList=(((pgsF fl b).drop q).take 0).flatten):=rfl
 clear h hp64
 go_enter Tryz.func103,Tryz.ntmps103
 go_wp2_with fail
 go_loop [7,8] (λx z=>∃(j k:Nat) (s:ByteArray),q+j=k/\k<=fl.P/\x=.string s/\z=.int .i64 (k:Int)/\Hid (s.data.toList=(((pgsF fl b).drop q).take j).flatten)) (λ_ z=>fl.P-(intOf z).toNat)
 case atStart=>exact⟨0,q,_,rfl,hq,rfl,rfl,h0⟩
 case round=>
  clear h0
  obtain⟨j,k,s,hjk,hk,rfl,rfl,HS⟩:=hrel
  have hdl:((pgsF fl b).drop q).length=fl.P-q:=by rw[List.length_drop,pgsF_len]
  have hss:s.size<=2048:=by
   have h1:s.data.toList.length=s.size:=Array.length_toList
   rw[<-h1,HS.out,flat_len _ (λp hp=>HP64.out p (List.mem_of_mem_drop (List.mem_of_mem_take hp)))]
   have:=List.length_take_le j ((pgsF fl b).drop q)
   have h3:(((pgsF fl b).drop q).take j).length<=32:=by rw[List.length_take];omega
   omega
  by_cases hlt:k<fl.P
  ·have y0:(k:Int)<fl.P:=by omega
   have cg:=H.out.cg hb hlt
   obtain⟨pe,hpe⟩:∃pe:ByteArray,str (fl.pg b k)=.string pe:=⟨_,rfl⟩
   have hpl:pe.data.toList=fl.pg b k:=by injection hpe with hpe;rw[<-hpe]
   have hps:pe.size=64:=by
    have:=H.out.len b k hb hlt
    rw[<-hpl,Array.length_toList] at this
    exact this
   rw[hpe] at cg
   have HS2:Hid ((s++pe).data.toList=(((pgsF fl b).drop q).take (j+1)).flatten):=by
    show _=_
    rw[take_next (by rw[hdl];omega),List.flatten_append,ByteArray.data_append,Array.toList_append,HS.out,hpl]
    congr 1
    rw[List.getD_eq_getElem?_getD,List.getElem?_drop,<-List.getD_eq_getElem?_getD,hjk,pgsF_get fl b k hlt]
    simp
   have q1:¬9223372036854775807<s.size+pe.size:=by omega
   have hjk2:q+(j+1)=k+1:=by omega
   clear hpe hpl hss HS hdl hjk
   go_wp2_with fail
   go_round
   case rel=>exact⟨j+1,k+1,s++pe,hjk2,by omega,rfl,by go_num,HS2⟩
   case measure=>simp[intOf];omega
  ·have y0:¬(k:Int)<fl.P:=by omega
   have hs:=HS.out
   rw[List.take_of_length_le (by rw[hdl];omega)] at hs
   have HF:Hid (Value.string s=str ((pgsF fl b).drop q).flatten):=str_of hs
   clear hs HS hdl hjk
   go_wp2_with fail
   go_ret
   exact⟨by rw[<-HF.out];rfl,rfl⟩
theorem zeros_one (l:Str):zeros l=0↔∀x∈l,x=255:=by
 constructor
 ·intro h x hx
  rw[zeros_zero h] at hx
  exact List.eq_of_mem_replicate hx
 ·intro h
  have:l=List.replicate l.length 255:=List.eq_replicate_iff.2 ⟨rfl,h⟩
  rw[this,zeros_ff]
theorem blankP_flat (ps:List Str):blankP ps=true↔∀x∈ps.flatten,x=255:=by
 unfold blankP
 rw[List.all_eq_true]
 constructor
 ·intro h x hx
  obtain⟨p,hp,hx⟩:=List.mem_flatten.1 hx
  exact(zeros_one p).1 (by simpa using h p hp) x hx
 ·intro h p hp
  have:=(zeros_one p).2 λx hx=>h x (List.mem_flatten.2 ⟨p,hp,hx⟩)
  simpa using this
theorem rblank_any (h:RW w D X y fl){b:Nat}(hb:b<fl.B):Calls Tryz.prog 93 #[fptr X,.int .i64 b] w λe w'=>e=.returned (.bool (blankP (pgsF fl b)))/\w=w':=by
 have HBK:=Hh (rblock_any h hb (q:=0) (Nat.zero_le _))
 obtain⟨s,hs⟩:∃s:ByteArray,str ((pgsF fl b).drop 0).flatten=.string s:=⟨_,rfl⟩
 rw[hs] at HBK
 have hsl:s.data.toList=(pgsF fl b).flatten:=by injection hs with hs;rw[<-hs];rfl
 have hss:s.size=fl.P*64:=by
  have:=flat_len _ (h.p64 hb)
  rw[<-hsl,Array.length_toList,pgsF_len] at this
  exact this
 have hP:=h.hP
 have HBL:Hid (blankP (pgsF fl b)=true↔∀x∈s.data.toList,x=255):=by show _↔_;rw[hsl];exact blankP_flat _
 generalize blankP (pgsF fl b)=res at *
 obtain⟨N,hN⟩:∃N,s.size=N:=⟨_,rfl⟩
 have hN2:N<=2048:=by omega
 have HN:=Hh hN
 clear h hs hsl hss
 go_enter Tryz.func93,Tryz.ntmps93
 go_wp2_with fail
 refine HBK.out.mono ?_
 rintro e w' ⟨rfl,rfl⟩
 go_wp2_with fail
 clear hN
 go_loop [6] (λz=>∃i:Nat,i<=N/\z=.int .i64 (i:Int)/\Hid (∀j,j<i->s.data.toList.getD j 0=255)) (λz=>N-(intOf z).toNat)
 case atStart=>exact⟨0,by omega,rfl,λj hj=>by omega⟩
 case round=>
  obtain⟨i,hi,rfl,HJ⟩:=hrel
  have hN:=HN.out
  have hsl:s.data.toList.length=s.size:=Array.length_toList
  by_cases hlt:i<N
  ·have y0:(i:Int)<N:=by omega
   have hls:i<s.size:=by omega
   have hgi:s.data.toList.getD i 0=s[i]'hls:=by
    rw[List.getD_eq_getElem?_getD,List.getElem?_eq_getElem (by omega)];rfl
   by_cases he:s[i]'hls=255
   ·have h255:((s[i]'hls).toNat:Int)=255:=by rw[he];rfl
    have HJ2:Hid (∀j,j<i+1->s.data.toList.getD j 0=255):=λj hj=>by
     rcases(by omega:j<i\/j=i) with h1|h1
     ·exact HJ.out j h1
     ·rw[h1,hgi];exact he
    clear hgi he hsl
    go_wp2_with fail
    go_round
    case rel=>exact⟨i+1,by omega,by go_num,HJ2⟩
    case measure=>simp[intOf];omega
   ·have hb5:(((s[i]'hls).toNat:Int)==255)=false:=by
     rw[beq_eq_false_iff_ne]
     intro h9
     apply he
     apply UInt8.toNat_inj.1
     have:((255:UInt8).toNat:Int)=255:=rfl
     omega
    have hn5:¬((s[i]'hls).toNat:Int)=255:=by simpa using hb5
    have HF:Hid (res=false):=by
     show _=_
     cases hr:res
     ·rfl
     ·have:=(HBL.out.1 hr) (s[i]'hls) (by
       have h2:i<s.data.toList.length:=by omega
       have:=List.getElem_mem h2
       exact this)
      exact absurd this he
    clear hgi he hsl
    go_wp2_with fail
    go_ret
    exact⟨by rw[HF.out];rfl,rfl⟩
  ·have y0:¬(i:Int)<N:=by omega
   have HF:Hid (res=true):=HBL.out.2 λx hx=>by
    obtain⟨j,hj,rfl⟩:=List.getElem_of_mem hx
    have:=HJ.out j (by omega)
    rw[List.getD_eq_getElem?_getD,List.getElem?_eq_getElem hj] at this
    exact this
   clear hsl
   go_wp2_with fail
   go_ret
   exact⟨by rw[HF.out];rfl,rfl⟩
end
theorem decF_iff {F:Str}{k n v:Nat}(hk:k=(F.getD 0 0).toNat)(hn:n=(F.getD 1 0).toNat)(hv:v=(F.getD 2 0).toNat)(hok:okLens k n v=true)(hlen:5+n+v<=F.length) :
  decF F=if pgs (5+n+v)*64<=F.length/\F.take (pgs (5+n+v)*64)=pad (recd k ((F.drop 5).take n) ((F.drop (5+n)).take v)) then some (k,(F.drop 5).take n,(F.drop (5+n)).take v,pgs (5+n+v)) else none:=by
 have l1:((F.drop 5).take n).length=n:=by rw[List.length_take,List.length_drop];omega
 have l2:((F.drop (5+n)).take v).length=v:=by rw[List.length_take,List.length_drop];omega
 by_cases hc:pgs (5+n+v)*64<=F.length/\F.take (pgs (5+n+v)*64)=pad (recd k ((F.drop 5).take n) ((F.drop (5+n)).take v))
 ·rw[if_pos hc]
  have hF:F=pad (recd k ((F.drop 5).take n) ((F.drop (5+n)).take v))++F.drop (pgs (5+n+v)*64):=by
   rw[<-hc.2,List.take_append_drop]
  have hd:=decF_pad (k:=k) (n:=(F.drop 5).take n) (v:=(F.drop (5+n)).take v) (by rw[l1,l2];exact hok) (F.drop (pgs (5+n+v)*64))
  rw[<-hF,l1,l2] at hd
  exact hd
 ·rw[if_neg hc]
  cases hd:decF F with
  | none=>rfl
  | some q=>
   exfalso
   apply hc
   obtain⟨k',n',v',c'⟩:=q
   have hs:=decF_some hd
   have hd':=hd
   unfold decF at hd'
   rw[<-hk,<-hn,<-hv,if_neg (by rw[hok];simp)] at hd'
   split at hd'
   ·cases hd'
   ·split at hd'
    ·simp only[Option.some.injEq,Prod.mk.injEq] at hd'
     obtain⟨e1,e2,e3,e4⟩:=hd'
     obtain⟨s1,s2,s3,s4⟩:=hs
     rw[<-e4] at s3 s4
     refine⟨s4,?_⟩
     rw[e1,e2,e3]
     have hp:(pad (recd k' n' v')).length=pgs (5+n+v)*64:=by
      rw[pad_len,recd_len,<-s2,<-e4]
     conv=>lhs;rw[s3]
     exact List.take_left' hp
    ·cases hd'
def rdOk (o:Option (Nat×Str×Str×Nat))(a0 a1 a2 a3:Value)(ok:Bool):Prop:=
 (∀k n v c,o=some (k,n,v,c)->ok=true/\a0=.int .u8 (k:Int)/\a1=str n/\a2=str v/\a3=.int .i64 (c:Int))/\(o=none->ok=false)
def RdP (o:Option (Nat×Str×Str×Nat))(B:Nat)(w:World)(e:Ending)(w':World):Prop:=∃(k0:Int) (n0 v0:ByteArray) (c0:Int) (ok:Bool),e=.returned (.tuple #[.agg #[.int .u8 k0,.string n0,.string v0,.int .i64 c0],.bool ok])/\rdOk o (.int .u8 k0) (.string n0) (.string v0) (.int .i64 c0) ok/\Below B w w'
theorem Row.load4r {w:World}{B:Nat}{v:Nat->Value}(h:Row w B 169 4 v):(loadVar 169 ⟨B,0,none⟩).run Tryz.prog w=.ok (.agg #[v 0,v 1,v 2,v 3]) w:=
 run_loadVar_row w B 169 _ _ (0,0) _ h.arr4 Tryz.underlying169 rfl (by kernel_rfl)
theorem rd_end {w W:World}{R:Nat}{vv:Nat->Value}{o:Option (Nat×Str×Str×Nat)}(hb:Below R w W)(hr:Row W R 169 4 vv)(k0:Int)(n0 v0:ByteArray)(c0:Int)(ok:Bool){tmps:Array Value}
  (hp:tmps.getD 2 undef=.pointer (some ⟨R,0,none⟩)) (hy:tmps.getD 3 undef=.bool ok) (hQ:rdOk o (.int .u8 k0) (.string n0) (.string v0) (.int .i64 c0) ok) :
  bodyPost Tryz.prog Tryz.f102 (λe w'=>RdP o R w e w') Exit.ret { tmps:=tmps,defers:=[] } ((((W.setCell ⟨R,0,none⟩ (.int .u8 k0)).setCell ⟨R,1,none⟩ (.string n0)).setCell ⟨R,2,none⟩ (.string v0)).setCell ⟨R,3,none⟩ (.int .i64 c0)):=
 bodyPost_ret (v:=.tuple #[.agg #[.int .u8 k0,.string n0,.string v0,.int .i64 c0],.bool ok]) (res2 rfl _ _ R #[.int .u8 k0,.string n0,.string v0,.int .i64 c0] (.bool ok) hp hy ((hr.set4 (.int .u8 k0) (.string n0) (.string v0) (.int .i64 c0)).load4r)) rfl
  ⟨k0,n0,v0,c0,ok,rfl,hQ,(((hb.setCell (p:=⟨R,0,none⟩) (Nat.le_refl _) _).setCell (p:=⟨R,1,none⟩) (Nat.le_refl _) _).setCell (p:=⟨R,2,none⟩) (Nat.le_refl _) _).setCell (p:=⟨R,3,none⟩) (Nat.le_refl _) _⟩
theorem rread_any (s:ByteArray)(w:World)(h1:64<=s.size)(h2:s.size<=2048) :
  Calls Tryz.prog 102 #[.string s] w λe w'=>RdP (decF s.data.toList) w.heap.size w e w':=by
 have p0:0<s.size:=by omega
 have p1:1<s.size:=by omega
 have p2:2<s.size:=by omega
 have hsl:s.data.toList.length=s.size:=Array.length_toList
 have B0:Below w.heap.size w (w.alloc (.cells #[.int .u8 0,.string ⟨#[]⟩,.string ⟨#[]⟩,.int .i64 0] 169)):=(Below.refl _ _).alloc (Nat.le_refl _) _
 obtain⟨w1,hw1⟩:∃w1,(w.alloc (.cells #[.int .u8 0,.string ⟨#[]⟩,.string ⟨#[]⟩,.int .i64 0] 169)).drew=w1:=⟨_,rfl⟩
 have HR1:Hid (Row w1 w.heap.size 169 4 (λj=>if j=0 then .int .u8 0 else if j=1 then str [] else if j=2 then str [] else .int .i64 0)):=by
  rw[<-hw1]
  have:=Row.ofList w 169 #[.int .u8 0,.string ⟨#[]⟩,.string ⟨#[]⟩,.int .i64 0] (λj=>if j=0 then .int .u8 0 else if j=1 then str [] else if j=2 then str [] else .int .i64 0) 4 rfl
  exact this.drew
 have HB1:Hid (Below w.heap.size w w1):=by rw[<-hw1];exact B0.drew
 have y5:¬(s.size:Int)<5:=by omega
 obtain⟨k,hk⟩:∃k,(s[0]'p0).toNat=k:=⟨_,rfl⟩
 obtain⟨n,hn⟩:∃n,(s[1]'p1).toNat=n:=⟨_,rfl⟩
 obtain⟨v,hv⟩:∃v,(s[2]'p2).toNat=v:=⟨_,rfl⟩
 have hk0:k=(s.data.toList.getD 0 0).toNat:=by rw[<-hk,List.getD_eq_getElem?_getD,List.getElem?_eq_getElem (by omega)];rfl
 have hn0:n=(s.data.toList.getD 1 0).toNat:=by rw[<-hn,List.getD_eq_getElem?_getD,List.getElem?_eq_getElem (by omega)];rfl
 have hv0:v=(s.data.toList.getD 2 0).toNat:=by rw[<-hv,List.getD_eq_getElem?_getD,List.getElem?_eq_getElem (by omega)];rfl
 have hk8:k<256:=by rw[<-hk];exact(s[0]'p0).toNat_lt
 have hn8:n<256:=by rw[<-hn];exact(s[1]'p1).toNat_lt
 have hv8:v<256:=by rw[<-hv];exact(s[2]'p2).toNat_lt
 have HFT:Hid (∀W,Calls Tryz.prog 108 #[.int .u8 (k:Int),.int .i64 (n:Int),.int .i64 (v:Int)] W λe w'=>e=.returned (.bool (okLens k n v))/\W=w'):=λ W=>rfits_any k n v W (by omega) (by omega)
 have HD1:Hid (okLens k n v=false->decF s.data.toList=none):=λh=>by
  show _=_
  unfold decF
  rw[<-hk0,<-hn0,<-hv0,if_pos h]
 have HD2:Hid (s.size<5+n+v->decF s.data.toList=none):=λh=>by
  show _=_
  have hp:5+n+v<=pgs (5+n+v)*64:=pgs_le _
  unfold decF
  rw[<-hk0,<-hn0,<-hv0,hsl,if_pos (show s.size<pgs (5+n+v)*64 by omega)]
  simp
 have HD3:=Hh (decF_iff hk0 hn0 hv0)
 rw[hsl] at HD3
 have wn:IntKind.i64.wrap (n:Int)=(n:Int):=IntWalk.i64_in _ ⟨by omega,by omega⟩
 have wv:IntKind.i64.wrap (v:Int)=(v:Int):=IntWalk.i64_in _ ⟨by omega,by omega⟩
 obtain⟨R,hR⟩:∃R,w.heap.size=R:=⟨_,rfl⟩
 rw[hR] at HR1 HB1 ⊢
 have HRS:=Hh hR
 clear hk0 hn0 hv0 hsl B0 hR
 go_enter Tryz.func102,Tryz.ntmps102
 go_wp2_with fail
 refine wp_region_pl (λ_=>True) ((0,0)::(1,0)::(2,0)::(3,0)::(4,0)::(5,0)::(6,0)::(7,0)::(8,0)::(9,0)::(10,0)::(11,0)::(12,0)::(13,0)::(14,0)::[]) (by kernel_rfl) (by kernel_rfl) ?_
 have y5:decide ((s.size:Int)<5)=false:=by simp;omega
 have p0I:(0:Int)<(s.size:Int):=by omega
 have p1I:(1:Int)<(s.size:Int):=by omega
 have p2I:(2:Int)<(s.size:Int):=by omega
 iterate 12 (apply wpP_go;rfl;rfl;exact trivial;(rintro Z _;go_simp;exact rfl);intro K hK;go_simp;refine hK _ ?_;clear hK K)
 apply wpP_call
 rfl
 rfl
 exact trivial
 focus (rintro Z _;go_simp;exact⟨rfl,rfl⟩)
 focus (intro Z _;exact HFT.out Z)
 intro K hK
 go_simp
 refine hK _ ?_
 clear hK K
 iterate 2 (apply wpP_go;rfl;rfl;exact trivial;(rintro Z _;go_simp;exact rfl);intro K hK;go_simp;refine hK _ ?_;clear hK K)
 refine wpP_done ?_
 rw[hw1,HRS.out]
 clear hw1 y5
 have r0:=HR1.out.cell (i:=0) (by omega)
 have r1:=HR1.out.cell (i:=1) (by omega)
 have r2:=HR1.out.cell (i:=2) (by omega)
 have r3:=HR1.out.cell (i:=3) (by omega)
 have f0:=HR1.out.frozen 0
 have f1:=HR1.out.frozen 1
 have f2:=HR1.out.frozen 2
 have f3:=HR1.out.frozen 3
 rcases hok:okLens k n v with _|_
 ·have HN:Hid (rdOk (decF s.data.toList) (.int .u8 0) (str []) (str []) (.int .i64 0) false):=⟨λk' n' v' c' h=>(by rw[HD1.out hok] at h;cases h),λ_=>rfl⟩
  go_wp2_with fail
  exact rd_end HB1.out HR1.out _ _ _ _ _ rfl rfl HN.out
 ·obtain⟨L,hL⟩:∃L,5+n+v=L:=⟨_,rfl⟩
  have hLI:(5:Int)+(n:Int)+(v:Int)=(L:Int):=by omega
  go_wp2_with fail
  refine wp_region_pl (λ_=>True) ((0,0)::(1,0)::(2,0)::(3,0)::(4,0)::(5,0)::(6,0)::(7,0)::[]) (by kernel_rfl) (by kernel_rfl) ?_
  iterate 8 (apply wpP_go;rfl;rfl;exact trivial;(rintro Z _;go_simp;exact rfl);intro K hK;go_simp;refine hK _ ?_;clear hK K)
  refine wpP_done ?_
  have HR2:Hid (Row w1.drew R 169 4 (λj=>if j=0 then .int .u8 0 else if j=1 then str [] else if j=2 then str [] else .int .i64 0)):=HR1.out.drew
  have HB2:Hid (Below R w w1.drew):=HB1.out.drew
  clear HR1 HB1 r0 r1 r2 r3 f0 f1 f2 f3
  generalize w1.drew=w2 at *
  have r0:=HR2.out.cell (i:=0) (by omega)
  have r1:=HR2.out.cell (i:=1) (by omega)
  have r2:=HR2.out.cell (i:=2) (by omega)
  have r3:=HR2.out.cell (i:=3) (by omega)
  have f0:=HR2.out.frozen 0
  have f1:=HR2.out.frozen 1
  have f2:=HR2.out.frozen 2
  have f3:=HR2.out.frozen 3
  by_cases hsh:s.size<L
  ·have hshI:(s.size:Int)<L:=by omega
   have HN:Hid (rdOk (decF s.data.toList) (.int .u8 0) (str []) (str []) (.int .i64 0) false):=⟨λk' n' v' c' h=>(by rw[HD2.out (by omega)] at h;cases h),λ_=>rfl⟩
   go_wp2_with fail
   exact rd_end HB2.out HR2.out _ _ _ _ _ rfl rfl HN.out
  ·have hshI:¬(s.size:Int)<L:=by omega
   clear r0 r1 r2 r3 f0 f1 f2 f3
   go_wp2_with fail
   have a1:(0:Int)<=5+(n:Int):=by omega
   have a2:(5:Int)+(n:Int)<=(s.size:Int):=by omega
   have a3:(5:Int)<=5+(n:Int):=by omega
   have a4:(L:Int)<=(s.size:Int):=by omega
   have a5:(5:Int)+(n:Int)<=(L:Int):=by omega
   have p0J:(0:Int)<(s.size:Int):=by omega
   have hwL:IntKind.i64.wrap (L:Int)=(L:Int):=IntWalk.i64_in _ ⟨by omega,by omega⟩
   have a6:(0:Int)<=(L:Int):=by omega
   have hw5:IntKind.i64.wrap (5+(n:Int))=5+(n:Int):=IntWalk.i64_in _ ⟨by omega,by omega⟩
   refine wp_region_pl (λ_=>True) ((0,0)::(1,0)::(2,0)::(3,0)::(4,0)::(5,0)::(6,0)::(7,0)::(8,0)::(9,0)::(10,0)::(11,0)::(12,0)::(13,0)::(14,0)::(15,1)::(16,1)::[]) (by kernel_rfl) (by kernel_rfl) ?_
   iterate 15 (apply wpP_go;rfl;rfl;exact trivial;(rintro Z _;go_simp;exact rfl);intro K hK;go_simp;refine hK _ ?_;clear hK K)
   apply wpP_one
   rfl
   intro K hK
   go_simp
   refine hK _ _ trivial ?_
   clear hK K
   apply wpP_one
   rfl
   intro K hK
   go_simp
   refine hK _ _ trivial ?_
   clear hK K
   refine wpP_done ?_
   obtain⟨nm,hnm⟩:∃nm:ByteArray,s.extract 5 (5+(n:Int)).toNat=nm:=⟨_,rfl⟩
   obtain⟨vl,hvl⟩:∃vl:ByteArray,s.extract (5+(n:Int)).toNat L=vl:=⟨_,rfl⟩
   have e5:(5+(n:Int)).toNat=5+n:=by omega
   have hnml:nm.data.toList=(s.data.toList.drop 5).take n:=by rw[<-hnm,e5,ext_toList];congr 1;omega
   have hvll:vl.data.toList=(s.data.toList.drop (5+n)).take v:=by rw[<-hvl,e5,ext_toList];congr 1;omega
   have hnms:nm.size=n:=by rw[<-hnm,e5,ext_size _ _ _ (by omega)];omega
   have hvls:vl.size=v:=by rw[<-hvl,e5,ext_size _ _ _ (by omega)];omega
   rw[hnm,hvl]
   have hd3:=HD3.out hok (by omega)
   rw[<-hnml,<-hvll] at hd3
   clear hnm hvl hnml hvll a1 a2 a3 a5 a6 hw5 hwL
   obtain⟨w3,hw3⟩:∃w3,(w2.alloc (.cells #[.int .u8 k,.string nm,.string vl,.int .i64 0] 169)).drew=w3:=⟨_,rfl⟩
   have B3:Below w2.heap.size w2 w3:=by rw[<-hw3];exact((Below.refl _ _).alloc (Nat.le_refl _) _).drew
   obtain⟨T,hT⟩:∃T,w2.heap.size=T:=⟨_,rfl⟩
   have HRT:Hid (Row w3 T 169 4 (λj=>if j=0 then .int .u8 k else if j=1 then .string nm else if j=2 then .string vl else .int .i64 0)):=by
    rw[<-hw3,<-hT]
    have:=Row.ofList w2 169 #[.int .u8 k,.string nm,.string vl,.int .i64 0] (λj=>if j=0 then .int .u8 k else if j=1 then .string nm else if j=2 then .string vl else .int .i64 0) 4 rfl
    exact this.drew
   have HR3:Hid (Row w3 R 169 4 (λj=>if j=0 then .int .u8 0 else if j=1 then str [] else if j=2 then str [] else .int .i64 0)):=HR2.out.ch (Ch.of_below B3 (λ_=>False)) id
   have HB3:Hid (Below R w w3):=HB2.out.trans (B3.mono (by have:=HB2.out.size;rw[HRS.out] at this;exact this))
   have hRT:R<T:=by rw[<-hT];exact HR2.out.lt
   rw[hw3,hT]
   clear HR2 HB2 B3 hT hw3
   have t0:w3.cell? ⟨T,0,none⟩=some (.int .u8 k):=HRT.out.cell (i:=0) (by omega)
   have t1:w3.cell? ⟨T,1,none⟩=some (.string nm):=HRT.out.cell (i:=1) (by omega)
   have t2:w3.cell? ⟨T,2,none⟩=some (.string vl):=HRT.out.cell (i:=2) (by omega)
   have HEN:=Hh (rrecord_any k nm vl w3 (by omega) (by omega) (by omega))
   obtain⟨er,her⟩:∃er:ByteArray,er=⟨(recd k nm.data.toList vl.data.toList).toArray⟩:=⟨_,rfl⟩
   have herl:er.data.toList=recd k nm.data.toList vl.data.toList:=by rw[her]
   have hers:er.size=5+n+v:=by
    have h9:er.data.toList.length=er.size:=Array.length_toList
    have l1:nm.data.toList.length=nm.size:=Array.length_toList
    have l2:vl.data.toList.length=vl.size:=Array.length_toList
    rw[<-h9,herl,recd_len,l1,l2,hnms,hvls]
   rw[<-her] at HEN
   rw[<-herl] at hd3
   have HD4:=Hh hd3
   have HERL:=Hh herl
   have HERS:=Hh hers
   clear hd3 her herl hers
   go_wp2_with fail
   refine HEN.out.mono ?_
   rintro e w4 ⟨rfl,b4⟩
   have HT4:Hid (Row w4 T 169 4 (λj=>if j=0 then .int .u8 k else if j=1 then .string nm else if j=2 then .string vl else .int .i64 0)):=HRT.out.ch (Ch.of_below b4 (λ_=>False)) id
   have HR4:Hid (Row w4 R 169 4 (λj=>if j=0 then .int .u8 0 else if j=1 then str [] else if j=2 then str [] else .int .i64 0)):=HR3.out.ch (Ch.of_below b4 (λ_=>False)) id
   have hs3:=HB3.out.size
   rw[HRS.out] at hs3
   have HB4:Hid (Below R w w4):=HB3.out.trans (b4.mono hs3)
   have HPG:=Hh (rpages_any er w4 (by have:=HERS.out;omega) (by have:=HERS.out;omega))
   obtain⟨c,hcd⟩:∃c,pgs (5+n+v)=c:=⟨_,rfl⟩
   have hc9:c<=9:=by rw[<-hcd];unfold pgs;omega
   have hc1:1<=c:=by rw[<-hcd];unfold pgs;omega
   rw[HERS.out,hcd] at HPG
   have HCD:=Hh hcd
   rw[hcd] at HD4
   clear b4 HRT HR3 HB3 hs3 HEN t0 t1 t2 hcd
   go_wp2_with fail
   refine HPG.out.mono ?_
   rintro e w5 ⟨g,cap,rfl,hps,hg5,b5⟩
   have HPS:=Hh hps
   have HT5:Hid (Row w5 T 169 4 (λj=>if j=0 then .int .u8 k else if j=1 then .string nm else if j=2 then .string vl else .int .i64 0)):=HT4.out.ch (Ch.of_below b5 (λ_=>False)) id
   have HR5:Hid (Row w5 R 169 4 (λj=>if j=0 then .int .u8 0 else if j=1 then str [] else if j=2 then str [] else .int .i64 0)):=HR4.out.ch (Ch.of_below b5 (λ_=>False)) id
   have hs4:=HB4.out.size
   rw[HRS.out] at hs4
   have HB5:Hid (Below R w w5):=HB4.out.trans (b5.mono hs4)
   have hTg:g≠T:=by have:=HT4.out.lt;omega
   have t3:w5.cell? ⟨T,3,none⟩=some (.int .i64 0):=HT5.out.cell (i:=3) (by omega)
   have ft3:=HT5.out.frozen 3
   have HT6:Hid (Row (w5.setCell ⟨T,3,none⟩ (.int .i64 (c:Int))) T 169 4 (λj=>if j=0 then .int .u8 k else if j=1 then .string nm else if j=2 then .string vl else .int .i64 (c:Int))):=(HT5.out.set (i:=3) (by omega) _).congr λj hj=>by
    rcases(by omega:j=0\/j=1\/j=2\/j=3) with rfl|rfl|rfl|rfl<;>rfl
   have HR6:Hid (Row (w5.setCell ⟨T,3,none⟩ (.int .i64 (c:Int))) R 169 4 (λj=>if j=0 then .int .u8 0 else if j=1 then str [] else if j=2 then str [] else .int .i64 0)):=HR5.out.far (p:=⟨T,3,none⟩) (by show R≠T;omega) _
   have HB6:Hid (Below R w (w5.setCell ⟨T,3,none⟩ (.int .i64 (c:Int)))):=HB5.out.setCell (p:=⟨T,3,none⟩) (by show R<=T;omega) _
   have HPS6:Hid (PS (w5.setCell ⟨T,3,none⟩ (.int .i64 (c:Int))) g 0 cap (pagesR er.data.toList)):=HPS.out.ch ((Ch.refl (λx=>x=T) w5).setCell (p:=⟨T,3,none⟩) (λ_=>rfl) _) hTg
   have hpl:(pagesR er.data.toList).length=c:=by
    have h9:er.data.toList.length=er.size:=Array.length_toList
    rw[pagesR_len,h9,HERS.out,HCD.out]
   have hcc:c<=cap:=by have:=HPS.out.2.1;omega
   have HPL:=Hh hpl
   have h0:Hid ((⟨#[]⟩:ByteArray).data.toList=((pagesR er.data.toList).take 0).flatten):=rfl
   clear hps b5 HPG HPS HT4 HR4 HB4 HT5 HR5 HB5 hs4 hpl hg5
   go_wp2_with fail
   generalize w5.setCell ⟨T,3,none⟩ (.int .i64 (c:Int))=w6 at *
   clear t3 ft3
   go_loop [8,9] (λx z=>∃(i:Nat) (sb:ByteArray),i<=c/\x=.string sb/\z=.int .i64 (i:Int)/\Hid (sb.data.toList=((pagesR er.data.toList).take i).flatten)) (λ_ z=>c-(intOf z).toNat)
   case atStart=>exact⟨0,_,by omega,rfl,rfl,h0⟩
   case round=>
    clear h0
    obtain⟨i,sb,hi,rfl,rfl,HSB⟩:=hrel
    have hsb:sb.size=i*64:=by
     have h9:sb.data.toList.length=sb.size:=Array.length_toList
     rw[<-h9,HSB.out,flat_len _ (λp hp=>pagesR_64 _ p (List.mem_of_mem_take hp)),List.length_take,HPL.out,Nat.min_eq_left hi]
    by_cases hlt:i<c
    ·have z0:(i:Int)<c:=by omega
     obtain⟨pe,hpe⟩:∃pe:ByteArray,str ((pagesR er.data.toList).getD i [])=.string pe:=⟨_,rfl⟩
     have hpel:pe.data.toList=(pagesR er.data.toList).getD i []:=by injection hpe with hpe;rw[<-hpe]
     have hps:pe.size=64:=by
      have h9:pe.data.toList.length=pe.size:=Array.length_toList
      rw[<-h9,hpel,List.getD_eq_getElem?_getD,List.getElem?_eq_getElem (by rw[HPL.out];exact hlt)]
      exact pagesR_64 _ _ (List.getElem_mem _)
     have cg:w6.cell? ⟨g,i,none⟩=some (.string pe):=by
      have:=HPS6.out.2.2.2 i (by rw[HPL.out];exact hlt)
      rw[Nat.zero_add,hpe] at this
      exact this
     have HSB2:Hid ((sb++pe).data.toList=((pagesR er.data.toList).take (i+1)).flatten):=by
      show _=_
      rw[take_next (by rw[HPL.out];exact hlt),List.flatten_append,ByteArray.data_append,Array.toList_append,HSB.out,hpel]
      simp
     have q1:¬9223372036854775807<sb.size+pe.size:=by omega
     clear hpe hpel HSB hsb
     go_wp2_with fail
     go_round
     case rel=>exact⟨i+1,sb++pe,by omega,rfl,by go_num,HSB2⟩
     case measure=>simp[intOf];omega
    ·have z0:¬(i:Int)<c:=by omega
     have hic:i=c:=by omega
     subst hic
     have hsbl:sb.data.toList=pad (recd k nm.data.toList vl.data.toList):=by
      rw[HSB.out,List.take_of_length_le (by rw[HPL.out];omega),pagesR_flat,HERL.out]
     have hd4:=HD4.out
     rw[HERL.out,<-hsbl] at hd4
     have HR7:=HR6
     have HB7:=HB6
     have S7:Hid (w6.drew.cell? ⟨T,0,none⟩=some (.int .u8 (k:Int))/\w6.drew.cell? ⟨T,1,none⟩=some (.string nm)/\w6.drew.cell? ⟨T,2,none⟩=some (.string vl)/\w6.drew.cell? ⟨T,3,none⟩=some (.int .i64 (i:Int))):=⟨HT6.out.drew.cell (i:=0) (by omega),HT6.out.drew.cell (i:=1) (by omega),HT6.out.drew.cell (i:=2) (by omega),HT6.out.drew.cell (i:=3) (by omega)⟩
     obtain⟨M,hM⟩:∃M,sb.size=M:=⟨_,rfl⟩
     have hMi:M=i*64:=by omega
     rw[<-hMi] at hd4
     have HD5:=Hh hd4
     have hx1:Hid ((s.extract 0 M).data.toList=s.data.toList.take M):=by show _=_;rw[ext_toList];rfl
     clear hd4 hsb hsbl HSB HD4 hMi
     by_cases hge:M<=s.size
     ·have hgeI:(M:Int)<=(s.size:Int):=by omega
      have hM0:(0:Int)<=(M:Int):=by omega
      by_cases heq:s.extract 0 M=sb
      ·have hee:((s.extract 0 M).toList==sb.toList)=true:=by rw[heq];simp
       have HN:Hid (rdOk (decF s.data.toList) (.int .u8 (k:Int)) (.string nm) (.string vl) (.int .i64 (i:Int)) true):=by
        have h9:=HD5.out
        rw[if_pos ⟨hge,by rw[<-hx1.out,heq]⟩] at h9
        refine⟨λk' n' v' c' h=>?_,λh=>by rw[h9] at h;cases h⟩
        rw[h9] at h
        simp only[Option.some.injEq,Prod.mk.injEq] at h
        obtain⟨q1,q2,q3,q4⟩:=h
        rw[<-q1,<-q2,<-q3,<-q4]
        exact⟨rfl,rfl,str_of rfl,str_of rfl,rfl⟩
       clear heq
       go_wp2_with fail
       have b6:decide ((M:Int)<=(s.size:Int))=true:=by simp;omega
       have b7:decide (M<=s.size)=true:=by simp;omega
       refine wp_region_pl (λ Y=>Y.cell? ⟨T,0,none⟩=some (.int .u8 (k:Int))/\Y.cell? ⟨T,1,none⟩=some (.string nm)/\Y.cell? ⟨T,2,none⟩=some (.string vl)/\Y.cell? ⟨T,3,none⟩=some (.int .i64 (i:Int))) ((0,0)::(1,0)::(2,0)::(3,0)::(4,0)::(5,0)::(6,0)::(7,0)::(8,0)::(9,0)::(10,0)::(11,0)::(12,0)::(13,0)::(14,1)::(15,2)::[]) (by kernel_rfl) (by kernel_rfl) ?_
       iterate 14 (apply wpP_go;rfl;rfl;exact S7.out;(rintro Z ⟨s0,s1,s2,s3⟩;go_simp;exact rfl);intro K hK;go_simp;refine hK _ ?_;clear hK K)
       have hr7:=HR7.out
       have r0:=hr7.cell (i:=0) (by omega)
       have r1:=hr7.cell (i:=1) (by omega)
       have r2:=hr7.cell (i:=2) (by omega)
       have r3:=hr7.cell (i:=3) (by omega)
       have f0:=hr7.frozen 0
       have f1:=hr7.frozen 1
       have f2:=hr7.frozen 2
       have f3:=hr7.frozen 3
       clear hr7
       have hTR:T≠R:=by omega
       have ht8:=((((HT6.out.far (p:=⟨R,0,none⟩) hTR (.int .u8 (k:Int))).far (p:=⟨R,1,none⟩) hTR (.string nm)).far (p:=⟨R,2,none⟩) hTR (.string vl)).far (p:=⟨R,3,none⟩) hTR (.int .i64 (i:Int))).drew
       have S8:=And.intro (ht8.cell (i:=0) (by omega)) (And.intro (ht8.cell (i:=1) (by omega)) (And.intro (ht8.cell (i:=2) (by omega)) (ht8.cell (i:=3) (by omega))))
       have HS8:=Hh S8
       clear ht8 S8
       apply wpP_one
       rfl
       intro K hK
       go_simp
       refine hK _ _ HS8.out ?_
       clear hK K HS8
       apply wpP_two
       rfl
       intro K hK
       go_simp
       refine hK _ _ ?_
       clear hK K
       refine wpP_done ?_
       clear r0 r1 r2 r3 f0 f1 f2 f3
       go_wp2_with fail
       exact rd_end (HB7.out.drew) (HR7.out.drew) _ _ _ _ _ rfl rfl HN.out
      ·have hee:((s.extract 0 M).toList==sb.toList)=false:=by
        rw[beq_eq_false_iff_ne]
        intro h9
        apply heq
        apply ByteArray.ext
        apply Array.toList_inj.1
        rw[ByteArray.toList_eq,ByteArray.toList_eq] at h9
        exact h9
       have HN:Hid (rdOk (decF s.data.toList) (.int .u8 (k:Int)) (.string nm) (.string vl) (.int .i64 (i:Int)) false):=by
        have h9:=HD5.out
        rw[if_neg (λh=>heq (by
         apply ByteArray.ext
         apply Array.toList_inj.1
         rw[hx1.out];exact h.2))] at h9
        exact⟨λk' n' v' c' h=>(by rw[h9] at h;cases h),λ_=>rfl⟩
       clear heq
       go_wp2_with fail
       have b6:decide ((M:Int)<=(s.size:Int))=true:=by simp;omega
       have b7:decide (M<=s.size)=true:=by simp;omega
       refine wp_region_pl (λ Y=>Y.cell? ⟨T,0,none⟩=some (.int .u8 (k:Int))/\Y.cell? ⟨T,1,none⟩=some (.string nm)/\Y.cell? ⟨T,2,none⟩=some (.string vl)/\Y.cell? ⟨T,3,none⟩=some (.int .i64 (i:Int))) ((0,0)::(1,0)::(2,0)::(3,0)::(4,0)::(5,0)::(6,0)::(7,0)::(8,0)::(9,0)::(10,0)::(11,0)::(12,0)::(13,0)::(14,1)::(15,2)::[]) (by kernel_rfl) (by kernel_rfl) ?_
       iterate 14 (apply wpP_go;rfl;rfl;exact S7.out;(rintro Z ⟨s0,s1,s2,s3⟩;go_simp;exact rfl);intro K hK;go_simp;refine hK _ ?_;clear hK K)
       have hr7:=HR7.out
       have r0:=hr7.cell (i:=0) (by omega)
       have r1:=hr7.cell (i:=1) (by omega)
       have r2:=hr7.cell (i:=2) (by omega)
       have r3:=hr7.cell (i:=3) (by omega)
       have f0:=hr7.frozen 0
       have f1:=hr7.frozen 1
       have f2:=hr7.frozen 2
       have f3:=hr7.frozen 3
       clear hr7
       have hTR:T≠R:=by omega
       have ht8:=((((HT6.out.far (p:=⟨R,0,none⟩) hTR (.int .u8 (k:Int))).far (p:=⟨R,1,none⟩) hTR (.string nm)).far (p:=⟨R,2,none⟩) hTR (.string vl)).far (p:=⟨R,3,none⟩) hTR (.int .i64 (i:Int))).drew
       have S8:=And.intro (ht8.cell (i:=0) (by omega)) (And.intro (ht8.cell (i:=1) (by omega)) (And.intro (ht8.cell (i:=2) (by omega)) (ht8.cell (i:=3) (by omega))))
       have HS8:=Hh S8
       clear ht8 S8
       apply wpP_one
       rfl
       intro K hK
       go_simp
       refine hK _ _ HS8.out ?_
       clear hK K HS8
       apply wpP_two
       rfl
       intro K hK
       go_simp
       refine hK _ _ ?_
       clear hK K
       refine wpP_done ?_
       clear r0 r1 r2 r3 f0 f1 f2 f3
       go_wp2_with fail
       exact rd_end (HB7.out.drew) (HR7.out.drew) _ _ _ _ _ rfl rfl HN.out
     ·have hgeI:¬(M:Int)<=(s.size:Int):=by omega
      have HN:Hid (rdOk (decF s.data.toList) (.int .u8 (k:Int)) (.string nm) (.string vl) (.int .i64 (i:Int)) false):=by
       have h9:=HD5.out
       rw[if_neg (λh=>hge h.1)] at h9
       exact⟨λk' n' v' c' h=>(by rw[h9] at h;cases h),λ_=>rfl⟩
      go_wp2_with fail
      have b6:decide ((M:Int)<=(s.size:Int))=false:=by simp;omega
      have b7:decide (M<=s.size)=false:=by simp;omega
      refine wp_region_pl (λ Y=>Y.cell? ⟨T,0,none⟩=some (.int .u8 (k:Int))/\Y.cell? ⟨T,1,none⟩=some (.string nm)/\Y.cell? ⟨T,2,none⟩=some (.string vl)/\Y.cell? ⟨T,3,none⟩=some (.int .i64 (i:Int))) ((0,0)::(1,0)::(2,0)::(3,0)::(4,0)::(5,0)::(6,0)::(7,0)::(8,0)::(9,0)::(10,0)::(11,0)::(12,0)::(13,0)::(14,1)::(15,2)::[]) (by kernel_rfl) (by kernel_rfl) ?_
      iterate 7 (apply wpP_go;rfl;rfl;exact S7.out;(rintro Z ⟨s0,s1,s2,s3⟩;go_simp;exact rfl);intro K hK;go_simp;refine hK _ ?_;clear hK K)
      iterate 6 (apply wpP_not;rfl;rfl;exact S7.out;intro K hK;go_simp;refine hK _ ?_;clear hK K)
      iterate 1 (apply wpP_go;rfl;rfl;exact S7.out;(rintro Z ⟨s0,s1,s2,s3⟩;go_simp;exact rfl);intro K hK;go_simp;refine hK _ ?_;clear hK K)
      have hr7:=HR7.out
      have r0:=hr7.cell (i:=0) (by omega)
      have r1:=hr7.cell (i:=1) (by omega)
      have r2:=hr7.cell (i:=2) (by omega)
      have r3:=hr7.cell (i:=3) (by omega)
      have f0:=hr7.frozen 0
      have f1:=hr7.frozen 1
      have f2:=hr7.frozen 2
      have f3:=hr7.frozen 3
      clear hr7
      have hTR:T≠R:=by omega
      have ht8:=((((HT6.out.far (p:=⟨R,0,none⟩) hTR (.int .u8 (k:Int))).far (p:=⟨R,1,none⟩) hTR (.string nm)).far (p:=⟨R,2,none⟩) hTR (.string vl)).far (p:=⟨R,3,none⟩) hTR (.int .i64 (i:Int))).drew
      have S8:=And.intro (ht8.cell (i:=0) (by omega)) (And.intro (ht8.cell (i:=1) (by omega)) (And.intro (ht8.cell (i:=2) (by omega)) (ht8.cell (i:=3) (by omega))))
      have HS8:=Hh S8
      clear ht8 S8
      apply wpP_one
      rfl
      intro K hK
      go_simp
      refine hK _ _ HS8.out ?_
      clear hK K HS8
      apply wpP_two
      rfl
      intro K hK
      go_simp
      refine hK _ _ ?_
      clear hK K
      refine wpP_done ?_
      clear r0 r1 r2 r3 f0 f1 f2 f3
      go_wp2_with fail
      exact rd_end (HB7.out.drew) (HR7.out.drew) _ _ _ _ _ rfl rfl HN.out
def insV:Vars->Str->Str->Vars
 | [],k,v=>[(k,v)]
 | p::r,k,v=>if k<p.1 then (k,v)::p::r else p::insV r k v
theorem insV_del {V:Vars}(h:Srt V)(k v:Str):insV (delV V k) k v=setV V k v:=by
 induction V with
 | nil=>rfl
 | cons p r ih=>
  have h':=List.pairwise_cons.1 h
  have hr:=ih h'.2
  by_cases h1:p.1=k
  ·have hb:(p.1==k)=true:=by simpa using h1
   have hd:delV (p::r) k=delV r k:=by unfold delV;rw[List.filter_cons,hb];rfl
   have hs:delV r k=r:=delV_same λq hq=>by rw[<-h1];exact h'.1 q hq
   have hn:¬k<p.1:=by rw[h1];exact List.lt_irrefl _
   rw[hd,hs]
   unfold setV
   rw[if_neg hn,if_pos h1.symm]
   cases hr0:r with
   | nil=>rfl
   | cons q t=>
    unfold insV
    rw[if_pos]
    rw[<-h1];exact h'.1 q (by rw[hr0];simp)
  ·have hb:(p.1==k)=false:=by simpa using h1
   have hd:delV (p::r) k=p::delV r k:=by unfold delV;rw[List.filter_cons,hb];rfl
   rw[hd]
   unfold insV setV
   by_cases h2:k<p.1
   ·rw[if_pos h2,if_pos h2,delV_same λq hq=>List.lt_trans h2 (h'.1 q hq)]
   ·rw[if_neg h2,if_neg h2,if_neg (λe=>h1 e.symm),hr]
theorem insV_put {l:Vars}{k v:Str}(h:∃x∈l,k<x.1)(p:Str×Str):insV (l++[p]) k v=insV l k v++[p]:=by
 induction l with
 | nil=>obtain⟨x,hx,_⟩:=h;cases hx
 | cons q t ih=>
  show insV (q::(t++[p])) k v=_
  unfold insV
  by_cases h2:k<q.1
  ·rw[if_pos h2,if_pos h2];rfl
  ·rw[if_neg h2,if_neg h2]
   obtain⟨x,hx,hl⟩:=h
   rcases List.mem_cons.1 hx with e|hx
   ·rw[e] at hl;exact absurd hl h2
   ·rw[ih ⟨x,hx,hl⟩];rfl
theorem insV_none {l:Vars}{k v:Str}(h:∀x∈l,¬k<x.1)(t:Vars):insV (l++t) k v=l++insV t k v:=by
 induction l with
 | nil=>rfl
 | cons q s ih=>
  have e:insV (q::(s++t)) k v=q::insV (s++t) k v:=by
   show(if k<q.1 then _ else _)=_
   rw[if_neg (h q (by simp))]
  show insV (q::(s++t)) k v=_
  rw[e,ih λx hx=>h x (List.mem_cons_of_mem _ hx)]
  rfl
theorem OV.nil {w wr:World}(hb:Below w.heap.size w wr):OV w wr (.slice none 0 0) []:=⟨⟨rfl,.inl ⟨rfl,rfl⟩⟩,(λ_ hg=>(by cases hg)),hb⟩
theorem OV.form {w wr:World}{v:Value}{E:Vars}(h:OV w wr v E):∃a cap,v=.slice a E.length cap/\VS wr a cap E/\∀g,a=some ⟨g,0,none⟩->w.heap.size<=g:=by
 by_cases hE:E=[]
 ·subst hE
  obtain⟨⟨hl,h1|⟨g,cap,cur,rfl,hbg,hh,hn1,hm1,_,_⟩⟩,hn,_⟩:=h
  ·exact⟨none,0,h1.1,⟨Nat.le_refl _,by unfold maxLen;omega,λk=>absurd rfl k⟩,λg e=>by cases e⟩
  ·exact⟨_,cap,rfl,⟨hn1,hm1,λk=>absurd rfl k⟩,λg' e=>by injection e with e;injection e with e;rw[<-e];exact hn g rfl⟩
 ·obtain⟨g,cap,e,hvs,hg⟩:=h.vs hE
  exact⟨_,cap,e,hvs,λg' e=>by injection e with e;injection e with e;rw[<-e];exact hg⟩
theorem delV_len (V:Vars)(n:Str):(delV V n).length<=V.length:=List.length_filter_le _ _
theorem rwithout_any {w:World}{a:Option Addr}{cap L:Nat}{V:Vars}(h:VS w a cap V)(hL:V.length=L)(hL2:L<=1000)(ne:ByteArray) :
  Calls Tryz.prog 146 #[.slice a L cap,.string ne] w λe w'=>∃v,e=.returned v/\OV w w' v (delV V ne.data.toList):=by
 obtain⟨i0,hi0,hx0,hx1,hx2⟩:=info_parts Tryz.infoV
 have H:=Hh h
 have HL:=Hh hL
 have hcap:L<=cap/\cap<=maxLen:=by have:=h.1;have:=h.2.1;omega
 have HO:Hid (OV w w (.slice none 0 0) (delV (V.take 0) ne.data.toList)):=OV.nil (Below.refl _ _)
 clear h hL
 go_enter Tryz.func146,Tryz.ntmps146
 go_wp2_with fail
 go_loopw [5,6] (λx z wr=>∃(k n:Nat) (vl:Value) (E:Vars),k<=L/\n<=k/\vl=x/\z=.int .i64 (k:Int)/\Hid (E.length=n)/\Hid (E=delV (V.take k) ne.data.toList)/\Hid (OV w wr vl E)) (λ_ z _=>L-(intOf z).toNat)
 case atStart=>exact⟨0,0,_,[],by omega,by omega,rfl,rfl,Hh rfl,Hh rfl,HO⟩
 case round=>
  clear HO
  obtain⟨k,n,vl,E,hk,hnk,hvl,rfl,HEl,HE,HO⟩:=hrel
  subst hvl
  by_cases hlt:k<L
  ·have y0:(k:Int)<L:=by omega
   obtain⟨gw,hgw,hgl,hcell⟩:=(H.out.below HO.out.bel).2.2 (by intro e;have:=HL.out;rw[e] at this;simp at this;omega)
   obtain⟨c0,c1⟩:=hcell k (by rw[HL.out];exact hlt)
   obtain⟨pk,hpk⟩:∃p,V.getD k ([],[])=p:=⟨_,rfl⟩
   rw[hpk] at c0 c1
   obtain⟨ke,hke⟩:∃s:ByteArray,str pk.1=.string s:=⟨_,rfl⟩
   obtain⟨kv,hkv⟩:∃s:ByteArray,str pk.2=.string s:=⟨_,rfl⟩
   have hkel:ke.data.toList=pk.1:=by injection hke with hke;rw[<-hke]
   have hkvl:kv.data.toList=pk.2:=by injection hkv with hkv;rw[<-hkv]
   rw[hke] at c0
   rw[hkv] at c1
   have hdt:=delV_take (V:=V) (k:=k) ne.data.toList (by rw[HL.out];exact hlt)
   rw[hpk] at hdt
   subst hgw
   by_cases heq:pk.1=ne.data.toList
   ·have hd:(ke.toList==ne.toList)=true:=by rw[ByteArray.toList_eq,ByteArray.toList_eq,hkel,heq];simp
    rw[if_pos heq] at hdt
    have HE2:Hid (E=delV (V.take (k+1)) ne.data.toList):=by show _=_;rw[hdt];exact HE.out
    clear hdt hpk heq hke hkv hkel hkvl hcell
    go_wp2_with fail
    go_roundw
    case rel=>exact⟨k+1,n,_,E,by omega,by omega,rfl,by go_num,HEl,HE2,HO⟩
    case measure=>simp[intOf];omega
   ·have hd:(ke.toList==ne.toList)=false:=by rw[ByteArray.toList_eq,ByteArray.toList_eq,hkel];simpa using heq
    rw[if_neg heq] at hdt
    have HE2:Hid (E++[pk]=delV (V.take (k+1)) ne.data.toList):=by show _=_;rw[hdt,HE.out]
    have HK:Hid (pk=(ke.data.toList,kv.data.toList)):=by show _=_;rw[hkel,hkvl]
    have HP:=Hh (HO.out.push ke kv)
    rw[HEl.out] at HP
    clear hdt hpk heq hke hkv hkel hkvl hcell
    go_wp2_with (at_builtin;refine wpList_append_lies _ rfl _ _ 165 rfl 0 216 i0 _ 2 32 Tryz.underlying165 hi0 hx0 hx1 hx2 rfl (by omega) vl n (E.flatMap vcf) rfl (by exact HP.out.2) ⟨wr.heap.size,0,none⟩ 1 1 (vcf (ke.data.toList,kv.data.toList)) rfl rfl (by exact HP.out.1) (vcf_one _) (by omega) (by simp only[maxLen];omega) (by omega) (Nat.zero_le _) (wr.heap.size+1) (by simp) ?_)
    intro g cap2 w6 ho hg hat hbel
    rw[<-HEl.out] at ho
    have O2:=HO.out.take ho hg hat
    rw[<-HK.out,HEl.out] at O2
    have HO6:=Hh O2
    have HEl6:Hid ((E++[pk]).length=n+1):=by show _=_;rw[List.length_append,HEl.out];rfl
    clear ho hg hat hbel O2 HP HO
    go_wp2_with fail
    go_roundw
    case rel=>exact⟨k+1,n+1,_,E++[pk],by omega,by omega,rfl,by go_num,HEl6,HE2,HO6⟩
    case measure=>simp[intOf];omega
  ·have y0:¬(k:Int)<L:=by omega
   have hE9:E=delV V ne.data.toList:=by rw[HE.out,List.take_of_length_le (by rw[HL.out];omega)]
   have HF:Hid (OV w wr vl (delV V ne.data.toList)):=by show OV _ _ _ _;rw[<-hE9];exact HO.out
   clear hE9
   go_wp2_with fail
   go_ret
   exact⟨_,rfl,HF.out⟩
def WI (pb:Bool)(rest:Vars)(nm v:Str)(k:Nat)(E:Vars):Prop:=
 if pb=true then (∃x∈rest.take k,nm<x.1)/\E=insV (rest.take k) nm v else (∀x∈rest.take k,¬nm<x.1)/\E=rest.take k
theorem vtake_next {l:Vars}{i:Nat}(h:i<l.length):l.take (i+1)=l.take i++[l.getD i ([],[])]:=by
 rw[List.take_succ_eq_append_getElem h,List.getD_eq_getElem?_getD,List.getElem?_eq_getElem h]
 rfl
theorem WI.put {rest:Vars}{nm v:Str}{k:Nat}{E:Vars}(h:WI true rest nm v k E)(hk:k<rest.length):WI true rest nm v (k+1) (E++[rest.getD k ([],[])]):=by
 unfold WI at *
 rw[if_pos rfl] at *
 obtain⟨⟨x,hx,hl⟩,rfl⟩:=h
 rw[vtake_next hk]
 exact⟨⟨x,List.mem_append_left _ hx,hl⟩,(insV_put ⟨x,hx,hl⟩ _).symm⟩
theorem WI.turn {rest:Vars}{nm v:Str}{k:Nat}{E:Vars}(h:WI false rest nm v k E)(hk:k<rest.length)(hl:nm<(rest.getD k ([],[])).1):WI true rest nm v (k+1) (E++[(nm,v)]++[rest.getD k ([],[])]):=by
 unfold WI at *
 rw[if_neg (by simp)] at h
 rw[if_pos rfl]
 obtain⟨hn,rfl⟩:=h
 rw[vtake_next hk]
 refine⟨⟨_,List.mem_append_right _ (List.mem_singleton.2 rfl),hl⟩,?_⟩
 rw[insV_none hn]
 have e:insV [rest.getD k ([],[])] nm v=[(nm,v),rest.getD k ([],[])]:=by
  show(if nm<(rest.getD k ([],[])).1 then _ else _)=_
  rw[if_pos hl]
 rw[e,List.append_assoc]
 rfl
theorem WI.stay {rest:Vars}{nm v:Str}{k:Nat}{E:Vars}(h:WI false rest nm v k E)(hk:k<rest.length)(hl:¬nm<(rest.getD k ([],[])).1):WI false rest nm v (k+1) (E++[rest.getD k ([],[])]):=by
 unfold WI at *
 rw[if_neg (by simp)] at *
 obtain⟨hn,rfl⟩:=h
 rw[vtake_next hk]
 refine⟨λx hx=>?_,rfl⟩
 rcases List.mem_append.1 hx with e|e
 ·exact hn x e
 ·rw[List.mem_singleton.1 e];exact hl
theorem rwith_any {w:World}{a:Option Addr}{cap L:Nat}{V:Vars}(h:VS w a cap V)(hL:V.length=L)(hL2:L<=1000)(hs:Srt V)(ne ve:ByteArray) :
  Calls Tryz.prog 111 #[.slice a L cap,.string ne,.string ve] w λe w'=>∃v,e=.returned v/\OV w w' v (setV V ne.data.toList ve.data.toList):=by
 obtain⟨i0,hi0,hx0,hx1,hx2⟩:=info_parts Tryz.infoV
 have HWO:=Hh (rwithout_any h hL hL2 ne)
 have hdl:=delV_len V ne.data.toList
 have HIN:=Hh (insV_del hs ne.data.toList ve.data.toList)
 generalize delV V ne.data.toList=rest at *
 rw[hL] at hdl
 clear h hL hs
 go_enter Tryz.func111,Tryz.ntmps111
 go_wp2_with fail
 refine HWO.out.mono ?_
 rintro e w1 ⟨v1,rfl,ho1⟩
 obtain⟨a2,c2,rfl,hvs,hnew⟩:=ho1.form
 obtain⟨R,hR⟩:∃R,rest.length=R:=⟨_,rfl⟩
 rw[hR] at hdl ⊢
 have HR:=Hh hR
 have H:=Hh hvs
 have HB1:=Hh ho1.bel
 have hcap:R<=c2/\c2<=maxLen:=by have:=hvs.1;have:=hvs.2.1;omega
 have HO:Hid (OV w1 w1 (.slice none 0 0) []):=OV.nil (Below.refl _ _)
 have HW0:Hid (WI false rest ne.data.toList ve.data.toList 0 []):=by
  show WI _ _ _ _ _ _
  unfold WI
  rw[if_neg (by simp)]
  exact⟨λx hx=>by simp at hx,rfl⟩
 clear HWO ho1 hvs hnew hR
 go_wp2_with fail
 go_loopw [7,9,10] (λx q z wr=>∃(k n:Nat) (vl:Value) (E:Vars) (pb:Bool),k<=R/\n<=k+1/\vl=x/\q=.bool pb/\z=.int .i64 (k:Int)/\Hid (E.length=n)/\Hid (WI pb rest ne.data.toList ve.data.toList k E)/\Hid (OV w1 wr vl E)) (λ_ _ z _=>R-(intOf z).toNat)
 case atStart=>exact⟨0,0,_,[],false,by omega,by omega,rfl,rfl,rfl,Hh rfl,HW0,HO⟩
 case round=>
  clear HO HW0
  obtain⟨k,n,vl,E,pb,hk,hnk,hvl,rfl,rfl,HEl,HW,HO⟩:=hrel
  subst hvl
  by_cases hlt:k<R
  ·have y0:(k:Int)<R:=by omega
   obtain⟨gw,hgw,hgl,hcell⟩:=H.out.2.2 (by intro e;have:=HR.out;rw[e] at this;simp at this;omega)
   obtain⟨c0,c1⟩:=hcell k (by rw[HR.out];exact hlt)
   obtain⟨pk,hpk⟩:∃p,rest.getD k ([],[])=p:=⟨_,rfl⟩
   have hkr:k<rest.length:=by rw[HR.out];exact hlt
   rw[hpk] at c0 c1
   obtain⟨ke,hke⟩:∃s:ByteArray,str pk.1=.string s:=⟨_,rfl⟩
   obtain⟨kv,hkv⟩:∃s:ByteArray,str pk.2=.string s:=⟨_,rfl⟩
   have hkel:ke.data.toList=pk.1:=by injection hke with hke;rw[<-hke]
   have hkvl:kv.data.toList=pk.2:=by injection hkv with hkv;rw[<-hkv]
   rw[hke] at c0
   rw[hkv] at c1
   have hpk2:rest.getD k ([],[])=(ke.data.toList,kv.data.toList):=by rw[hpk,hkel,hkvl]
   subst hgw
   have C:=Hh (And.intro c0 c1)
   have hc:∀wx,Below w1.heap.size w1 wx->wx.cell? ⟨gw,k*2,none⟩=some (.string ke)/\wx.cell? ⟨gw,k*2+1,none⟩=some (.string kv):=λwx b=>⟨(b.cell (p:=⟨gw,k*2,none⟩) hgl).trans C.out.1,(b.cell (p:=⟨gw,k*2+1,none⟩) hgl).trans C.out.2⟩
   have HC:=Hh hc
   have d0:=(hc wr HO.out.bel).1
   have d1:=(hc wr HO.out.bel).2
   clear c0 c1 C hc hcell hke hkv hpk
   cases pb
   ·have hnk2:n<=k:=by
     have h8:=HEl.out
     have h9:=HW.out
     unfold WI at h9
     rw[if_neg (by simp)] at h9
     rw[h9.2,List.length_take] at h8
     omega
    by_cases hlt2:ne.data.toList<ke.data.toList
    ·have hbl:Op.bytesLess ke.toList ne.toList=false:=by
      rw[Go.Proofs.bytesLess_eq,ByteArray.toList_eq,ByteArray.toList_eq]
      simpa using List.lt_asymm hlt2
     have hbe:(ke.toList==ne.toList)=false:=by
      rw[ByteArray.toList_eq,ByteArray.toList_eq,beq_eq_false_iff_ne]
      intro e
      rw[e] at hlt2
      exact List.lt_irrefl _ hlt2
     have hw2:=HW.out.turn hkr (by rw[hpk2];exact hlt2)
     rw[hpk2] at hw2
     have HW2:=Hh hw2
     clear hw2 hpk2 hlt2 hkel hkvl HW hkr
     have HP5:=Hh (HO.out.push ne ve)
     rw[HEl.out] at HP5
     go_wp2_with (at_builtin;refine wpList_append_lies _ rfl _ _ 165 rfl 0 216 i0 _ 2 32 Tryz.underlying165 hi0 hx0 hx1 hx2 rfl (by omega) vl n (E.flatMap vcf) rfl (by exact HP5.out.2) ⟨wr.heap.size,0,none⟩ 1 1 (vcf (ne.data.toList,ve.data.toList)) rfl rfl (by exact HP5.out.1) (vcf_one _) (by omega) (by simp only[maxLen];omega) (by omega) (Nat.zero_le _) (wr.heap.size+1) (by simp) ?_)
     intro g5 cap5 w5 ho5 hg5 hat5 hbel5
     rw[<-HEl.out] at ho5
     have O5:=HO.out.take ho5 hg5 hat5
     rw[HEl.out] at O5
     have HO5:=Hh O5
     have HEl5:Hid ((E++[(ne.data.toList,ve.data.toList)]).length=n+1):=by show _=_;rw[List.length_append,HEl.out];rfl
     clear ho5 hg5 hat5 hbel5 O5 HP5 HO d0 d1
     have d0:=(HC.out w5 HO5.out.bel).1
     have d1:=(HC.out w5 HO5.out.bel).2
     obtain⟨E5,hE5⟩:∃E',E++[(ne.data.toList,ve.data.toList)]=E':=⟨_,rfl⟩
     rw[hE5] at HO5 HEl5 HW2
     clear hE5
     have HP6:=Hh (HO5.out.push ke kv)
     rw[HEl5.out] at HP6
     go_wp2_with (at_builtin;refine wpList_append_lies _ rfl _ _ 165 rfl 0 216 i0 _ 2 32 Tryz.underlying165 hi0 hx0 hx1 hx2 rfl (by omega) (.slice (some ⟨g5,0,none⟩) (n+1) cap5) (n+1) (E5.flatMap vcf) rfl (by exact HP6.out.2) ⟨w5.heap.size,0,none⟩ 1 1 (vcf (ke.data.toList,kv.data.toList)) rfl rfl (by exact HP6.out.1) (vcf_one _) (by omega) (by simp only[maxLen];omega) (by omega) (Nat.zero_le _) (w5.heap.size+1) (by simp) ?_)
     intro g6 cap6 w6 ho6 hg6 hat6 hbel6
     rw[<-HEl5.out] at ho6
     have O6:=HO5.out.take ho6 hg6 hat6
     rw[HEl5.out] at O6
     have HO6:=Hh O6
     have HEl6:Hid ((E5++[(ke.data.toList,kv.data.toList)]).length=(n+1)+1):=by show _=_;rw[List.length_append,HEl5.out];rfl
     clear ho6 hg6 hat6 hbel6 O6 HP6 HO5 d0 d1
     clear hbl hbe
     go_wp2_with fail
     go_roundw
     case rel=>exact⟨k+1,n+1+1,_,_,true,by omega,by omega,rfl,rfl,by go_num,HEl6,HW2,HO6⟩
     case measure=>simp[intOf];omega
    ·have hw2:=HW.out.stay hkr (by rw[hpk2];exact hlt2)
     rw[hpk2] at hw2
     have HW2:=Hh hw2
     by_cases heq:ke.data.toList=ne.data.toList
     ·have hbe:(ke.toList==ne.toList)=true:=by rw[ByteArray.toList_eq,ByteArray.toList_eq,heq];simp
      have hbl:Op.bytesLess ke.toList ne.toList=false:=by
       rw[Go.Proofs.bytesLess_eq,ByteArray.toList_eq,ByteArray.toList_eq,heq]
       simp
      clear hw2 hpk2 hlt2 hkel hkvl HW hkr heq
      have HP6:=Hh (HO.out.push ke kv)
      rw[HEl.out] at HP6
      go_wp2_with (at_builtin;refine wpList_append_lies _ rfl _ _ 165 rfl 0 216 i0 _ 2 32 Tryz.underlying165 hi0 hx0 hx1 hx2 rfl (by omega) vl n (E.flatMap vcf) rfl (by exact HP6.out.2) ⟨wr.heap.size,0,none⟩ 1 1 (vcf (ke.data.toList,kv.data.toList)) rfl rfl (by exact HP6.out.1) (vcf_one _) (by omega) (by simp only[maxLen];omega) (by omega) (Nat.zero_le _) (wr.heap.size+1) (by simp) ?_)
      intro g6 cap6 w6 ho6 hg6 hat6 hbel6
      rw[<-HEl.out] at ho6
      have O6:=HO.out.take ho6 hg6 hat6
      rw[HEl.out] at O6
      have HO6:=Hh O6
      have HEl6:Hid ((E++[(ke.data.toList,kv.data.toList)]).length=n+1):=by show _=_;rw[List.length_append,HEl.out];rfl
      clear ho6 hg6 hat6 hbel6 O6 HP6 HO d0 d1
      clear hbl hbe
      go_wp2_with fail
      go_roundw
      case rel=>exact⟨k+1,n+1,_,_,false,by omega,by omega,rfl,rfl,by go_num,HEl6,HW2,HO6⟩
      case measure=>simp[intOf];omega
     ·have hbl:Op.bytesLess ke.toList ne.toList=true:=by
       rw[Go.Proofs.bytesLess_eq,ByteArray.toList_eq,ByteArray.toList_eq]
       rcases Std.lt_trichotomy ke.data.toList ne.data.toList with h1|h1|h1
       ·simpa using h1
       ·exact absurd h1 heq
       ·exact absurd h1 hlt2
      clear hw2 hpk2 hlt2 hkel hkvl HW hkr heq
      have HP6:=Hh (HO.out.push ke kv)
      rw[HEl.out] at HP6
      go_wp2_with (at_builtin;refine wpList_append_lies _ rfl _ _ 165 rfl 0 216 i0 _ 2 32 Tryz.underlying165 hi0 hx0 hx1 hx2 rfl (by omega) vl n (E.flatMap vcf) rfl (by exact HP6.out.2) ⟨wr.heap.size,0,none⟩ 1 1 (vcf (ke.data.toList,kv.data.toList)) rfl rfl (by exact HP6.out.1) (vcf_one _) (by omega) (by simp only[maxLen];omega) (by omega) (Nat.zero_le _) (wr.heap.size+1) (by simp) ?_)
      intro g6 cap6 w6 ho6 hg6 hat6 hbel6
      rw[<-HEl.out] at ho6
      have O6:=HO.out.take ho6 hg6 hat6
      rw[HEl.out] at O6
      have HO6:=Hh O6
      have HEl6:Hid ((E++[(ke.data.toList,kv.data.toList)]).length=n+1):=by show _=_;rw[List.length_append,HEl.out];rfl
      clear ho6 hg6 hat6 hbel6 O6 HP6 HO d0 d1
      clear hbl
      go_wp2_with fail
      go_roundw
      case rel=>exact⟨k+1,n+1,_,_,false,by omega,by omega,rfl,rfl,by go_num,HEl6,HW2,HO6⟩
      case measure=>simp[intOf];omega
   ·have hw2:=HW.out.put hkr
    rw[hpk2] at hw2
    have HW2:=Hh hw2
    clear hw2 hpk2 hkel hkvl HW hkr
    have HP6:=Hh (HO.out.push ke kv)
    rw[HEl.out] at HP6
    go_wp2_with (at_builtin;refine wpList_append_lies _ rfl _ _ 165 rfl 0 216 i0 _ 2 32 Tryz.underlying165 hi0 hx0 hx1 hx2 rfl (by omega) vl n (E.flatMap vcf) rfl (by exact HP6.out.2) ⟨wr.heap.size,0,none⟩ 1 1 (vcf (ke.data.toList,kv.data.toList)) rfl rfl (by exact HP6.out.1) (vcf_one _) (by omega) (by simp only[maxLen];omega) (by omega) (Nat.zero_le _) (wr.heap.size+1) (by simp) ?_)
    intro g6 cap6 w6 ho6 hg6 hat6 hbel6
    rw[<-HEl.out] at ho6
    have O6:=HO.out.take ho6 hg6 hat6
    rw[HEl.out] at O6
    have HO6:=Hh O6
    have HEl6:Hid ((E++[(ke.data.toList,kv.data.toList)]).length=n+1):=by show _=_;rw[List.length_append,HEl.out];rfl
    clear ho6 hg6 hat6 hbel6 O6 HP6 HO d0 d1
    go_wp2_with fail
    go_roundw
    case rel=>exact⟨k+1,n+1,_,_,true,by omega,by omega,rfl,rfl,by go_num,HEl6,HW2,HO6⟩
    case measure=>simp[intOf];omega
  ·have y0:¬(k:Int)<R:=by omega
   have hkR:k=R:=by omega
   have hw:=HW.out
   unfold WI at hw
   rw[List.take_of_length_le (by rw[HR.out];omega)] at hw
   cases pb
   ·rw[if_neg (by simp)] at hw
    have hn:insV rest ne.data.toList ve.data.toList=E++[(ne.data.toList,ve.data.toList)]:=by
     have:=insV_none (v:=ve.data.toList) hw.1 []
     rw[List.append_nil] at this
     rw[this,hw.2]
     rfl
    rw[HIN.out] at hn
    have HN:=Hh hn
    clear hw hn HW
    have HP6:=Hh (HO.out.push ne ve)
    rw[HEl.out] at HP6
    go_wp2_with (at_builtin;refine wpList_append_lies _ rfl _ _ 165 rfl 0 216 i0 _ 2 32 Tryz.underlying165 hi0 hx0 hx1 hx2 rfl (by omega) vl n (E.flatMap vcf) rfl (by exact HP6.out.2) ⟨wr.heap.size,0,none⟩ 1 1 (vcf (ne.data.toList,ve.data.toList)) rfl rfl (by exact HP6.out.1) (vcf_one _) (by omega) (by simp only[maxLen];omega) (by omega) (Nat.zero_le _) (wr.heap.size+1) (by simp) ?_)
    intro g6 cap6 w6 ho6 hg6 hat6 hbel6
    rw[<-HEl.out] at ho6
    have O6:=HO.out.take ho6 hg6 hat6
    rw[HEl.out] at O6
    have HO6:=Hh O6
    have HEl6:Hid ((E++[(ne.data.toList,ve.data.toList)]).length=n+1):=by show _=_;rw[List.length_append,HEl.out];rfl
    clear ho6 hg6 hat6 hbel6 O6 HP6 HO
    have HF:Hid (OV w w6 (.slice (some ⟨g6,0,none⟩) (n+1) cap6) (setV V ne.data.toList ve.data.toList)):=by
     have:=HO6.out
     show OV _ _ _ _
     rw[HN.out]
     refine⟨this.row,λx hx=>?_,HB1.out.trans (this.bel.mono HB1.out.size)⟩
     have h1:=this.new x hx
     have h2:=HB1.out.size
     omega
    go_wp2_with fail
    go_ret
    exact⟨_,rfl,HF.out⟩
   ·rw[if_pos rfl,HIN.out] at hw
    have HF:Hid (OV w wr vl (setV V ne.data.toList ve.data.toList)):=by
     have:=HO.out
     show OV _ _ _ _
     rw[<-hw.2]
     refine⟨this.row,λx hx=>?_,HB1.out.trans (this.bel.mono HB1.out.size)⟩
     have h1:=this.new x hx
     have h2:=HB1.out.size
     omega
    clear hw HW HO
    go_wp2_with fail
    go_ret
    exact⟨_,rfl,HF.out⟩
section
def rsc (st:ST)(X:Nat)(a:Option Addr)(c j:Nat):Value:=if j=0 then fptr X else if j=1 then .slice a st.V.length c else if j=2 then .int .i64 st.blk else if j=3 then .int .u64 st.gen else if j=4 then .int .i64 st.nxt else .bool st.clo
structure RS (w:World)(D:Nat->Prop)(S X:Nat)(st:ST):Prop where
 ex:∃a c,Rg w S 167 6 (rsc st X a c)/\VS w a c st.V/\∀g,a=some ⟨g,0,none⟩->D g/\g≠S
 dS:D S
 fin:∀k,D k->k<w.heap.size
 srt:Srt st.V
 hv:∀p∈st.V,p.1.length<=24/\p.2.length<=128
 hg:st.gen<=18446744073709551615
 hn:st.nxt<=900
 hb:st.blk<=1000
 vl:st.V.length<=st.nxt+1
section
variable {w w':World}{D DS:Nat->Prop}{S X:Nat}{st:ST}{y:RLay}{fl:FL}
theorem RS.ch {C:Nat->Prop}(h:RS w D S X st)(c:Ch C w w')(hC:∀k,D k->¬C k):RS w' D S X st:=by
 obtain⟨a,c1,h1,h2,h3⟩:=h.ex
 exact { h with ex:=⟨a,c1,h1.ch c (hC _ h.dS),h2.ch c (λg e=>hC g (h3 g e).1),h3⟩,fin:=λk hk=>Nat.lt_of_lt_of_le (h.fin k hk) c.size }
theorem RS.below (h:RS w D S X st)(c:Below w.heap.size w w'):RS w' D S X st:=h.ch (Ch.of_below c (λ_=>False)) (λ_ _ h=>h)
theorem RS.c0 (h:RS w D S X st):w.cell? ⟨S,0,none⟩=some (fptr X):=by obtain⟨a,c,h1,_⟩:=h.ex;exact h1.cell (i:=0) (by omega)
theorem RS.c1 (h:RS w D S X st):∃a c,w.cell? ⟨S,1,none⟩=some (.slice a st.V.length c)/\VS w a c st.V:=by obtain⟨a,c,h1,h2,_⟩:=h.ex;exact⟨a,c,h1.cell (i:=1) (by omega),h2⟩
theorem RS.c2 (h:RS w D S X st):w.cell? ⟨S,2,none⟩=some (.int .i64 st.blk):=by obtain⟨a,c,h1,_⟩:=h.ex;exact h1.cell (i:=2) (by omega)
theorem RS.c3 (h:RS w D S X st):w.cell? ⟨S,3,none⟩=some (.int .u64 st.gen):=by obtain⟨a,c,h1,_⟩:=h.ex;exact h1.cell (i:=3) (by omega)
theorem RS.c4 (h:RS w D S X st):w.cell? ⟨S,4,none⟩=some (.int .i64 st.nxt):=by obtain⟨a,c,h1,_⟩:=h.ex;exact h1.cell (i:=4) (by omega)
theorem RS.c5 (h:RS w D S X st):w.cell? ⟨S,5,none⟩=some (.bool st.clo):=by obtain⟨a,c,h1,_⟩:=h.ex;exact h1.cell (i:=5) (by omega)
theorem RS.fr (h:RS w D S X st)(i:Nat):w.frozen? ⟨S,i,none⟩=false:=by obtain⟨a,c,h1,_⟩:=h.ex;exact h1.frozen i
theorem rget_any (h:RS w D S X st)(k:ByteArray):Calls Tryz.prog 109 #[fptr S,.string k] w λe w'=>e=.returned (.tuple #[str (getS st.V k.data.toList).1,.int .i64 (getS st.V k.data.toList).2])/\w=w':=by
 obtain⟨a,c,c1,hvs⟩:=h.c1
 have hvl:st.V.length<=1000:=by have:=h.vl;have:=h.hn;omega
 obtain⟨L,hL⟩:∃L,st.V.length=L:=⟨_,rfl⟩
 rw[hL] at c1 hvl
 have HL:=Hh hL
 have H:=Hh hvs
 have hcap:L<=c/\c<=maxLen:=by have:=hvs.1;have:=hvs.2.1;omega
 generalize st.V=V at *
 clear h hvs hL
 go_enter Tryz.func109,Tryz.ntmps109
 go_wp2_with fail
 go_loop [6] (λz=>∃i:Nat,i<=L/\z=.int .i64 (i:Int)/\Hid (∀j,j<i->(V.getD j ([],[])).1≠k.data.toList)) (λz=>L-(intOf z).toNat)
 case atStart=>exact⟨0,by omega,rfl,λj hj=>by omega⟩
 case round=>
  obtain⟨i,hi,rfl,HJ⟩:=hrel
  by_cases hlt:i<L
  ·have y0:(i:Int)<L:=by omega
   obtain⟨gw,hgw,hgl,hcell⟩:=H.out.2.2 (by intro e;have:=HL.out;rw[e] at this;simp at this;omega)
   obtain⟨d0,d1⟩:=hcell i (by rw[HL.out];exact hlt)
   obtain⟨pk,hpk⟩:∃p,V.getD i ([],[])=p:=⟨_,rfl⟩
   rw[hpk] at d0 d1
   obtain⟨ke,hke⟩:∃s:ByteArray,str pk.1=.string s:=⟨_,rfl⟩
   obtain⟨kv,hkv⟩:∃s:ByteArray,str pk.2=.string s:=⟨_,rfl⟩
   have hkel:ke.data.toList=pk.1:=by injection hke with hke;rw[<-hke]
   rw[hke] at d0
   rw[hkv] at d1
   subst hgw
   by_cases heq:pk.1=k.data.toList
   ·have hd:(ke.toList==k.toList)=true:=by rw[ByteArray.toList_eq,ByteArray.toList_eq,hkel,heq];simp
    have hf:=getV_first (V:=V) (i:=i) (by rw[HL.out];exact hlt) HJ.out (by rw[hpk];exact heq)
    rw[hpk] at hf
    have HF:Hid (getS V k.data.toList=(pk.2,0)):=by show _=_;unfold getS;rw[hf]
    have HKV:Hid (str pk.2=.string kv):=hkv
    clear hf hpk heq hke hkv hkel hcell
    go_wp2_with fail
    go_ret2
    rw[HF.out]
    exact⟨by rw[<-HKV.out];rfl,rfl⟩
   ·have hd:(ke.toList==k.toList)=false:=by rw[ByteArray.toList_eq,ByteArray.toList_eq,hkel];simpa using heq
    have HJ2:Hid (∀j,j<i+1->(V.getD j ([],[])).1≠k.data.toList):=λj hj=>by
     rcases(by omega:j<i\/j=i) with h1|h1
     ·exact HJ.out j h1
     ·rw[h1,hpk];exact heq
    clear hpk heq hke hkv hkel hcell
    go_wp2_with fail
    go_round
    case rel=>exact⟨i+1,by omega,by go_num,HJ2⟩
    case measure=>simp[intOf];omega
  ·have y0:¬(i:Int)<L:=by omega
   have hn:=getV_no (V:=V) (k:=k.data.toList) (λj hj=>HJ.out j (by rw[HL.out] at hj;omega))
   have HF:Hid (getS V k.data.toList=([],6)):=by show _=_;unfold getS;rw[hn]
   clear hn
   go_wp2_with fail
   go_ret2
   rw[HF.out]
   exact⟨rfl,rfl⟩
theorem rwrite_any (h:RW w D X y fl){b p g cap n:Nat}{cs:List Str}(hb:b<fl.B)(hS:w.cell? ⟨S,0,none⟩=some (fptr X))(hSl:S<w.heap.size)(hSD:¬D S)(hps:PS w g 0 cap cs)(hgD:¬D g)(hl:P64 cs)(hn:cs.length=n)(hp:p+n<=fl.P) :
  Calls Tryz.prog 149 #[fptr S,.int .i64 b,.int .i64 p,.slice (some ⟨g,0,none⟩) n cap] w λe w'=>e=.returned (.int .i64 (wrL fl b p cs).1)/\RW w' D X y (wrL fl b p cs).2/\Ch D w w':=by
 have hP:=h.hP
 have HB:=Hh hb
 have HP:=Hh hp
 have H:=Hh h
 have HPS:=Hh hps
 have HSC:=Hh hS
 have HN:=Hh hn
 have HL:=Hh hl
 have HX:Hid (¬D S/\¬D g/\S<w.heap.size):=⟨hSD,hgD,hSl⟩
 have hcap:n<=cap/\cap<=maxLen:=by have:=hps.2.1;have:=hps.2.2.1;omega
 have hpn:p+n<=32:=by omega
 have HC:Hid (Ch D w w):=Ch.refl _ _
 have HW0:Hid (∃f',RW w D X y f'/\f'.B=fl.B/\f'.P=fl.P/\wrL fl b p cs=wrL f' b (p+0) (cs.drop 0)):=⟨fl,h,rfl,rfl,rfl⟩
 clear h hS hSl hSD hps hgD hl hn hp hb
 go_enter Tryz.func149,Tryz.ntmps149
 go_wp2_with fail
 go_loopw [9] (λz wr=>∃i:Nat,i<=n/\z=.int .i64 (i:Int)/\Hid (∃f',RW wr D X y f'/\f'.B=fl.B/\f'.P=fl.P/\wrL fl b p cs=wrL f' b (p+i) (cs.drop i))/\Hid (Ch D w wr)) (λz _=>n-(intOf z).toNat)
 case atStart=>exact⟨0,by omega,rfl,HW0,HC⟩
 case round=>
  clear HW0 HC
  obtain⟨i,hi,rfl,HW,HC⟩:=hrel
  by_cases hlt:i<n
  ·have y0:(i:Int)<n:=by omega
   obtain⟨f',hrw,eB,eP,hw⟩:=HW.out
   obtain⟨pe,hpe⟩:∃pe:ByteArray,str (cs.getD i [])=.string pe:=⟨_,rfl⟩
   have hpel:pe.data.toList=cs.getD i []:=by injection hpe with hpe;rw[<-hpe]
   have hps:pe.size=64:=by
    have h9:pe.data.toList.length=pe.size:=Array.length_toList
    rw[<-h9,hpel,List.getD_eq_getElem?_getD,List.getElem?_eq_getElem (by rw[HN.out];exact hlt)]
    exact HL.out _ (List.getElem_mem _)
   have hdr:cs.drop i=cs.getD i []::cs.drop (i+1):=by
    rw[List.drop_eq_getElem_cons (by rw[HN.out];exact hlt),List.getD_eq_getElem?_getD,List.getElem?_eq_getElem (by rw[HN.out];exact hlt)]
    rfl
   rw[hdr,<-hpel] at hw
   have S0:Hid (wr.drew.cell? ⟨S,0,none⟩=some (fptr X)/\wr.drew.cell? ⟨g,i,none⟩=some (.string pe)):=by
    refine⟨(HC.out.cell (p:=⟨S,0,none⟩) HX.out.2.2 HX.out.1).trans HSC.out,?_⟩
    have:=HPS.out.2.2.2 i (by rw[HN.out];exact hlt)
    rw[Nat.zero_add,hpe] at this
    exact(HC.out.cell (p:=⟨g,i,none⟩) HPS.out.1 HX.out.2.1).trans this
   have HPR:=Hh (rprogram_any (hrw.drew) (b:=b) (p:=p+i) (by rw[eB];exact HB.out) (by rw[eP];have:=HP.out;omega) hps)
   obtain⟨e2,f2,hr⟩:∃e f,progF f' b (p+i) pe.data.toList=(e,f):=⟨_,_,rfl⟩
   have hsm:=progF_same f' b (p+i) pe.data.toList
   rw[hr] at HPR hsm
   have hPR:Hid (Calls Tryz.prog 95 #[fptr X,.int .i64 b,.int .i64 ((p:Int)+(i:Int)),.string pe] wr.drew λe w'=>e=.returned (.int .i64 e2)/\RW w' D X y f2/\Ch D wr.drew w'):=HPR
   have HC2:Hid (Ch D w wr.drew):=HC.out.drew
   by_cases he:e2=0
   ·have hw2:wrL fl b p cs=wrL f2 b (p+(i+1)) (cs.drop (i+1)):=by
     rw[hw]
     show(if (progF f' b (p+i) pe.data.toList).1=0 then _ else _)=_
     rw[hr,if_pos he]
     rfl
    have HW2:=Hh hw2
    have HE:Hid (f2.B=fl.B/\f2.P=fl.P):=⟨hsm.1.trans eB,hsm.2.trans eP⟩
    clear hrw eB eP hw hpe hpel hps hdr HPR hr hsm hw2 HW HC
    subst he
    go_wp2_with fail
    have hwp:IntKind.i64.wrap ((p:Int)+(i:Int))=(p:Int)+(i:Int):=IntWalk.i64_in _ ⟨by omega,by omega⟩
    refine wp_region_pl (λ Y=>Y.cell? ⟨S,0,none⟩=some (fptr X)/\Y.cell? ⟨g,i,none⟩=some (.string pe)) ((0,0)::(1,0)::(2,0)::(3,0)::(4,0)::(5,0)::(6,0)::(7,0)::(8,0)::(9,0)::(10,0)::(11,0)::(12,1)::(13,2)::[]) (by kernel_rfl) (by kernel_rfl) ?_
    iterate 12 (apply wpP_go;rfl;rfl;exact S0.out;(rintro Z ⟨s0,s1⟩;go_simp;exact rfl);intro K hK;go_simp;refine hK _ ?_;clear hK K)
    apply wpP_one
    rfl
    intro K hK
    go_simp
    refine hPR.out.mono ?_
    rintro e V1 ⟨rfl,h1,c1⟩
    have HW3:Hid (∃f',RW V1 D X y f'/\f'.B=fl.B/\f'.P=fl.P/\wrL fl b p cs=wrL f' b (p+(i+1)) (cs.drop (i+1))):=⟨f2,h1,HE.out.1,HE.out.2,HW2.out⟩
    have HC3:Hid (Ch D w V1):=HC2.out.trans c1
    have hs1:=HC2.out.size
    refine hK _ _ ⟨(c1.cell (p:=⟨S,0,none⟩) (Nat.lt_of_lt_of_le HX.out.2.2 hs1) HX.out.1).trans S0.out.1,(c1.cell (p:=⟨g,i,none⟩) (Nat.lt_of_lt_of_le HPS.out.1 hs1) HX.out.2.1).trans S0.out.2⟩ ?_
    clear hK K h1 c1 S0 hs1
    apply wpP_two
    rfl
    intro K hK
    go_simp
    refine hK _ _ ?_
    clear hK K
    refine wpP_done ?_
    go_wp2_with fail
    go_roundw
    case rel=>exact⟨i+1,by omega,by go_num,HW3,HC3⟩
    case measure=>simp[intOf];omega
   ·have hw2:wrL fl b p cs=(e2,f2):=by
     rw[hw]
     show(if (progF f' b (p+i) pe.data.toList).1=0 then _ else _)=_
     rw[hr,if_neg he]
    have HW2:=Hh hw2
    have hb0:(e2==0)=false:=by rw[beq_eq_false_iff_ne];exact he
    clear hrw eB eP hw hpe hpel hps hdr HPR hr hsm hw2 HW HC
    go_wp2_with fail
    have hwp:IntKind.i64.wrap ((p:Int)+(i:Int))=(p:Int)+(i:Int):=IntWalk.i64_in _ ⟨by omega,by omega⟩
    refine wp_region_pl (λ Y=>Y.cell? ⟨S,0,none⟩=some (fptr X)/\Y.cell? ⟨g,i,none⟩=some (.string pe)) ((0,0)::(1,0)::(2,0)::(3,0)::(4,0)::(5,0)::(6,0)::(7,0)::(8,0)::(9,0)::(10,0)::(11,0)::(12,1)::(13,2)::[]) (by kernel_rfl) (by kernel_rfl) ?_
    iterate 12 (apply wpP_go;rfl;rfl;exact S0.out;(rintro Z ⟨s0,s1⟩;go_simp;exact rfl);intro K hK;go_simp;refine hK _ ?_;clear hK K)
    apply wpP_one
    rfl
    intro K hK
    go_simp
    refine hPR.out.mono ?_
    rintro e V1 ⟨rfl,h1,c1⟩
    have H1:=Hh h1
    have HC3:Hid (Ch D w V1):=HC2.out.trans c1
    have hs1:=HC2.out.size
    refine hK _ _ ⟨(c1.cell (p:=⟨S,0,none⟩) (Nat.lt_of_lt_of_le HX.out.2.2 hs1) HX.out.1).trans S0.out.1,(c1.cell (p:=⟨g,i,none⟩) (Nat.lt_of_lt_of_le HPS.out.1 hs1) HX.out.2.1).trans S0.out.2⟩ ?_
    clear hK K h1 c1 S0 hs1
    apply wpP_two
    rfl
    intro K hK
    go_simp
    refine hK _ _ ?_
    clear hK K
    refine wpP_done ?_
    go_wp2_with fail
    go_ret
    rw[HW2.out]
    exact⟨rfl,H1.out,HC3.out⟩
  ·have y0:¬(i:Int)<n:=by omega
   obtain⟨f',hrw,eB,eP,hw⟩:=HW.out
   have hd:cs.drop i=[]:=List.drop_of_length_le (by rw[HN.out];omega)
   rw[hd] at hw
   have HF:Hid (wrL fl b p cs=(0,f')):=hw
   have H1:=Hh hrw
   clear hrw eB eP hw hd HW
   go_wp2_with fail
   go_ret
   rw[HF.out]
   exact⟨rfl,H1.out,HC.out⟩
end
end
end Go.Proofs.YtdinbpdpalgohaaGreatDoor
