/- Walks and laws: N O P Q R. Conditions: those that each theorem names. -/
import Derived.Maps.OwnSet
import Derived.Sort.KeysCollected
import Derived.RangeFuncBound
import Derived.Test.YtdinbpdpalgohaaGreatDoorX2
import Derived.Test.YtdinbpdpalgohaaGreatDoorSm
import Derived.Test.YtdinbpdpalgohaaGreatDoorSi
set_option maxHeartbeats 8000000
set_option maxRecDepth 100000
namespace Go.Proofs.YtdinbpdpalgohaaGreatDoor
open Go.RowKit
def dec (ps:List Str):Option (Nat×Str×Str×Nat):=
 let f:=ps.getD 0 []
 let k:=(f.getD 0 0).toNat
 let n:=(f.getD 1 0).toNat
 let v:=(f.getD 2 0).toNat
 if okLens k n v=false then none else
 if ps.length<pgs (5+n+v) then none else
 let all:=(ps.take (pgs (5+n+v))).flatten
 let name:=(all.drop 5).take n
 let value:=(all.drop (5+n)).take v
 if all.take (5+n+v)=recd k name value/\zeros (all.drop (5+n+v))=0 then some (k,name,value,pgs (5+n+v)) else none
def decV:Option (Nat×Str×Str×Nat)->Value
 | none=>.tuple #[.agg #[.int .i64 0,str [],str [],.int .i64 0],.bool false]
 | some (k,n,v,c)=>.tuple #[.agg #[.int .i64 k,str n,str v,.int .i64 c],.bool true]
theorem inter_nil:∀xs:List Str,List.intercalate [] xs=xs.flatten
 | []=>rfl
 | [a]=>by simp[List.intercalate,List.intersperse]
 | a::b::r=>by
  have:=inter_nil (b::r)
  simp[List.intercalate,List.intersperse] at *
  exact this
theorem flat_len:∀(xs:List Str),(∀p∈xs,p.length=64)->xs.flatten.length=xs.length*64
 | [],_=>rfl
 | a::r,h=>by
  rw[List.flatten_cons,List.length_append,flat_len r (λp hp=>h p (List.mem_cons_of_mem _ hp)),h a (by simp),List.length_cons]
  omega
theorem res2 {fn:Func}{p u:Tmp}{ty:TypeId}(h:fn.results=#[.cell p ty,.tmp u])(tmps:Array Value)(w:World)(g:Nat)(cs:Array Value)(y:Value)
  (hp:tmps.getD p undef=.pointer (some ⟨g,0,none⟩)) (hy:tmps.getD u undef=y) (hl:(loadVar ty ⟨g,0,none⟩).run Tryz.prog w=.ok (.agg cs) w) :
  (results fn tmps).run Tryz.prog w=.ok (.tuple #[.agg cs,y]) w:=by
 rw[results_cell_tmp h,hp,hy]
 simp[asAddr,hl,Result.andThen]
theorem Row.arr4 {w:World}{B t:Nat}{v:Nat->Value}(h:Row w B t 4 v):w.heap[B]? = some (.cells #[v 0,v 1,v 2,v 3] t (0,0)):=by
 obtain⟨cs,hh,h1,h2⟩:=h
 rw[hh]
 have:cs=#[v 0,v 1,v 2,v 3]:=by
  apply Array.ext
  ·rw[h1];rfl
  ·intro i hi hj
   have h3:=h2 i (by omega)
   rw[Array.getElem?_eq_getElem hi] at h3
   injection h3 with h3
   rw[h3]
   rcases(by omega:i=0\/i=1\/i=2\/i=3) with rfl|rfl|rfl|rfl<;>rfl
 rw[this]
theorem Row.load4 {w:World}{B:Nat}{v:Nat->Value}(h:Row w B 160 4 v):(loadVar 160 ⟨B,0,none⟩).run Tryz.prog w=.ok (.agg #[v 0,v 1,v 2,v 3]) w:=
 run_loadVar_row w B 160 _ _ (0,0) _ h.arr4 Tryz.underlying160 rfl (by kernel_rfl)
theorem Row.set4 {w:World}{B t:Nat}{v:Nat->Value}(h:Row w B t 4 v)(a b c d:Value):Row ((((w.setCell ⟨B,0,none⟩ a).setCell ⟨B,1,none⟩ b).setCell ⟨B,2,none⟩ c).setCell ⟨B,3,none⟩ d) B t 4 (λj=>if j=0 then a else if j=1 then b else if j=2 then c else d):=
 ((((h.set (i:=0) (by omega) a).set (i:=1) (by omega) b).set (i:=2) (by omega) c).set (i:=3) (by omega) d).congr λj hj=>by
  rcases(by omega:j=0\/j=1\/j=2\/j=3) with rfl|rfl|rfl|rfl<;>rfl
theorem dec_end {w W:World}{R:Nat}{vv:Nat->Value}(hb:Below w.heap.size w W)(hR:w.heap.size=R)(hr:Row W R 160 4 vv)(a b c d:Value)(ok:Bool){tmps:Array Value}{r:Value}
  (hp:tmps.getD 2 undef=.pointer (some ⟨R,0,none⟩)) (hy:tmps.getD 3 undef=.bool ok) (hQ:r=.tuple #[.agg #[a,b,c,d],.bool ok]) :
  bodyPost Tryz.prog Tryz.f99 (λe w'=>e=.returned r/\Below w.heap.size w w') Exit.ret { tmps:=tmps,defers:=[] } ((((W.setCell ⟨R,0,none⟩ a).setCell ⟨R,1,none⟩ b).setCell ⟨R,2,none⟩ c).setCell ⟨R,3,none⟩ d):=
 bodyPost_ret (v:=.tuple #[.agg #[a,b,c,d],.bool ok]) (res2 rfl _ _ R #[a,b,c,d] (.bool ok) hp hy ((hr.set4 a b c d).load4)) rfl
  ⟨by rw[hQ],(((hb.setCell (p:=⟨R,0,none⟩) (by show w.heap.size<=R;omega) _).setCell (p:=⟨R,1,none⟩) (by show w.heap.size<=R;omega) _).setCell (p:=⟨R,2,none⟩) (by show w.heap.size<=R;omega) _).setCell (p:=⟨R,3,none⟩) (by show w.heap.size<=R;omega) _⟩
theorem dec_end2 {w W:World}{R:Nat}{vv:Nat->Value}(hb:Below R w W)(hr:Row W R 160 4 vv)(a b c d:Value)(ok:Bool){tmps:Array Value}{r:Value}
  (hp:tmps.getD 2 undef=.pointer (some ⟨R,0,none⟩)) (hy:tmps.getD 3 undef=.bool ok) (hQ:r=.tuple #[.agg #[a,b,c,d],.bool ok]) :
  bodyPost Tryz.prog Tryz.f99 (λe w'=>e=.returned r/\Below R w w') Exit.ret { tmps:=tmps,defers:=[] } ((((W.setCell ⟨R,0,none⟩ a).setCell ⟨R,1,none⟩ b).setCell ⟨R,2,none⟩ c).setCell ⟨R,3,none⟩ d):=
 bodyPost_ret (v:=.tuple #[.agg #[a,b,c,d],.bool ok]) (res2 rfl _ _ R #[a,b,c,d] (.bool ok) hp hy ((hr.set4 a b c d).load4)) rfl
  ⟨by rw[hQ],(((hb.setCell (p:=⟨R,0,none⟩) (Nat.le_refl _) _).setCell (p:=⟨R,1,none⟩) (Nat.le_refl _) _).setCell (p:=⟨R,2,none⟩) (Nat.le_refl _) _).setCell (p:=⟨R,3,none⟩) (Nat.le_refl _) _⟩
theorem decode_any {w:World}{g o cap m:Nat}{ps:List Str}(h:PS w g o cap ps)(hm:ps.length=m)(h1:1<=m)(h2:m<=32)(hl:∀p∈ps,p.length=64) :
  Calls Tryz.prog 99 #[.slice (some ⟨g,o,none⟩) m cap] w λe w'=>e=.returned (decV (dec ps))/\Below w.heap.size w w':=by
 obtain⟨f,hf⟩:∃f:ByteArray,f=⟨(ps.getD 0 []).toArray⟩:=⟨_,rfl⟩
 have hfl:f.data.toList=ps.getD 0 []:=by rw[hf]
 have hfs:f.size=64:=by
  have h0:0<ps.length:=by omega
  have:ps.getD 0 []=ps[0]:=by rw[List.getD_eq_getElem?_getD,List.getElem?_eq_getElem h0];rfl
  have h3:=hl _ (List.getElem_mem h0)
  rw[hf,this]
  show(ps[0].toArray).size=64
  simpa using h3
 have B0:Below w.heap.size w (w.alloc (.cells #[.int .i64 0,.string ⟨#[]⟩,.string ⟨#[]⟩,.int .i64 0] 160)):=(Below.refl _ _).alloc (Nat.le_refl _) _
 have hc0:(w.alloc (.cells #[.int .i64 0,.string ⟨#[]⟩,.string ⟨#[]⟩,.int .i64 0] 160)).cell? ⟨g,o,none⟩=some (.string f):=by
  rw[(B0.cell (p:=⟨g,o,none⟩) h.1)]
  have:=h.2.2.2 0 (by omega)
  rw[Nat.add_zero] at this
  rw[this,hf]
 have hcapI:m<=cap:=by have:=h.2.1;omega
 have hcapM:=h.2.2.1
 have H:=Hh h
 have HFL:=Hh hfl
 clear h hf hfl
 go_enter Tryz.func99,Tryz.ntmps99
 go_wp2_with fail
 refine wp_region_pl (λ_=>True) ((0,0)::(1,0)::(2,0)::(3,0)::(4,0)::(5,0)::(6,0)::(7,0)::(8,0)::(9,0)::(10,0)::(11,0)::[]) (by kernel_rfl) (by kernel_rfl) ?_
 iterate 12 (apply wpP_go;rfl;rfl;exact trivial;(rintro Z _;go_simp;exact rfl);intro K hK;go_simp;refine hK _ ?_;clear hK K)
 refine wpP_done ?_
 have hk0:(f[0]'(by omega)).toNat=(f.data.toList.getD 0 0).toNat:=by
  rw[List.getD_eq_getElem?_getD,List.getElem?_eq_getElem (by rw[Array.length_toList];exact(by omega:0<f.size))];rfl
 have hk1:(f[1]'(by omega)).toNat=(f.data.toList.getD 1 0).toNat:=by
  rw[List.getD_eq_getElem?_getD,List.getElem?_eq_getElem (by rw[Array.length_toList];exact(by omega:1<f.size))];rfl
 have hk2:(f[2]'(by omega)).toNat=(f.data.toList.getD 2 0).toNat:=by
  rw[List.getD_eq_getElem?_getD,List.getElem?_eq_getElem (by rw[Array.length_toList];exact(by omega:2<f.size))];rfl
 rw[HFL.out] at hk0 hk1 hk2
 have hl0:(f[0]'(by omega)).toNat<256:=(f[0]'(by omega)).toNat_lt
 have hl1:(f[1]'(by omega)).toNat<256:=(f[1]'(by omega)).toNat_lt
 have hl2:(f[2]'(by omega)).toNat<256:=(f[2]'(by omega)).toNat_lt
 generalize (f[0]'(by omega)).toNat=k at *
 generalize (f[1]'(by omega)).toNat=n at *
 generalize (f[2]'(by omega)).toNat=v at *
 have HDC:Hid (dec ps=if okLens k n v=false then none else if ps.length<pgs (5+n+v) then none else if (ps.take (pgs (5+n+v))).flatten.take (5+n+v)=recd k ((((ps.take (pgs (5+n+v))).flatten).drop 5).take n) ((((ps.take (pgs (5+n+v))).flatten).drop (5+n)).take v)/\zeros ((ps.take (pgs (5+n+v))).flatten.drop (5+n+v))=0 then some (k,(((ps.take (pgs (5+n+v))).flatten).drop 5).take n,(((ps.take (pgs (5+n+v))).flatten).drop (5+n)).take v,pgs (5+n+v)) else none):=by
  show _=_
  unfold dec
  dsimp only
  rw[<-hk0,<-hk1,<-hk2]
 have wk:IntKind.i64.wrap (k:Int)=(k:Int):=IntWalk.i64_in _ ⟨by omega,by omega⟩
 have wn:IntKind.i64.wrap (n:Int)=(n:Int):=IntWalk.i64_in _ ⟨by omega,by omega⟩
 have wv:IntKind.i64.wrap (v:Int)=(v:Int):=IntWalk.i64_in _ ⟨by omega,by omega⟩
 rw[wk,wn,wv]
 obtain⟨w1,hw1⟩:∃w1,(w.alloc (.cells #[.int .i64 0,.string ⟨#[]⟩,.string ⟨#[]⟩,.int .i64 0] 160)).drew=w1:=⟨_,rfl⟩
 have HB1:Hid (Below w.heap.size w w1):=by rw[<-hw1];exact B0.drew
 have HR1:Hid (Row w1 w.heap.size 160 4 (λj=>if j=0 then .int .i64 0 else if j=1 then str [] else if j=2 then str [] else .int .i64 0)):=by
  rw[<-hw1]
  have:=Row.ofList w 160 #[.int .i64 0,.string ⟨#[]⟩,.string ⟨#[]⟩,.int .i64 0] (λj=>if j=0 then .int .i64 0 else if j=1 then str [] else if j=2 then str [] else .int .i64 0) 4 rfl
  exact this.drew
 clear hk0 hk1 hk2 hc0 B0
 rw[hw1]
 clear wk wn wv hw1
 have HPM:=Hh (permitted_any k n v w1 (by omega) (by omega))
 obtain⟨R,hR⟩:∃R,w.heap.size=R:=⟨_,rfl⟩
 have HRS:=Hh hR
 rw[hR] at HR1 ⊢
 have r0:=HR1.out.cell (i:=0) (by omega)
 have r1:=HR1.out.cell (i:=1) (by omega)
 have r2:=HR1.out.cell (i:=2) (by omega)
 have r3:=HR1.out.cell (i:=3) (by omega)
 have f0:=HR1.out.frozen 0
 have f1:=HR1.out.frozen 1
 have f2:=HR1.out.frozen 2
 have f3:=HR1.out.frozen 3
 rcases hok:okLens k n v with _|_
 ·rw[hok] at HPM
  have HDN:Hid (dec ps=none):=by
   show _=_
   rw[HDC.out,if_pos hok]
  go_wp2_with fail
  refine HPM.out.mono ?_
  rintro e w' ⟨rfl,rfl⟩
  go_wp2_with fail
  exact dec_end HB1.out HRS.out HR1.out _ _ _ _ _ rfl rfl (by rw[HDN.out];rfl)
 ·rw[hok] at HPM
  have hns:¬(okLens k n v=false):=by rw[hok];simp
  have HPG:=Hh (pagesOf_any (5+n+v) w1 (by omega))
  obtain⟨len,hlen⟩:∃len,5+n+v=len:=⟨_,rfl⟩
  obtain⟨cnt,hcnt⟩:∃cnt,pgs len=cnt:=⟨_,rfl⟩
  have hlenI:(5:Int)+n+v=len:=by omega
  rw[hlen,hcnt] at HPG HDC
  rw[if_neg hns] at HDC
  clear hok hns
  by_cases hgt:m<cnt
  ·have hgI:(m:Int)<cnt:=by omega
   have hgd:decide ((cnt:Int) > m)=true:=by simpa using hgt
   have HDN:Hid (dec ps=none):=by
    show _=_
    rw[HDC.out,if_pos (by omega)]
   go_wp2_with fail
   refine HPM.out.mono ?_
   rintro e w' ⟨rfl,rfl⟩
   go_wp2_with fail
   refine HPG.out.mono ?_
   rintro e w' ⟨rfl,rfl⟩
   go_wp2_with fail
   exact dec_end HB1.out HRS.out HR1.out _ _ _ _ _ rfl rfl (by rw[HDN.out];rfl)
  ·have hgI:¬(m:Int)<cnt:=by omega
   have hcm:cnt<=m:=by omega
   rw[if_neg (by omega)] at HDC
   have hc1:1<=cnt:=by rw[<-hcnt,<-hlen];unfold pgs;omega
   have hPS:PS w1 g o cap (ps.take cnt):=(H.out.below HB1.out).take (by omega)
   obtain⟨xs,hxs⟩:∃xs:List ByteArray,xs=(ps.take cnt).map λp=>⟨p.toArray⟩:=⟨_,rfl⟩
   have hxl:xs.length=cnt:=by rw[hxs,List.length_map,List.length_take];omega
   have hxm:xs.map (·.data.toList)=ps.take cnt:=by
    rw[hxs,List.map_map]
    conv=>rhs;rw[<-List.map_id (ps.take cnt)]
    apply List.map_congr_left
    intro p _
    rfl
   have hfl:(ps.take cnt).flatten.length=cnt*64:=by
    rw[flat_len _ (λp hp=>hl p (List.mem_of_mem_take hp)),List.length_take]
    congr 1
    omega
   have hjn:Lib.join (xs.map (·.data.toList)) (⟨#[]⟩:ByteArray).data.toList=(ps.take cnt).flatten:=by
    rw[hxm];exact inter_nil _
   have HJ:=Hh (Tryz.strings_Join g o cap xs ⟨#[]⟩ w1 (λj x hx=>by
    have hj:j<(ps.take cnt).length:=by have:=(List.getElem?_eq_some_iff.1 hx).1;rw[hxs,List.length_map] at this;exact this
    have:=hPS.2.2.2 j hj
    rw[this]
    rw[hxs,List.getElem?_map,List.getElem?_eq_getElem hj] at hx
    injection hx with hx
    rw[<-hx,List.getD_eq_getElem?_getD,List.getElem?_eq_getElem hj]
    rfl) hPS.1 (by omega) (by omega) (by rw[hjn,hfl];omega))
   rw[hjn,hxl] at HJ
   obtain⟨all,hall⟩:∃all:ByteArray,all=⟨(ps.take cnt).flatten.toArray⟩:=⟨_,rfl⟩
   have hal:all.data.toList=(ps.take cnt).flatten:=by rw[hall]
   have has:all.size=cnt*64:=by rw[<-hfl,<-hal,Array.length_toList];rfl
   rw[<-hall] at HJ
   rw[<-hal] at HDC
   have hlc:len<=cnt*64:=by rw[<-hcnt];exact pgs_le len
   have hcc:cnt<=cap:=by omega
   have hnl1:5+n<=len:=by omega
   clear hxs hxm hxl hjn hall hfl hPS hal
   go_wp2_with fail
   refine HPM.out.mono ?_
   rintro e w' ⟨rfl,rfl⟩
   go_wp2_with fail
   refine HPG.out.mono ?_
   rintro e w' ⟨rfl,rfl⟩
   go_wp2_with fail
   refine HJ.out.mono ?_
   rintro e w2 ⟨rfl,b2⟩
   have HR2:Hid (Row w2 R 160 4 (λj=>if j=0 then .int .i64 0 else if j=1 then str [] else if j=2 then str [] else .int .i64 0)):=HR1.out.ch (Ch.of_below b2 (λ_=>False)) id
   have HB2:Hid (Below w.heap.size w w2):=bthen HB1.out b2
   clear r0 r1 r2 r3 f0 f1 f2 f3 b2 HR1 HB1 HPM HPG HJ
   go_wp2_with fail
   have a1:(0:Int)<=5+(n:Int):=by omega
   have a2:(5:Int)+(n:Int)<=(cnt:Int)*64:=by omega
   have a3:(5:Int)<=5+(n:Int):=by omega
   have a4:(len:Int)<=(cnt:Int)*64:=by omega
   have a5:(5:Int)+(n:Int)<=(len:Int):=by omega
   have hw5:IntKind.i64.wrap (5+(n:Int))=5+(n:Int):=IntWalk.i64_in _ ⟨by omega,by omega⟩
   refine wp_region_pl (λ_=>True) ((0,0)::(1,0)::(2,0)::(3,0)::(4,0)::(5,0)::(6,0)::(7,0)::(8,0)::(9,0)::(10,0)::(11,0)::(12,1)::(13,1)::[]) (by kernel_rfl) (by kernel_rfl) ?_
   iterate 12 (apply wpP_go;rfl;rfl;exact trivial;(rintro Z _;go_simp;exact rfl);intro K hK;go_simp;refine hK _ ?_;clear hK K)
   apply wpP_one
   rfl
   intro K hK
   go_simp
   refine hK _ _ trivial ?_
   clear hK K
   apply wpP_one
   rfl
   intro K hK
   go_simp
   refine hK _ _ trivial ?_
   clear hK K
   refine wpP_done ?_
   obtain⟨nm,hnm⟩:∃nm:ByteArray,all.extract 5 (5+(n:Int)).toNat=nm:=⟨_,rfl⟩
   obtain⟨vl,hvl⟩:∃vl:ByteArray,all.extract (5+(n:Int)).toNat len=vl:=⟨_,rfl⟩
   have e5:(5+(n:Int)).toNat=5+n:=by omega
   have hnml:nm.data.toList=(all.data.toList.drop 5).take n:=by rw[<-hnm,e5,ext_toList];congr 1;omega
   have hvll:vl.data.toList=(all.data.toList.drop (5+n)).take v:=by rw[<-hvl,e5,ext_toList];congr 1;omega
   have hnms:nm.size=n:=by rw[<-hnm,e5,ext_size _ _ _ (by omega)];omega
   have hvls:vl.size=v:=by rw[<-hvl,e5,ext_size _ _ _ (by omega)];omega
   rw[hnm,hvl]
   rw[<-hnml,<-hvll] at HDC
   clear hnm hvl hnml hvll a2 a3 a5 hw5
   obtain⟨w3,hw3⟩:∃w3,(w2.alloc (.cells #[.int .i64 k,.string nm,.string vl,.int .i64 cnt] 160)).drew=w3:=⟨_,rfl⟩
   have B3:Below w2.heap.size w2 w3:=by rw[<-hw3];exact((Below.refl _ _).alloc (Nat.le_refl _) _).drew
   obtain⟨T,hT⟩:∃T,w2.heap.size=T:=⟨_,rfl⟩
   have HRT:Hid (Row w3 T 160 4 (λj=>if j=0 then .int .i64 k else if j=1 then .string nm else if j=2 then .string vl else .int .i64 cnt)):=by
    rw[<-hw3,<-hT]
    have:=Row.ofList w2 160 #[.int .i64 k,.string nm,.string vl,.int .i64 cnt] (λj=>if j=0 then .int .i64 k else if j=1 then .string nm else if j=2 then .string vl else .int .i64 cnt) 4 rfl
    exact this.drew
   have HR3:Hid (Row w3 R 160 4 (λj=>if j=0 then .int .i64 0 else if j=1 then str [] else if j=2 then str [] else .int .i64 0)):=HR2.out.ch (Ch.of_below B3 (λ_=>False)) id
   have HB3:Hid (Below w.heap.size w w3):=bthen HB2.out B3
   rw[hw3,hT]
   clear HR2 HB2 B3 hT hw3
   have t0:w3.cell? ⟨T,0,none⟩=some (.int .i64 k):=HRT.out.cell (i:=0) (by omega)
   have t1:w3.cell? ⟨T,1,none⟩=some (.string nm):=HRT.out.cell (i:=1) (by omega)
   have t2:w3.cell? ⟨T,2,none⟩=some (.string vl):=HRT.out.cell (i:=2) (by omega)
   have S0:Hid (w3.drew.cell? ⟨T,0,none⟩=some (.int .i64 k)/\w3.drew.cell? ⟨T,1,none⟩=some (.string nm)/\w3.drew.cell? ⟨T,2,none⟩=some (.string vl)):=⟨t0,t1,t2⟩
   have HEN:=Hh (encode_any k nm vl w3.drew (by omega) (by omega) (by omega))
   obtain⟨er,her⟩:∃er:ByteArray,er=⟨(recd k nm.data.toList vl.data.toList).toArray⟩:=⟨_,rfl⟩
   have herl:er.data.toList=recd k nm.data.toList vl.data.toList:=by rw[her]
   rw[<-her] at HEN
   rw[<-herl] at HDC
   have hx1:(all.extract 0 len).data.toList=all.data.toList.take len:=by rw[ext_toList];rfl
   have hx2:(all.extract len (cnt*64)).data.toList=all.data.toList.drop len:=by rw[<-has];exact ext_end all len
   have hx2s:(all.extract len (cnt*64)).size<=1000000:=by rw[<-has,ext_size _ _ _ (Nat.le_refl _)];omega
   rw[<-hx1,<-hx2] at HDC
   clear her herl
   have hTl:=HRT.out.lt
   by_cases heq:all.extract 0 len=er
   ·have hee:((all.extract 0 len).toList==er.toList)=true:=by rw[heq];simp
    have HZ:=Hh (λ W=>zeroBits_any (all.extract len (cnt*64)) W hx2s)
    have heq2:(all.extract 0 len).data.toList=er.data.toList:=by rw[heq]
    have hzl:=zeros_le (all.extract len (cnt*64)).data.toList
    rw[Array.length_toList] at hzl
    have hzl2:zeros (all.extract len (cnt*64)).data.toList<=8000000:=by
     have:(all.extract len (cnt*64)).data.size<=1000000:=hx2s
     omega
    obtain⟨z,hz⟩:∃z,zeros (all.extract len (cnt*64)).data.toList=z:=⟨_,rfl⟩
    rw[hz] at HZ HDC hzl2
    have HE2:=Hh heq2
    clear hz hzl heq heq2 hx1 hx2 hx2s
    have a6:(len:Int)<=(cnt:Int)*64:=a4
    by_cases hz0:z=0
    ·subst hz0
     have HDN:Hid (dec ps=some (k,nm.data.toList,vl.data.toList,cnt)):=by
      show _=_
      rw[HDC.out,if_pos ⟨HE2.out,rfl⟩]
     go_wp2_with fail
     refine wp_region_pl (λ Y=>Y.cell? ⟨T,0,none⟩=some (.int .i64 k)/\Y.cell? ⟨T,1,none⟩=some (.string nm)/\Y.cell? ⟨T,2,none⟩=some (.string vl)) ((0,0)::(1,0)::(2,0)::(3,0)::(4,0)::(5,0)::(6,0)::(7,0)::(8,0)::(9,1)::(10,0)::(11,0)::(12,0)::(13,0)::(14,0)::(15,0)::(16,0)::(17,0)::[]) (by kernel_rfl) (by kernel_rfl) ?_
     iterate 9 (apply wpP_go;rfl;rfl;exact S0.out;(rintro Z ⟨s0,s1,s2⟩;go_simp;exact rfl);intro K hK;go_simp;refine hK _ ?_;clear hK K)
     apply wpP_one
     rfl
     intro K hK
     go_simp
     refine HEN.out.mono ?_
     rintro e w4 ⟨rfl,b4⟩
     have S4:Hid (w4.cell? ⟨T,0,none⟩=some (.int .i64 k)/\w4.cell? ⟨T,1,none⟩=some (.string nm)/\w4.cell? ⟨T,2,none⟩=some (.string vl)):=
      ⟨(b4.cell (p:=⟨T,0,none⟩) hTl).trans S0.out.1,(b4.cell (p:=⟨T,1,none⟩) hTl).trans S0.out.2.1,(b4.cell (p:=⟨T,2,none⟩) hTl).trans S0.out.2.2⟩
     have HR4:Hid (Row w4 R 160 4 (λj=>if j=0 then .int .i64 0 else if j=1 then str [] else if j=2 then str [] else .int .i64 0)):=(Row.drew HR3.out).ch (Ch.of_below b4 (λ_=>False)) id
     have HT4:Hid (Row w4 T 160 4 (λj=>if j=0 then .int .i64 k else if j=1 then .string nm else if j=2 then .string vl else .int .i64 cnt)):=(Row.drew HRT.out).ch (Ch.of_below b4 (λ_=>False)) id
     have HB4:Hid (Below w.heap.size w w4):=bthen HB3.out.drew b4
     refine hK _ _ S4.out ?_
     clear hK K
     clear S0 HR3 HRT HB3 b4 HEN t0 t1 t2
     iterate 2 (apply wpP_go;rfl;rfl;exact S4.out;(rintro Z ⟨s0,s1,s2⟩;go_simp;exact rfl);intro K hK;go_simp;refine hK _ ?_;clear hK K)
     iterate 3 (apply wpP_go;rfl;rfl;exact S4.out;(rintro Z ⟨s0,s1,s2⟩;go_simp;exact rfl);intro K hK;go_simp;refine hK _ ?_;clear hK K)
     apply wpP_call
     rfl
     rfl
     exact S4.out
     focus (rintro Z ⟨s0,s1,s2⟩;go_simp;exact⟨rfl,rfl⟩)
     focus (intro Z _;exact HZ.out Z)
     intro K hK
     go_simp
     refine hK _ ?_
     clear hK K
     iterate 2 (apply wpP_go;rfl;rfl;exact S4.out;(rintro Z ⟨s0,s1,s2⟩;go_simp;exact rfl);intro K hK;go_simp;refine hK _ ?_;clear hK K)
     refine wpP_done ?_
     have r0:=HR4.out.cell (i:=0) (by omega)
     have r1:=HR4.out.cell (i:=1) (by omega)
     have r2:=HR4.out.cell (i:=2) (by omega)
     have r3:=HR4.out.cell (i:=3) (by omega)
     have f0:=HR4.out.frozen 0
     have f1:=HR4.out.frozen 1
     have f2:=HR4.out.frozen 2
     have f3:=HR4.out.frozen 3
     have u0:w4.cell? ⟨T,0,none⟩=some (.int .i64 k):=HT4.out.cell (i:=0) (by omega)
     have u1:w4.cell? ⟨T,1,none⟩=some (.string nm):=HT4.out.cell (i:=1) (by omega)
     have u2:w4.cell? ⟨T,2,none⟩=some (.string vl):=HT4.out.cell (i:=2) (by omega)
     have u3:w4.cell? ⟨T,3,none⟩=some (.int .i64 cnt):=HT4.out.cell (i:=3) (by omega)
     clear S4 HT4
     go_wp2_with fail
     exact dec_end2 (by have:=HB4.out;rw[HRS.out] at this;exact this) HR4.out _ _ _ _ _ rfl rfl (by rw[HDN.out];rfl)
    ·have HDN:Hid (dec ps=none):=by
      show _=_
      rw[HDC.out,if_neg (λh=>hz0 h.2)]
     have hzI:((z:Int)==0)=false:=by
      rw[beq_eq_false_iff_ne];omega
     have hzN:¬(z:Int)=0:=by omega
     go_wp2_with fail
     refine wp_region_pl (λ Y=>Y.cell? ⟨T,0,none⟩=some (.int .i64 k)/\Y.cell? ⟨T,1,none⟩=some (.string nm)/\Y.cell? ⟨T,2,none⟩=some (.string vl)) ((0,0)::(1,0)::(2,0)::(3,0)::(4,0)::(5,0)::(6,0)::(7,0)::(8,0)::(9,1)::(10,0)::(11,0)::(12,0)::(13,0)::(14,0)::(15,0)::(16,0)::(17,0)::[]) (by kernel_rfl) (by kernel_rfl) ?_
     iterate 9 (apply wpP_go;rfl;rfl;exact S0.out;(rintro Z ⟨s0,s1,s2⟩;go_simp;exact rfl);intro K hK;go_simp;refine hK _ ?_;clear hK K)
     apply wpP_one
     rfl
     intro K hK
     go_simp
     refine HEN.out.mono ?_
     rintro e w4 ⟨rfl,b4⟩
     have S4:Hid (w4.cell? ⟨T,0,none⟩=some (.int .i64 k)/\w4.cell? ⟨T,1,none⟩=some (.string nm)/\w4.cell? ⟨T,2,none⟩=some (.string vl)):=
      ⟨(b4.cell (p:=⟨T,0,none⟩) hTl).trans S0.out.1,(b4.cell (p:=⟨T,1,none⟩) hTl).trans S0.out.2.1,(b4.cell (p:=⟨T,2,none⟩) hTl).trans S0.out.2.2⟩
     have HR4:Hid (Row w4 R 160 4 (λj=>if j=0 then .int .i64 0 else if j=1 then str [] else if j=2 then str [] else .int .i64 0)):=(Row.drew HR3.out).ch (Ch.of_below b4 (λ_=>False)) id
     have HT4:Hid (Row w4 T 160 4 (λj=>if j=0 then .int .i64 k else if j=1 then .string nm else if j=2 then .string vl else .int .i64 cnt)):=(Row.drew HRT.out).ch (Ch.of_below b4 (λ_=>False)) id
     have HB4:Hid (Below w.heap.size w w4):=bthen HB3.out.drew b4
     refine hK _ _ S4.out ?_
     clear hK K
     clear S0 HR3 HRT HB3 b4 HEN t0 t1 t2
     iterate 2 (apply wpP_go;rfl;rfl;exact S4.out;(rintro Z ⟨s0,s1,s2⟩;go_simp;exact rfl);intro K hK;go_simp;refine hK _ ?_;clear hK K)
     iterate 3 (apply wpP_go;rfl;rfl;exact S4.out;(rintro Z ⟨s0,s1,s2⟩;go_simp;exact rfl);intro K hK;go_simp;refine hK _ ?_;clear hK K)
     apply wpP_call
     rfl
     rfl
     exact S4.out
     focus (rintro Z ⟨s0,s1,s2⟩;go_simp;exact⟨rfl,rfl⟩)
     focus (intro Z _;exact HZ.out Z)
     intro K hK
     go_simp
     refine hK _ ?_
     clear hK K
     iterate 2 (apply wpP_go;rfl;rfl;exact S4.out;(rintro Z ⟨s0,s1,s2⟩;go_simp;exact rfl);intro K hK;go_simp;refine hK _ ?_;clear hK K)
     refine wpP_done ?_
     have r0:=HR4.out.cell (i:=0) (by omega)
     have r1:=HR4.out.cell (i:=1) (by omega)
     have r2:=HR4.out.cell (i:=2) (by omega)
     have r3:=HR4.out.cell (i:=3) (by omega)
     have f0:=HR4.out.frozen 0
     have f1:=HR4.out.frozen 1
     have f2:=HR4.out.frozen 2
     have f3:=HR4.out.frozen 3
     clear S4 HT4
     go_wp2_with fail
     exact dec_end2 (by have:=HB4.out;rw[HRS.out] at this;exact this) HR4.out _ _ _ _ _ rfl rfl (by rw[HDN.out];rfl)
   ·have HDN:Hid (dec ps=none):=by
     show _=_
     rw[HDC.out,if_neg]
     rintro ⟨h1,_⟩
     exact heq (ByteArray.ext (Array.toList_inj.1 h1))
    have hee:((all.extract 0 len).toList==er.toList)=false:=by
     rw[beq_eq_false_iff_ne,ByteArray.toList_eq,ByteArray.toList_eq]
     intro h1
     exact heq (ByteArray.ext (Array.toList_inj.1 h1))
    clear hx1 hx2 hx2s heq
    go_wp2_with fail
    refine wp_region_pl (λ Y=>Y.cell? ⟨T,0,none⟩=some (.int .i64 k)/\Y.cell? ⟨T,1,none⟩=some (.string nm)/\Y.cell? ⟨T,2,none⟩=some (.string vl)) ((0,0)::(1,0)::(2,0)::(3,0)::(4,0)::(5,0)::(6,0)::(7,0)::(8,0)::(9,1)::(10,0)::(11,0)::(12,0)::(13,0)::(14,0)::(15,0)::(16,0)::(17,0)::[]) (by kernel_rfl) (by kernel_rfl) ?_
    iterate 9 (apply wpP_go;rfl;rfl;exact S0.out;(rintro Z ⟨s0,s1,s2⟩;go_simp;exact rfl);intro K hK;go_simp;refine hK _ ?_;clear hK K)
    apply wpP_one
    rfl
    intro K hK
    go_simp
    refine HEN.out.mono ?_
    rintro e w4 ⟨rfl,b4⟩
    have S4:Hid (w4.cell? ⟨T,0,none⟩=some (.int .i64 k)/\w4.cell? ⟨T,1,none⟩=some (.string nm)/\w4.cell? ⟨T,2,none⟩=some (.string vl)):=
     ⟨(b4.cell (p:=⟨T,0,none⟩) hTl).trans S0.out.1,(b4.cell (p:=⟨T,1,none⟩) hTl).trans S0.out.2.1,(b4.cell (p:=⟨T,2,none⟩) hTl).trans S0.out.2.2⟩
    have HR4:Hid (Row w4 R 160 4 (λj=>if j=0 then .int .i64 0 else if j=1 then str [] else if j=2 then str [] else .int .i64 0)):=(Row.drew HR3.out).ch (Ch.of_below b4 (λ_=>False)) id
    have HT4:Hid (Row w4 T 160 4 (λj=>if j=0 then .int .i64 k else if j=1 then .string nm else if j=2 then .string vl else .int .i64 cnt)):=(Row.drew HRT.out).ch (Ch.of_below b4 (λ_=>False)) id
    have HB4:Hid (Below w.heap.size w w4):=bthen HB3.out.drew b4
    refine hK _ _ S4.out ?_
    clear hK K
    clear S0 HR3 HRT HB3 b4 HEN t0 t1 t2
    iterate 2 (apply wpP_go;rfl;rfl;exact S4.out;(rintro Z ⟨s0,s1,s2⟩;go_simp;exact rfl);intro K hK;go_simp;refine hK _ ?_;clear hK K)
    iterate 5 (apply wpP_not;rfl;rfl;exact S4.out;intro K hK;go_simp;refine hK _ ?_;clear hK K)
    iterate 1 (apply wpP_go;rfl;rfl;exact S4.out;(rintro Z ⟨s0,s1,s2⟩;go_simp;exact rfl);intro K hK;go_simp;refine hK _ ?_;clear hK K)
    refine wpP_done ?_
    have r0:=HR4.out.cell (i:=0) (by omega)
    have r1:=HR4.out.cell (i:=1) (by omega)
    have r2:=HR4.out.cell (i:=2) (by omega)
    have r3:=HR4.out.cell (i:=3) (by omega)
    have f0:=HR4.out.frozen 0
    have f1:=HR4.out.frozen 1
    have f2:=HR4.out.frozen 2
    have f3:=HR4.out.frozen 3
    clear S4 HT4
    go_wp2_with fail
    exact dec_end2 (by have:=HB4.out;rw[HRS.out] at this;exact this) HR4.out _ _ _ _ _ rfl rfl (by rw[HDN.out];rfl)
section
abbrev Vars:=List (Str×Str)
def getV (V:Vars)(k:Str):Option Str:=(V.find? λp=>p.1==k).map (·.2)
def setV:Vars->Str->Str->Vars
 | [],k,v=>[(k,v)]
 | p::r,k,v=>if k<p.1 then (k,v)::p::r else if k=p.1 then (k,v)::r else p::setV r k v
def delV (V:Vars)(k:Str):Vars:=V.filter λp=>!(p.1==k)
def Srt (V:Vars):Prop:=V.Pairwise λa b=>a.1<b.1
theorem getV_set (V:Vars)(k v j:Str):getV (setV V k v) j=if j=k then some v else getV V j:=by
 induction V with
 | nil=>
  by_cases e:j=k
  ·subst e;simp[getV,setV]
  ·have:(k==j)=false:=by simpa using λh=>e h.symm
   simp[getV,setV,this,e]
 | cons p r ih=>
  unfold setV
  split
  ·by_cases e:j=k
   ·subst e;simp[getV]
   ·have:(k==j)=false:=by simpa using λh=>e h.symm
    simp[getV,this,e]
  ·split
   ·rename_i h1 h2
    by_cases e:j=k
    ·subst e;simp[getV]
    ·have h3:(k==j)=false:=by simpa using λh=>e h.symm
     have h4:(p.1==j)=false:=by rw[<-h2];exact h3
     simp[getV,h3,h4,e]
   ·rename_i h1 h2
    by_cases e:p.1=j
    ·have:¬j=k:=λh=>h2 (by rw[<-h,e])
     have h5:(p.1==j)=true:=by simpa using e
     simp[getV,h5,this]
    ·have h5:(p.1==j)=false:=by simpa using e
     have h6:getV (p::setV r k v) j=getV (setV r k v) j:=by simp[getV,h5]
     have h7:getV (p::r) j=getV r j:=by simp[getV,h5]
     rw[h6,h7,ih]
theorem getV_del (V:Vars)(k j:Str):getV (delV V k) j=if j=k then none else getV V j:=by
 induction V with
 | nil=>simp[getV,delV]
 | cons p r ih=>
  unfold delV at *
  by_cases e:p.1=k
  ·have h1:(p.1==k)=true:=by simpa using e
   rw[List.filter_cons,h1]
   simp only[Bool.not_true,Bool.false_eq_true,if_false]
   rw[ih]
   by_cases e2:j=k
   ·rw[if_pos e2,if_pos e2]
   ·have h5:(p.1==j)=false:=by rw[e];simpa using λh=>e2 h.symm
    rw[if_neg e2,if_neg e2]
    simp[getV,h5]
  ·have h1:(p.1==k)=false:=by simpa using e
   rw[List.filter_cons,h1]
   simp only[Bool.not_false,if_true]
   by_cases e3:p.1=j
   ·have h5:(p.1==j)=true:=by simpa using e3
    have e4:¬j=k:=λh=>e (by rw[e3,h])
    simp[getV,h5,e4]
   ·have h5:(p.1==j)=false:=by simpa using e3
    have h6:∀l:Vars,getV (p::l) j=getV l j:=λl=>by simp[getV,h5]
    rw[h6,h6,ih]
theorem mem_setV {V:Vars}{k v:Str}{q:Str×Str}(h:q∈setV V k v):q=(k,v)\/q∈V:=by
 induction V with
 | nil=>left;simpa[setV] using h
 | cons p r ih=>
  unfold setV at h
  split at h
  ·rcases List.mem_cons.1 h with h|h
   ·exact .inl h
   ·exact .inr h
  ·split at h
   ·rcases List.mem_cons.1 h with h|h
    ·exact .inl h
    ·exact .inr (List.mem_cons_of_mem _ h)
   ·rcases List.mem_cons.1 h with h|h
    ·exact .inr (by rw[h];simp)
    ·exact(ih h).imp id (List.mem_cons_of_mem _)
theorem lt_tri (a b:Str)(h1:¬a<b)(h2:¬a=b):b<a:=by
 rcases List.le_total a b with h|h
 ·exact absurd (List.le_antisymm h (List.not_lt.1 h1)) h2
 ·rcases Classical.em (b<a) with h3|h3
  ·exact h3
  ·exact absurd (List.le_antisymm (List.not_lt.1 h3) h) h2
theorem Srt.set {V:Vars}(h:Srt V)(k v:Str):Srt (setV V k v):=by
 induction V with
 | nil=>simp[setV,Srt]
 | cons p r ih=>
  have h':=List.pairwise_cons.1 h
  unfold setV
  split
  ·rename_i h1
   refine List.pairwise_cons.2 ⟨λq hq=>?_,h⟩
   rcases List.mem_cons.1 hq with e|e
   ·rw[e];exact h1
   ·exact List.lt_trans h1 (h'.1 q e)
  ·split
   ·rename_i h1 h2
    refine List.pairwise_cons.2 ⟨λq hq=>?_,h'.2⟩
    show k<q.1
    rw[h2];exact h'.1 q hq
   ·rename_i h1 h2
    refine List.pairwise_cons.2 ⟨λq hq=>?_,ih h'.2⟩
    rcases mem_setV hq with e|e
    ·rw[e];exact lt_tri k p.1 h1 h2
    ·exact h'.1 q e
theorem Srt.del {V:Vars}(h:Srt V)(k:Str):Srt (delV V k):=h.filter _
theorem Srt.nodup {V:Vars}(h:Srt V):(V.map (·.1)).Nodup:=by
 refine List.pairwise_map.2 (h.imp λ {a b} hab e=>?_)
 rw[e] at hab
 exact List.lt_irrefl _ hab
theorem getV_mem {V:Vars}(h:Srt V){q:Str×Str}(hq:q∈V):getV V q.1=some q.2:=by
 induction V with
 | nil=>cases hq
 | cons p r ih=>
  have h':=List.pairwise_cons.1 h
  rcases List.mem_cons.1 hq with e|e
  ·rw[<-e];simp[getV]
  ·have:(p.1==q.1)=false:=by
    rw[beq_eq_false_iff_ne];intro e2
    have:=h'.1 q e
    rw[e2] at this
    exact List.lt_irrefl _ this
   have h6:getV (p::r) q.1=getV r q.1:=by simp[getV,this]
   rw[h6];exact ih h'.2 e
theorem getV_isSome {V:Vars}{k:Str}:(getV V k).isSome=true↔k∈V.map (·.1):=by
 unfold getV
 rw[Option.isSome_map,List.find?_isSome]
 simp
def RVs (v:Value):Option (DataW Value×List MemPlace):=some (.held v,[])
def SM (w:World)(b n:Nat)(V:Vars):Prop:=
 ∃D:DataW Value,w.ownsMap Tryz.prog 9 RVs b n D/\(∀k,Maps.has D (.string k)=(getV V k).isSome)/\∀k,D.atKey (.string k) (.held (str []))=.held (str ((getV V k).getD []))
theorem kS:Maps.Keyed Tryz.prog 9:=Maps.string_keyed Tryz.underlying9
theorem zS (w:World):(zeroValue 9).run Tryz.prog w=.ok (str []) w:=by kernel_rfl
section
variable {w w':World}{b n:Nat}{V:Vars}
theorem SM.lt (h:SM w b n V):b<w.heap.size:=by obtain⟨D,h,_⟩:=h;exact h.lt
theorem SM.mono (h:SM w b n V){n':Nat}(hn:n<=n'):SM w b n' V:=by
 obtain⟨D,h,g⟩:=h
 exact⟨D,h.mono hn,g⟩
theorem SM.ch {C:Nat->Prop}(h:SM w b n V)(c:Ch C w w')(hb:¬C b):SM w' b n V:=by
 have hlt:=h.lt
 obtain⟨D,⟨es,clock,h1,r⟩,g⟩:=h
 exact⟨D,⟨es,clock,(c.block b hlt hb).trans h1,r⟩,g⟩
theorem SM.made (w:World):SM (w.alloc (.map #[] 0)) w.heap.size 0 []:=
 ⟨_,World.ownsMap_made w Tryz.prog 9 RVs,λ_=>rfl,λ_=>rfl⟩
theorem SM.look (h:SM w b n V){s:ByteArray}(hs:s.size<=maxLen):(Instr.lookup 156 (.map (some b)) (.string s) true).run Tryz.prog w=.ok (.tuple #[str ((getV V s.data.toList).getD []),.bool (getV V s.data.toList).isSome]) w:=by
 obtain⟨D,h,g1,g2⟩:=h
 obtain⟨v,ps,hr,hv⟩:=h.look_ok kS Tryz.underlying156 (zS w) (zd:=.held (str [])) (zp:=[]) rfl (WideMaps.keyOf_string_mk Tryz.underlying9 hs)
 rw[g2] at hv
 simp only[RVs,Option.some.injEq,Prod.mk.injEq,DataW.held.injEq] at hv
 rw[hr,g1,hv.1]
theorem SM.look1 (h:SM w b n V){s:ByteArray}(hs:s.size<=maxLen):(Instr.lookup 156 (.map (some b)) (.string s) false).run Tryz.prog w=.ok (str ((getV V s.data.toList).getD [])) w:=by
 obtain⟨D,h,g1,g2⟩:=h
 obtain⟨v,ps,hr,hv⟩:=h.lookup kS Tryz.underlying156 (zS w) (zd:=.held (str [])) (zp:=[]) rfl (WideMaps.keyOf_string_mk Tryz.underlying9 hs)
 rw[g2] at hv
 simp only[RVs,Option.some.injEq,Prod.mk.injEq,DataW.held.injEq] at hv
 rw[hr,hv.1]
theorem SM.store (h:SM w b n V)(hn:n<1000000){s:ByteArray}(hs:s.size<=maxLen)(v:ByteArray) :
  ∃w',(Instr.mapUpdate 156 (.map (some b)) (.string s) (.string v)).run Tryz.prog w=.ok () w'/\SM w' b (n+1) (setV V s.data.toList v.data.toList)/\Ch (λx=>x=b) w w':=by
 obtain⟨D,h,g1,g2⟩:=h
 have hm:=h.isMap
 obtain⟨w',hr,h',hg⟩:=h.store kS Tryz.underlying156 (show n<maxLen by unfold maxLen;omega) (WideMaps.keyOf_string_mk Tryz.underlying9 hs) (val:=.string v) (d:=.held (.string v)) (ps:=[]) rfl
 refine⟨w',hr,⟨_,h',λj=>?_,λj=>?_⟩,Ch.of_grown hg.grown (λx hx _=>(Option.some.inj hx).symm)⟩
 ·rw[getV_set]
  by_cases e:j=s.data.toList
  ·subst e
   rw[if_pos rfl,Maps.has_put_same hm (show WideAt.IsKeyLit (Lit.string s.data.toList) from trivial)];rfl
  ·rw[if_neg e,Maps.has_put_other (by intro h;injection h with h;exact e h),g1]
 ·rw[getV_set]
  by_cases e:j=s.data.toList
  ·subst e
   rw[if_pos rfl,Maps.atKey_put_same hm (show WideAt.IsKeyLit (Lit.string s.data.toList) from trivial)];rfl
  ·rw[if_neg e,Maps.atKey_put_other (by intro h;injection h with h;exact e h),g2]
theorem SM.drop (h:SM w b n V){s:ByteArray}(hs:s.size<=maxLen)(ty:TypeId) :
  ∃w',(Builtin.delete_ #[156,9] ty #[.map (some b),.string s]).run Tryz.prog w=.ok (.tuple #[]) w'/\SM w' b n (delV V s.data.toList)/\Ch (λx=>x=b) w w':=by
 obtain⟨D,h,g1,g2⟩:=h
 obtain⟨w',hr,h',hg⟩:=h.drop kS Tryz.underlying156 (WideMaps.keyOf_string_mk Tryz.underlying9 hs) ty
 refine⟨w',hr,⟨_,h',λj=>?_,λj=>?_⟩,Ch.of_grown hg.grown (λx hx _=>(Option.some.inj hx).symm)⟩
 ·rw[getV_del]
  by_cases e:j=s.data.toList
  ·subst e;rw[if_pos rfl,Maps.has_del_same];rfl
  ·rw[if_neg e,Maps.has_del_other (by intro h;injection h with h;exact e h),g1]
 ·rw[getV_del]
  by_cases e:j=s.data.toList
  ·subst e;rw[if_pos rfl,Maps.atKey_del_same];rfl
  ·rw[if_neg e,Maps.atKey_del_other (by intro h;injection h with h;exact e h),g2]
theorem SM.clone (h:SM w b n V):Calls Tryz.prog 147 #[.map (some b)] w λe w'=>e=.returned (.map (some w.heap.size))/\SM w' w.heap.size n V/\Below w.heap.size w w':=by
 obtain⟨D,h,g⟩:=h
 exact(AnyW.maps_Clone_owns Tryz.cloneM 9 RVs b n D w h).mono λe w' ⟨he,h1,_,h3⟩=>⟨he,⟨D,h1,g⟩,h3⟩
end
end
section
open Go.RowKit Go.Maps Go.Sort Go.Shelf
theorem sorts (m:Nat):AnyZ.SortsIn Tryz.prog Tryz.sortedM_ren Fence.wide m:=
 ⟨λblk off cap ss W hH hblk hsz=>callsIn_wide.2 (AnyM.slices_Sort_string Tryz.sortM blk off cap ss W hH hblk hsz),
 λp cap W=>callsIn_wide.2 (AnyM.slices_Sort_string_none Tryz.sortM p cap W)⟩
theorem keys_any (b:Nat)(w:World):Calls Tryz.prog 163 #[.map (some b)] w λe w'=>e=.returned (.func (.func 170) #[] #[.pointer (some ⟨w.heap.size,0,none⟩)])/\w'=w.alloc (.cells #[.map (some b)] 156):=
 (callsIn_wide (n:=5)).1 (AnyZ.keys_in Tryz.keysM Fence.wide 5 trivial rfl (some b) w)
theorem sorted_names {V:Vars}(hV:Srt V){ss:List Str}(h:ss.Perm (V.map (·.1))):ss.mergeSort (λx y=>decide (x<=y))=V.map (·.1):=by
 have h1:=mergeSort_of_perm h
 have h2:(V.map (·.1)).Pairwise (λa b=>leB a b=true):=by
  refine List.pairwise_map.2 (hV.imp λ {a b} hab=>?_)
  simp only[leB,decide_eq_true_eq]
  exact List.le_of_lt hab
 have h3:=List.mergeSort_of_pairwise h2
 exact h1.trans h3
theorem SM.len {w:World}{b n:Nat}{V:Vars}(h:SM w b n V)(hV:Srt V):V.length<=n:=by
 obtain⟨D,hown,g1,_⟩:=h
 have h1:=hown.size_le
 have hkp:(V.map (·.1)).Perm (strKeys D):=
  Collected.perm (left:=λ_=>false) (ss:=V.map (·.1)) ⟨hV.nodup,λx=>by rw[g1,getV_isSome];simp⟩ hown kS Tryz.underlying9 (λ_=>rfl)
 have h2:=hkp.length_eq
 rw[List.length_map] at h2
 have h3:(strKeys D).length=Maps.size D:=by
  obtain⟨es,rfl⟩:=hown.isMap
  simp[strKeys,Maps.size]
 omega
theorem sorted_any {w:World}{b n:Nat}{V:Vars}(h:SM w b n V)(hV:Srt V)(hn:n<=1000) :
  Calls Tryz.prog 162 #[.func (.func 170) #[] #[.pointer (some ⟨w.heap.size,0,none⟩)]] (w.alloc (.cells #[.map (some b)] 156)) λe w'=>
   ∃a cap,e=.returned (.slice a V.length cap)/\(V=[]->a=none/\cap=0)/\(V≠[]->∃g,a=some ⟨g,0,none⟩/\w.heap.size<=g/\PS w' g 0 cap (V.map (·.1)))/\Below w.heap.size w w':=by
 obtain⟨D,hown,g1,g2⟩:=h
 have hbl:=hown.lt
 have hsz:=hown.size_le
 have hb0:Below w.heap.size w (w.alloc (.cells #[.map (some b)] 156)):=(Below.refl _ _).alloc (Nat.le_refl _) _
 have hkp:(V.map (·.1)).Perm (strKeys D):=
  Collected.perm (left:=λ_=>false) (ss:=V.map (·.1)) ⟨hV.nodup,λx=>by rw[g1,getV_isSome];simp⟩ hown kS Tryz.underlying9 (λ_=>rfl)
 have hseq:SeqGives Fence.wide 2 Tryz.prog 170 #[.pointer (some ⟨w.heap.size,0,none⟩)] encStr (λss=>ss.Perm (strKeys D)) (Maps.size D) (w.alloc (.cells #[.map (some b)] 156)):=
  AnyZ.keys_gives (ρ:=Tryz.keysM_ren) { Tryz.keysM with } Fence.wide _ trivial rfl (by omega) w.heap.size b n D _ (by simp) (by simp) (by
   obtain⟨es,clock,hb,Ft,hs,hD⟩:=hown
   exact⟨es,clock,(Below.heap_alloc _ _ b hbl).trans hb,Ft,hs,hD⟩)
 have hc:=AnyZ.sorted_in Tryz.sortedM Fence.wide 5 trivial trivial trivial trivial rfl (by omega) (sorts _) (enters_of Tryz.func169 (by kernel_rfl) rfl) 170 #[.pointer (some ⟨w.heap.size,0,none⟩)] trivial (enters_of Tryz.func170 (by kernel_rfl) rfl) _ _ (by unfold maxLen;omega) (by omega) _ hseq
 refine((callsIn_wide (n:=5)).1 hc).mono ?_
 rintro e w' ⟨v,ss,rfl,hS,hrow,hnil,hbel⟩
 have hm:=sorted_names hV (hS.trans hkp.symm)
 rw[hm] at hrow
 have hlen:ss.length=V.length:=by
  have:=(hS.trans hkp.symm).length_eq
  simpa using this
 have hss:ss=[]↔V=[]:=by
  rw[<-List.length_eq_zero_iff,hlen,List.length_eq_zero_iff]
 rw[hlen] at hrow
 obtain⟨hl,h1|⟨g,cap,cur,rfl,hbg,hh,hn1,hm1,hsz1,ht⟩⟩:=hrow
 ·have hV0:V=[]:=List.eq_nil_of_length_eq_zero h1.2
  rw[h1.1,hV0]
  exact⟨none,0,rfl,λ_=>⟨rfl,rfl⟩,λhne=>absurd rfl hne,hb0.trans (hbel.mono (by simp))⟩
 ·refine⟨some ⟨g,0,none⟩,cap,rfl,λh0=>?_,λ_=>⟨g,rfl,?_,heap_lt hh,by rw[List.length_map];exact hn1,hm1,λj hj=>?_⟩,hb0.trans (hbel.mono (by simp))⟩
  ·have:=hnil.2 (hss.2 h0)
   cases this
  ·have:(w.alloc (.cells #[.map (some b)] 156)).heap.size=w.heap.size+1:=by simp
   omega
  ·rw[List.length_map] at hj
   rw[Nat.zero_add,cell_of_row w' g j cur 9 (0,0) hh,<-Array.getElem?_toList]
   have h2:(cur.toList.take (V.length*1))[j]? = ((V.map (·.1)).map encStr)[j]? := by rw[ht]
   rw[Nat.mul_one,List.getElem?_take_of_lt hj] at h2
   rw[h2,List.getElem?_map,List.getD_eq_getElem?_getD,List.getElem?_eq_getElem (by simpa using hj)]
   rfl
end
section
structure ST where
 V:Vars
 blk:Nat
 gen:Nat
 nxt:Nat
 clo:Bool
def stc (st:ST)(X m j:Nat):Value:=if j=0 then fptr X else if j=1 then .map (some m) else if j=2 then .int .i64 st.blk else if j=3 then .int .u64 st.gen else if j=4 then .int .i64 st.nxt else .bool st.clo
structure SW (w:World)(D:Nat->Prop)(S X m n:Nat)(st:ST):Prop where
 top:Rg w S 158 6 (stc st X m)
 map:SM w m n st.V
 dS:D S
 dm:D m
 fin:∀k,D k->k<w.heap.size
 srt:Srt st.V
 hv:∀p∈st.V,p.1.length<=24/\p.2.length<=128
 hg:st.gen<=18446744073709551615
 hn:st.nxt<=1000
 hb:st.blk<=1000
section
variable {w w':World}{D:Nat->Prop}{S X m n:Nat}{st:ST}
theorem SW.ch {C:Nat->Prop}(h:SW w D S X m n st)(c:Ch C w w')(hC:∀k,D k->¬C k):SW w' D S X m n st:=
 { h with top:=h.top.ch c (hC _ h.dS),map:=h.map.ch c (hC _ h.dm),fin:=λk hk=>Nat.lt_of_lt_of_le (h.fin k hk) c.size }
theorem SW.below (h:SW w D S X m n st)(c:Below w.heap.size w w'):SW w' D S X m n st:=h.ch (Ch.of_below c (λ_=>False)) (λ_ _ h=>h)
theorem SW.mono (h:SW w D S X m n st){n':Nat}(hn:n<=n'):SW w D S X m n' st:={ h with map:=h.map.mono hn }
theorem SW.c0 (h:SW w D S X m n st):w.cell? ⟨S,0,none⟩=some (fptr X):=h.top.cell (i:=0) (by omega)
theorem SW.c1 (h:SW w D S X m n st):w.cell? ⟨S,1,none⟩=some (.map (some m)):=h.top.cell (i:=1) (by omega)
theorem SW.c2 (h:SW w D S X m n st):w.cell? ⟨S,2,none⟩=some (.int .i64 st.blk):=h.top.cell (i:=2) (by omega)
theorem SW.c3 (h:SW w D S X m n st):w.cell? ⟨S,3,none⟩=some (.int .u64 st.gen):=h.top.cell (i:=3) (by omega)
theorem SW.c4 (h:SW w D S X m n st):w.cell? ⟨S,4,none⟩=some (.int .i64 st.nxt):=h.top.cell (i:=4) (by omega)
theorem SW.c5 (h:SW w D S X m n st):w.cell? ⟨S,5,none⟩=some (.bool st.clo):=h.top.cell (i:=5) (by omega)
theorem SM.ne {w:World}{b n:Nat}{V:Vars}(h:SM w b n V){B t N:Nat}{v:Nat->Value}(hr:Rg w B t N v):b≠B:=λe=>by
 obtain⟨D,⟨es,clock,h1,_⟩,_⟩:=h
 obtain⟨cs,h2,_⟩:=hr
 rw[e,h2] at h1
 cases h1
theorem SW.mS (h:SW w D S X m n st):m≠S:=h.map.ne h.top
def getS (V:Vars)(k:Str):Str×Int:=match getV V k with
 | some v=>(v,0)
 | none=>([],6)
theorem get_any (h:SW w D S X m n st){k:ByteArray}(hk:k.size<=1000000):Calls Tryz.prog 56 #[fptr S,.string k] w λe w'=>e=.returned (.tuple #[str (getS st.V k.data.toList).1,.int .i64 (getS st.V k.data.toList).2])/\w=w':=by
 have c1:=h.c1
 have hl:=h.map.look (s:=k) (by unfold maxLen;omega)
 unfold getS
 clear h
 rcases hg:getV st.V k.data.toList with _|v
 ·rw[hg] at hl
  have hl2:(Instr.lookup 156 (.map (some m)) (.string k) true).run Tryz.prog w=.ok (.tuple #[.string ⟨#[]⟩,.bool false]) w:=hl
  clear hl
  go_enter Tryz.func56,Tryz.ntmps56
  go_wp2_with fail
  go_ret2
  exact⟨rfl,rfl⟩
 ·rw[hg] at hl
  obtain⟨vb,hvb⟩:∃vb:ByteArray,str v=.string vb:=⟨_,rfl⟩
  have hl2:(Instr.lookup 156 (.map (some m)) (.string k) true).run Tryz.prog w=.ok (.tuple #[.string vb,.bool true]) w:=by
   rw[<-hvb];exact hl
  show Calls Tryz.prog 56 #[fptr S,.string k] w λe w'=>e=.returned (.tuple #[str v,.int .i64 0])/\w=w'
  rw[hvb]
  clear hl hvb
  go_enter Tryz.func56,Tryz.ntmps56
  go_wp2_with fail
  go_ret2
  exact⟨rfl,rfl⟩
end
end
section
def tstep (fl:FL)(blk:Nat)(t:Nat×Bool×Bool)(b:Nat):Nat×Bool×Bool:=
 if b=blk\/(t.2.2=true/\fl.er t.1<=fl.er b) then t
 else if blankP (pgsF fl b)=false/\fl.E<=fl.er b then t
 else (b,blankP (pgsF fl b),true)
def tgtK (fl:FL)(blk k:Nat):Nat×Bool×Bool:=(List.range k).foldl (tstep fl blk) (0,false,false)
def tgtF (fl:FL)(blk:Nat):Nat×Bool×Bool:=tgtK fl blk fl.B
theorem tgtK_succ (fl:FL)(blk k:Nat):tgtK fl blk (k+1)=tstep fl blk (tgtK fl blk k) k:=by
 unfold tgtK
 rw[List.range_succ,List.foldl_append]
 rfl
theorem tgtK_lt (fl:FL)(blk k:Nat):(tgtK fl blk k).1<k\/(tgtK fl blk k).1=0:=by
 induction k with
 | zero=>right;rfl
 | succ k ih=>
  rw[tgtK_succ]
  unfold tstep
  split
  ·omega
  ·split
   ·omega
   ·left;exact Nat.lt_succ_self k
section
variable {w:World}{D DS:Nat->Prop}{S X m n:Nat}{st:ST}{y:FLay}{fl:FL}
theorem target_any (hs:SW w DS S X m n st)(h:FW w D X y fl)(ho:fl.off=false) :
  Calls Tryz.prog 164 #[fptr S] w λe w'=>e=.returned (.tuple #[.int .i64 (tgtF fl st.blk).1,.bool (tgtF fl st.blk).2.1,.bool (tgtF fl st.blk).2.2])/\Below w.heap.size w w':=by
 have c0:=hs.c0
 have HSH:=Hh (shape_any h)
 have H:=Hh h
 have HS:=Hh hs
 have hB:=h.hB
 have hP:=h.hP
 obtain⟨blk,hblk⟩:∃blk,st.blk=blk:=⟨_,rfl⟩
 have HBK:=Hh hblk
 have hbl:=hs.hb
 rw[hblk] at hbl ⊢
 clear h hs hblk
 go_enter Tryz.func164,Tryz.ntmps164
 go_wp2_with fail
 refine HSH.out.mono ?_
 rintro e w1 ⟨rfl,b1⟩
 have BA:Below w.heap.size w (w1.alloc (.cells #[.int .i64 fl.B,.int .i64 fl.P,.int .i64 fl.E] 76)):=b1.alloc b1.size _
 have RA:=Row.ofList w1 76 #[.int .i64 fl.B,.int .i64 fl.P,.int .i64 fl.E] (λj=>if j=0 then .int .i64 fl.B else if j=1 then .int .i64 fl.P else .int .i64 fl.E) 3 rfl
 obtain⟨w2,hw2⟩:∃w2,w1.alloc (.cells #[.int .i64 fl.B,.int .i64 fl.P,.int .i64 fl.E] 76)=w2:=⟨_,rfl⟩
 have hz1:=b1.size
 obtain⟨Z0,hZ0⟩:∃Z0,w1.heap.size=Z0:=⟨_,rfl⟩
 rw[hw2] at BA RA
 rw[hZ0] at RA
 have z0:w2.cell? ⟨Z0,0,none⟩=some (.int .i64 fl.B):=RA.cell (i:=0) (by omega)
 have HB2:=Hh BA
 have HZ2:Hid (Row w2 Z0 76 3 (λj=>if j=0 then .int .i64 fl.B else if j=1 then .int .i64 fl.P else .int .i64 fl.E)):=RA
 clear BA RA b1 HSH c0
 go_wp2_with fail
 have HK0:Hid ((0,false,false)=tgtK fl blk 0):=rfl
 clear z0
 go_loopw [2,3,4,17] (λx2 x3 x4 z wr=>∃(k tb:Nat) (tk tf:Bool),k<=fl.B/\z=.int .i64 (k:Int)/\x2=.int .i64 (tb:Int)/\x3=.bool tk/\x4=.bool tf/\Hid ((tb,tk,tf)=tgtK fl blk k)/\Hid (Row wr Z0 76 3 (λj=>if j=0 then .int .i64 fl.B else if j=1 then .int .i64 fl.P else .int .i64 fl.E))/\Hid (Below w.heap.size w wr)) (λ_ _ _ z _=>fl.B-(intOf z).toNat)
 case atStart=>exact⟨0,0,false,false,by omega,rfl,rfl,rfl,rfl,HK0,HZ2,HB2⟩
 case round=>
  clear HK0 HZ2 HB2
  obtain⟨k,tb,tk,tf,hk,rfl,rfl,rfl,rfl,HK,HZ,HB⟩:=hrel
  by_cases hkB:k<fl.B
  ·have y0:(k:Int)<fl.B:=by omega
   have htb:tb<fl.B:=by
    have:=tgtK_lt fl blk k
    rw[<-HK.out] at this
    simp only at this
    omega
   have Hr:=Hh (H.out.below HB.out)
   have Sr:=Hh (HS.out.below HB.out)
   have S5:Hid (wr.drew.cell? ⟨S,0,none⟩=some (fptr X)/\wr.drew.cell? ⟨S,2,none⟩=some (.int .i64 blk)/\FW wr.drew D X y fl):=⟨Sr.out.c0,by rw[<-HBK.out];exact Sr.out.c2,Hr.out.drew⟩
   have HZd:Hid (Row wr.drew Z0 76 3 (λj=>if j=0 then .int .i64 fl.B else if j=1 then .int .i64 fl.P else .int .i64 fl.E)):=HZ.out.drew
   have HBd:Hid (Below w.heap.size w wr.drew):=HB.out.drew
   have HNX:=Hh (tgtK_succ fl blk k)
   clear HZ HB
   by_cases hkb:k=blk
   ·have hkI:(k:Int)=blk:=by omega
    have hkd:((k:Int)==(blk:Int))=true:=by rw[beq_iff_eq];exact hkI
    have HN2:Hid ((tb,tk,tf)=tgtK fl blk (k+1)):=by
     show _=_
     rw[HNX.out,<-HK.out]
     unfold tstep
     rw[if_pos (.inl hkb)]
    go_wp2_with fail
    refine wp_region_pl (λ Y=>Y.cell? ⟨S,0,none⟩=some (fptr X)/\Y.cell? ⟨S,2,none⟩=some (.int .i64 blk)/\FW Y D X y fl) ((0,0)::(1,0)::(2,0)::(3,0)::(4,0)::(5,0)::(6,0)::(7,0)::(8,0)::(9,0)::(10,0)::(11,0)::(12,0)::(13,0)::(14,0)::(15,0)::(16,0)::(17,0)::(18,0)::(19,0)::(20,0)::(21,0)::(22,0)::(23,0)::[]) (by kernel_rfl) (by kernel_rfl) ?_
    iterate 7 (apply wpP_go;rfl;rfl;exact S5.out;(rintro Z ⟨s0,s1,s2⟩;go_simp;exact rfl);intro K hK;go_simp;refine hK _ ?_;clear hK K)
    iterate 16 (apply wpP_not;rfl;rfl;exact S5.out;intro K hK;go_simp;refine hK _ ?_;clear hK K)
    iterate 1 (apply wpP_go;rfl;rfl;exact S5.out;(rintro Z ⟨s0,s1,s2⟩;go_simp;exact rfl);intro K hK;go_simp;refine hK _ ?_;clear hK K)
    refine wpP_done ?_
    clear S5
    generalize wr.drew=V at *
    go_wp2_with fail
    go_roundw
    case rel=>exact⟨k+1,tb,tk,tf,by omega,by go_num,rfl,rfl,rfl,HN2,HZd,HBd⟩
    case measure=>simp[intOf];omega
   ·have hkI:¬(k:Int)=blk:=by omega
    have hkd:((k:Int)==(blk:Int))=false:=by rw[beq_eq_false_iff_ne];exact hkI
    cases tf
    ·have HNC:Hid (¬(k=blk\/(((tb,tk,false):Nat×Bool×Bool).2.2=true/\fl.er ((tb,tk,false):Nat×Bool×Bool).1<=fl.er k))):=by
      rintro (h|h)
      ·exact hkb h
      ·cases h.1
     go_wp2_with fail
     refine wp_region_pl (λ Y=>Y.cell? ⟨S,0,none⟩=some (fptr X)/\Y.cell? ⟨S,2,none⟩=some (.int .i64 blk)/\FW Y D X y fl) ((0,0)::(1,0)::(2,0)::(3,0)::(4,0)::(5,0)::(6,0)::(7,0)::(8,0)::(9,0)::(10,0)::(11,0)::(12,0)::(13,0)::(14,0)::(15,0)::(16,0)::(17,0)::(18,0)::(19,0)::(20,0)::(21,0)::(22,0)::(23,0)::[]) (by kernel_rfl) (by kernel_rfl) ?_
     iterate 7 (apply wpP_go;rfl;rfl;exact S5.out;(rintro Z ⟨s0,s1,s2⟩;go_simp;exact rfl);intro K hK;go_simp;refine hK _ ?_;clear hK K)
     iterate 2 (apply wpP_go;rfl;rfl;exact S5.out;(rintro Z ⟨s0,s1,s2⟩;go_simp;exact rfl);intro K hK;go_simp;refine hK _ ?_;clear hK K)
     iterate 13 (apply wpP_not;rfl;rfl;exact S5.out;intro K hK;go_simp;refine hK _ ?_;clear hK K)
     iterate 2 (apply wpP_go;rfl;rfl;exact S5.out;(rintro Z ⟨s0,s1,s2⟩;go_simp;exact rfl);intro K hK;go_simp;refine hK _ ?_;clear hK K)
     refine wpP_done ?_
     have S5':=Hh S5.out.2.2
     have C0:=S5.out.1
     clear S5
     generalize wr.drew=V at *
     have HRB:=Hh (readBlock_any S5'.out hkB)
     have hnx:∀bl,blankP (pgsF fl k)=bl->tgtK fl blk (k+1)=if bl=false/\fl.E<=fl.er k then (tb,tk,false) else (k,bl,true):=λbl hbl=>by
      rw[HNX.out,<-HK.out]
      unfold tstep
      rw[if_neg (by have h9:=HNC.out;simpa using h9),hbl]
     have HNXT:=Hh hnx
     clear hnx
     go_wp2_with fail
     refine HRB.out.mono ?_
     rintro e w3 ⟨b3,⟨h1,_⟩|⟨_,g,rfl,hg,hps⟩⟩
     ·rw[ho] at h1;cases h1
     have HF3:=Hh (S5'.out.below b3)
     have HB3:Hid (Below w.heap.size w w3):=HBd.out.trans (b3.mono HBd.out.size)
     have HZ3:Hid (Row w3 Z0 76 3 (λj=>if j=0 then .int .i64 fl.B else if j=1 then .int .i64 fl.P else .int .i64 fl.E)):=HZd.out.ch (Ch.of_below b3 (λ_=>False)) id
     have C3:w3.cell? ⟨S,0,none⟩=some (fptr X):=(HS.out.below HB3.out).c0
     have HIB:=Hh (isBlank_any hps (pgsF_len fl k) (λp hp=>by
      unfold pgsF at hp
      obtain⟨j,hj,rfl⟩:=List.mem_map.1 hp
      rw[S5'.out.len k j hkB (by simpa using hj)]
      omega) (by omega))
     obtain⟨bl,hbl⟩:∃bl,blankP (pgsF fl k)=bl:=⟨_,rfl⟩
     have HNX2:=Hh (HNXT.out bl hbl)
     rw[hbl] at HIB
     have S9:Hid (w3.drew.cell? ⟨S,0,none⟩=some (fptr X)/\w3.drew.cell? ⟨Z0,2,none⟩=some (.int .i64 fl.E)/\FW w3.drew D X y fl):=⟨C3,HZ3.out.cell (i:=2) (by omega),HF3.out.drew⟩
     have HZ4:Hid (Row w3.drew Z0 76 3 (λj=>if j=0 then .int .i64 fl.B else if j=1 then .int .i64 fl.P else .int .i64 fl.E)):=HZ3.out.drew
     have HB4:Hid (Below w.heap.size w w3.drew):=HB3.out.drew
     clear hbl b3 hps HZ3 HB3 HF3 HRB HNXT HNX HZd HBd C0
     cases bl
     ·by_cases hw:fl.E<=fl.er k
      ·have hwI:(fl.E:Int)<=(fl.er k:Int):=by omega
       have hwd:decide ((fl.er k:Int) ≥ (fl.E:Int))=true:=by simpa using hw
       have HN3:Hid ((tb,tk,false)=tgtK fl blk (k+1)):=by
        show _=_
        rw[HNX2.out,if_pos ⟨rfl,hw⟩]
       go_wp2_with fail
       refine HIB.out.mono ?_
       rintro e w' ⟨rfl,rfl⟩
       go_wp2_with fail
       refine wp_region_pl (λ Y=>Y.cell? ⟨S,0,none⟩=some (fptr X)/\Y.cell? ⟨Z0,2,none⟩=some (.int .i64 fl.E)/\FW Y D X y fl) ((0,0)::(1,0)::(2,0)::(3,0)::(4,0)::(5,0)::(6,0)::(7,0)::(8,0)::(9,0)::(10,0)::(11,0)::(12,0)::[]) (by kernel_rfl) (by kernel_rfl) ?_
       iterate 3 (apply wpP_go;rfl;rfl;exact S9.out;(rintro Z ⟨s0,s1,s2⟩;go_simp;exact rfl);intro K hK;go_simp;refine hK _ ?_;clear hK K)
       iterate 5 (apply wpP_go;rfl;rfl;exact S9.out;(rintro Z ⟨s0,s1,s2⟩;go_simp;exact rfl);intro K hK;go_simp;refine hK _ ?_;clear hK K)
       apply wpP_call
       rfl
       rfl
       exact S9.out
       focus (rintro Z ⟨s0,s1,s2⟩;go_simp;exact⟨rfl,rfl⟩)
       focus (rintro Z ⟨s0,s1,s2⟩;exact erases_any s2 hkB)
       intro K hK
       go_simp
       refine hK _ ?_
       clear hK K
       iterate 4 (apply wpP_go;rfl;rfl;exact S9.out;(rintro Z ⟨s0,s1,s2⟩;go_simp;exact rfl);intro K hK;go_simp;refine hK _ ?_;clear hK K)
       refine wpP_done ?_
       clear S9
       generalize w3.drew=V3 at *
       go_wp2_with fail
       go_roundw
       case rel=>exact⟨k+1,tb,tk,false,by omega,by go_num,rfl,rfl,rfl,HN3,HZ4,HB4⟩
       case measure=>simp[intOf];omega
      ·have hwI:¬(fl.E:Int)<=(fl.er k:Int):=by omega
       have hwd:decide ((fl.er k:Int) ≥ (fl.E:Int))=false:=by simpa using hw
       have HN3:Hid ((k,false,true)=tgtK fl blk (k+1)):=by
        show _=_
        rw[HNX2.out,if_neg (λh=>hw h.2)]
       go_wp2_with fail
       refine HIB.out.mono ?_
       rintro e w' ⟨rfl,rfl⟩
       go_wp2_with fail
       refine wp_region_pl (λ Y=>Y.cell? ⟨S,0,none⟩=some (fptr X)/\Y.cell? ⟨Z0,2,none⟩=some (.int .i64 fl.E)/\FW Y D X y fl) ((0,0)::(1,0)::(2,0)::(3,0)::(4,0)::(5,0)::(6,0)::(7,0)::(8,0)::(9,0)::(10,0)::(11,0)::(12,0)::[]) (by kernel_rfl) (by kernel_rfl) ?_
       iterate 3 (apply wpP_go;rfl;rfl;exact S9.out;(rintro Z ⟨s0,s1,s2⟩;go_simp;exact rfl);intro K hK;go_simp;refine hK _ ?_;clear hK K)
       iterate 5 (apply wpP_go;rfl;rfl;exact S9.out;(rintro Z ⟨s0,s1,s2⟩;go_simp;exact rfl);intro K hK;go_simp;refine hK _ ?_;clear hK K)
       apply wpP_call
       rfl
       rfl
       exact S9.out
       focus (rintro Z ⟨s0,s1,s2⟩;go_simp;exact⟨rfl,rfl⟩)
       focus (rintro Z ⟨s0,s1,s2⟩;exact erases_any s2 hkB)
       intro K hK
       go_simp
       refine hK _ ?_
       clear hK K
       iterate 4 (apply wpP_go;rfl;rfl;exact S9.out;(rintro Z ⟨s0,s1,s2⟩;go_simp;exact rfl);intro K hK;go_simp;refine hK _ ?_;clear hK K)
       refine wpP_done ?_
       clear S9
       generalize w3.drew=V3 at *
       go_wp2_with fail
       go_roundw
       case rel=>exact⟨k+1,k,false,true,by omega,by go_num,rfl,rfl,rfl,HN3,HZ4,HB4⟩
       case measure=>simp[intOf];omega
     ·have HN3:Hid ((k,true,true)=tgtK fl blk (k+1)):=by
       show _=_
       rw[HNX2.out,if_neg (λh=>by cases h.1)]
      go_wp2_with fail
      refine HIB.out.mono ?_
      rintro e w' ⟨rfl,rfl⟩
      go_wp2_with fail
      refine wp_region_pl (λ Y=>Y.cell? ⟨S,0,none⟩=some (fptr X)/\Y.cell? ⟨Z0,2,none⟩=some (.int .i64 fl.E)/\FW Y D X y fl) ((0,0)::(1,0)::(2,0)::(3,0)::(4,0)::(5,0)::(6,0)::(7,0)::(8,0)::(9,0)::(10,0)::(11,0)::(12,0)::[]) (by kernel_rfl) (by kernel_rfl) ?_
      iterate 3 (apply wpP_go;rfl;rfl;exact S9.out;(rintro Z ⟨s0,s1,s2⟩;go_simp;exact rfl);intro K hK;go_simp;refine hK _ ?_;clear hK K)
      iterate 9 (apply wpP_not;rfl;rfl;exact S9.out;intro K hK;go_simp;refine hK _ ?_;clear hK K)
      iterate 1 (apply wpP_go;rfl;rfl;exact S9.out;(rintro Z ⟨s0,s1,s2⟩;go_simp;exact rfl);intro K hK;go_simp;refine hK _ ?_;clear hK K)
      refine wpP_done ?_
      clear S9
      generalize w3.drew=V3 at *
      go_wp2_with fail
      go_roundw
      case rel=>exact⟨k+1,k,true,true,by omega,by go_num,rfl,rfl,rfl,HN3,HZ4,HB4⟩
      case measure=>simp[intOf];omega
    ·by_cases hle:fl.er tb<=fl.er k
     ·have hlI:(fl.er tb:Int)<=(fl.er k:Int):=by omega
      have hld:decide ((fl.er k:Int) ≥ (fl.er tb:Int))=true:=by simpa using hle
      have HN2:Hid ((tb,tk,true)=tgtK fl blk (k+1)):=by
       show _=_
       rw[HNX.out,<-HK.out]
       unfold tstep
       rw[if_pos (.inr ⟨rfl,hle⟩)]
      go_wp2_with fail
      refine wp_region_pl (λ Y=>Y.cell? ⟨S,0,none⟩=some (fptr X)/\Y.cell? ⟨S,2,none⟩=some (.int .i64 blk)/\FW Y D X y fl) ((0,0)::(1,0)::(2,0)::(3,0)::(4,0)::(5,0)::(6,0)::(7,0)::(8,0)::(9,0)::(10,0)::(11,0)::(12,0)::(13,0)::(14,0)::(15,0)::(16,0)::(17,0)::(18,0)::(19,0)::(20,0)::(21,0)::(22,0)::(23,0)::[]) (by kernel_rfl) (by kernel_rfl) ?_
      iterate 7 (apply wpP_go;rfl;rfl;exact S5.out;(rintro Z ⟨s0,s1,s2⟩;go_simp;exact rfl);intro K hK;go_simp;refine hK _ ?_;clear hK K)
      iterate 7 (apply wpP_go;rfl;rfl;exact S5.out;(rintro Z ⟨s0,s1,s2⟩;go_simp;exact rfl);intro K hK;go_simp;refine hK _ ?_;clear hK K)
      apply wpP_call
      rfl
      rfl
      exact S5.out
      focus (rintro Z ⟨s0,s1,s2⟩;go_simp;exact⟨rfl,rfl⟩)
      focus (rintro Z ⟨s0,s1,s2⟩;exact erases_any s2 hkB)
      intro K hK
      go_simp
      refine hK _ ?_
      clear hK K
      iterate 5 (apply wpP_go;rfl;rfl;exact S5.out;(rintro Z ⟨s0,s1,s2⟩;go_simp;exact rfl);intro K hK;go_simp;refine hK _ ?_;clear hK K)
      apply wpP_call
      rfl
      rfl
      exact S5.out
      focus (rintro Z ⟨s0,s1,s2⟩;go_simp;exact⟨rfl,rfl⟩)
      focus (rintro Z ⟨s0,s1,s2⟩;exact erases_any s2 htb)
      intro K hK
      go_simp
      refine hK _ ?_
      clear hK K
      iterate 3 (apply wpP_go;rfl;rfl;exact S5.out;(rintro Z ⟨s0,s1,s2⟩;go_simp;exact rfl);intro K hK;go_simp;refine hK _ ?_;clear hK K)
      refine wpP_done ?_
      clear S5
      generalize wr.drew=V at *
      go_wp2_with fail
      go_roundw
      case rel=>exact⟨k+1,tb,tk,true,by omega,by go_num,rfl,rfl,rfl,HN2,HZd,HBd⟩
      case measure=>simp[intOf];omega
     ·have hlI:¬(fl.er tb:Int)<=(fl.er k:Int):=by omega
      have hld:decide ((fl.er k:Int) ≥ (fl.er tb:Int))=false:=by simpa using hle
      have HNC:Hid (¬(k=blk\/(((tb,tk,true):Nat×Bool×Bool).2.2=true/\fl.er ((tb,tk,true):Nat×Bool×Bool).1<=fl.er k))):=by
       rintro (h|h)
       ·exact hkb h
       ·exact hle h.2
      go_wp2_with fail
      refine wp_region_pl (λ Y=>Y.cell? ⟨S,0,none⟩=some (fptr X)/\Y.cell? ⟨S,2,none⟩=some (.int .i64 blk)/\FW Y D X y fl) ((0,0)::(1,0)::(2,0)::(3,0)::(4,0)::(5,0)::(6,0)::(7,0)::(8,0)::(9,0)::(10,0)::(11,0)::(12,0)::(13,0)::(14,0)::(15,0)::(16,0)::(17,0)::(18,0)::(19,0)::(20,0)::(21,0)::(22,0)::(23,0)::[]) (by kernel_rfl) (by kernel_rfl) ?_
      iterate 7 (apply wpP_go;rfl;rfl;exact S5.out;(rintro Z ⟨s0,s1,s2⟩;go_simp;exact rfl);intro K hK;go_simp;refine hK _ ?_;clear hK K)
      iterate 7 (apply wpP_go;rfl;rfl;exact S5.out;(rintro Z ⟨s0,s1,s2⟩;go_simp;exact rfl);intro K hK;go_simp;refine hK _ ?_;clear hK K)
      apply wpP_call
      rfl
      rfl
      exact S5.out
      focus (rintro Z ⟨s0,s1,s2⟩;go_simp;exact⟨rfl,rfl⟩)
      focus (rintro Z ⟨s0,s1,s2⟩;exact erases_any s2 hkB)
      intro K hK
      go_simp
      refine hK _ ?_
      clear hK K
      iterate 5 (apply wpP_go;rfl;rfl;exact S5.out;(rintro Z ⟨s0,s1,s2⟩;go_simp;exact rfl);intro K hK;go_simp;refine hK _ ?_;clear hK K)
      apply wpP_call
      rfl
      rfl
      exact S5.out
      focus (rintro Z ⟨s0,s1,s2⟩;go_simp;exact⟨rfl,rfl⟩)
      focus (rintro Z ⟨s0,s1,s2⟩;exact erases_any s2 htb)
      intro K hK
      go_simp
      refine hK _ ?_
      clear hK K
      iterate 3 (apply wpP_go;rfl;rfl;exact S5.out;(rintro Z ⟨s0,s1,s2⟩;go_simp;exact rfl);intro K hK;go_simp;refine hK _ ?_;clear hK K)
      refine wpP_done ?_
      have S5':=Hh S5.out.2.2
      have C0:=S5.out.1
      clear S5
      generalize wr.drew=V at *
      have HRB:=Hh (readBlock_any S5'.out hkB)
      have hnx:∀bl,blankP (pgsF fl k)=bl->tgtK fl blk (k+1)=if bl=false/\fl.E<=fl.er k then (tb,tk,true) else (k,bl,true):=λbl hbl=>by
       rw[HNX.out,<-HK.out]
       unfold tstep
       rw[if_neg (by have h9:=HNC.out;simpa using h9),hbl]
      have HNXT:=Hh hnx
      clear hnx
      go_wp2_with fail
      refine HRB.out.mono ?_
      rintro e w3 ⟨b3,⟨h1,_⟩|⟨_,g,rfl,hg,hps⟩⟩
      ·rw[ho] at h1;cases h1
      have HF3:=Hh (S5'.out.below b3)
      have HB3:Hid (Below w.heap.size w w3):=HBd.out.trans (b3.mono HBd.out.size)
      have HZ3:Hid (Row w3 Z0 76 3 (λj=>if j=0 then .int .i64 fl.B else if j=1 then .int .i64 fl.P else .int .i64 fl.E)):=HZd.out.ch (Ch.of_below b3 (λ_=>False)) id
      have C3:w3.cell? ⟨S,0,none⟩=some (fptr X):=(HS.out.below HB3.out).c0
      have HIB:=Hh (isBlank_any hps (pgsF_len fl k) (λp hp=>by
       unfold pgsF at hp
       obtain⟨j,hj,rfl⟩:=List.mem_map.1 hp
       rw[S5'.out.len k j hkB (by simpa using hj)]
       omega) (by omega))
      obtain⟨bl,hbl⟩:∃bl,blankP (pgsF fl k)=bl:=⟨_,rfl⟩
      have HNX2:=Hh (HNXT.out bl hbl)
      rw[hbl] at HIB
      have S9:Hid (w3.drew.cell? ⟨S,0,none⟩=some (fptr X)/\w3.drew.cell? ⟨Z0,2,none⟩=some (.int .i64 fl.E)/\FW w3.drew D X y fl):=⟨C3,HZ3.out.cell (i:=2) (by omega),HF3.out.drew⟩
      have HZ4:Hid (Row w3.drew Z0 76 3 (λj=>if j=0 then .int .i64 fl.B else if j=1 then .int .i64 fl.P else .int .i64 fl.E)):=HZ3.out.drew
      have HB4:Hid (Below w.heap.size w w3.drew):=HB3.out.drew
      clear hbl b3 hps HZ3 HB3 HF3 HRB HNXT HNX HZd HBd C0
      cases bl
      ·by_cases hw:fl.E<=fl.er k
       ·have hwI:(fl.E:Int)<=(fl.er k:Int):=by omega
        have hwd:decide ((fl.er k:Int) ≥ (fl.E:Int))=true:=by simpa using hw
        have HN3:Hid ((tb,tk,true)=tgtK fl blk (k+1)):=by
         show _=_
         rw[HNX2.out,if_pos ⟨rfl,hw⟩]
        go_wp2_with fail
        refine HIB.out.mono ?_
        rintro e w' ⟨rfl,rfl⟩
        go_wp2_with fail
        refine wp_region_pl (λ Y=>Y.cell? ⟨S,0,none⟩=some (fptr X)/\Y.cell? ⟨Z0,2,none⟩=some (.int .i64 fl.E)/\FW Y D X y fl) ((0,0)::(1,0)::(2,0)::(3,0)::(4,0)::(5,0)::(6,0)::(7,0)::(8,0)::(9,0)::(10,0)::(11,0)::(12,0)::[]) (by kernel_rfl) (by kernel_rfl) ?_
        iterate 3 (apply wpP_go;rfl;rfl;exact S9.out;(rintro Z ⟨s0,s1,s2⟩;go_simp;exact rfl);intro K hK;go_simp;refine hK _ ?_;clear hK K)
        iterate 5 (apply wpP_go;rfl;rfl;exact S9.out;(rintro Z ⟨s0,s1,s2⟩;go_simp;exact rfl);intro K hK;go_simp;refine hK _ ?_;clear hK K)
        apply wpP_call
        rfl
        rfl
        exact S9.out
        focus (rintro Z ⟨s0,s1,s2⟩;go_simp;exact⟨rfl,rfl⟩)
        focus (rintro Z ⟨s0,s1,s2⟩;exact erases_any s2 hkB)
        intro K hK
        go_simp
        refine hK _ ?_
        clear hK K
        iterate 4 (apply wpP_go;rfl;rfl;exact S9.out;(rintro Z ⟨s0,s1,s2⟩;go_simp;exact rfl);intro K hK;go_simp;refine hK _ ?_;clear hK K)
        refine wpP_done ?_
        clear S9
        generalize w3.drew=V3 at *
        go_wp2_with fail
        go_roundw
        case rel=>exact⟨k+1,tb,tk,true,by omega,by go_num,rfl,rfl,rfl,HN3,HZ4,HB4⟩
        case measure=>simp[intOf];omega
       ·have hwI:¬(fl.E:Int)<=(fl.er k:Int):=by omega
        have hwd:decide ((fl.er k:Int) ≥ (fl.E:Int))=false:=by simpa using hw
        have HN3:Hid ((k,false,true)=tgtK fl blk (k+1)):=by
         show _=_
         rw[HNX2.out,if_neg (λh=>hw h.2)]
        go_wp2_with fail
        refine HIB.out.mono ?_
        rintro e w' ⟨rfl,rfl⟩
        go_wp2_with fail
        refine wp_region_pl (λ Y=>Y.cell? ⟨S,0,none⟩=some (fptr X)/\Y.cell? ⟨Z0,2,none⟩=some (.int .i64 fl.E)/\FW Y D X y fl) ((0,0)::(1,0)::(2,0)::(3,0)::(4,0)::(5,0)::(6,0)::(7,0)::(8,0)::(9,0)::(10,0)::(11,0)::(12,0)::[]) (by kernel_rfl) (by kernel_rfl) ?_
        iterate 3 (apply wpP_go;rfl;rfl;exact S9.out;(rintro Z ⟨s0,s1,s2⟩;go_simp;exact rfl);intro K hK;go_simp;refine hK _ ?_;clear hK K)
        iterate 5 (apply wpP_go;rfl;rfl;exact S9.out;(rintro Z ⟨s0,s1,s2⟩;go_simp;exact rfl);intro K hK;go_simp;refine hK _ ?_;clear hK K)
        apply wpP_call
        rfl
        rfl
        exact S9.out
        focus (rintro Z ⟨s0,s1,s2⟩;go_simp;exact⟨rfl,rfl⟩)
        focus (rintro Z ⟨s0,s1,s2⟩;exact erases_any s2 hkB)
        intro K hK
        go_simp
        refine hK _ ?_
        clear hK K
        iterate 4 (apply wpP_go;rfl;rfl;exact S9.out;(rintro Z ⟨s0,s1,s2⟩;go_simp;exact rfl);intro K hK;go_simp;refine hK _ ?_;clear hK K)
        refine wpP_done ?_
        clear S9
        generalize w3.drew=V3 at *
        go_wp2_with fail
        go_roundw
        case rel=>exact⟨k+1,k,false,true,by omega,by go_num,rfl,rfl,rfl,HN3,HZ4,HB4⟩
        case measure=>simp[intOf];omega
      ·have HN3:Hid ((k,true,true)=tgtK fl blk (k+1)):=by
        show _=_
        rw[HNX2.out,if_neg (λh=>by cases h.1)]
       go_wp2_with fail
       refine HIB.out.mono ?_
       rintro e w' ⟨rfl,rfl⟩
       go_wp2_with fail
       refine wp_region_pl (λ Y=>Y.cell? ⟨S,0,none⟩=some (fptr X)/\Y.cell? ⟨Z0,2,none⟩=some (.int .i64 fl.E)/\FW Y D X y fl) ((0,0)::(1,0)::(2,0)::(3,0)::(4,0)::(5,0)::(6,0)::(7,0)::(8,0)::(9,0)::(10,0)::(11,0)::(12,0)::[]) (by kernel_rfl) (by kernel_rfl) ?_
       iterate 3 (apply wpP_go;rfl;rfl;exact S9.out;(rintro Z ⟨s0,s1,s2⟩;go_simp;exact rfl);intro K hK;go_simp;refine hK _ ?_;clear hK K)
       iterate 9 (apply wpP_not;rfl;rfl;exact S9.out;intro K hK;go_simp;refine hK _ ?_;clear hK K)
       iterate 1 (apply wpP_go;rfl;rfl;exact S9.out;(rintro Z ⟨s0,s1,s2⟩;go_simp;exact rfl);intro K hK;go_simp;refine hK _ ?_;clear hK K)
       refine wpP_done ?_
       clear S9
       generalize w3.drew=V3 at *
       go_wp2_with fail
       go_roundw
       case rel=>exact⟨k+1,k,true,true,by omega,by go_num,rfl,rfl,rfl,HN3,HZ4,HB4⟩
       case measure=>simp[intOf];omega
  ·have y0:¬(k:Int)<fl.B:=by omega
   have ek:k=fl.B:=by omega
   have HE:Hid ((tb,tk,tf)=tgtF fl blk):=by rw[ek] at HK;exact HK
   go_wp2_with fail
   go_ret3
   rw[<-HE.out]
   exact⟨rfl,HB.out⟩
end
end
end Go.Proofs.YtdinbpdpalgohaaGreatDoor
