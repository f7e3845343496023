/- Walks and laws: K Pl A B C D F E. Conditions: those that each theorem names. -/
import Derived.WalkKit
import Derived.WalkSpells
import Derived.WalkLawsBesides
import Derived.Lib.Hide
import Derived.Deep.RegionHeld3
import Derived.StillTail
import Derived.KernelRfl
import Derived.Test.YtdinbpdpalgohaaGreatDoorRows
import Derived.Test.YtdinbpdpalgohaaGreatDoorSh
set_option maxHeartbeats 4000000
set_option maxRecDepth 100000
namespace Go.Proofs.YtdinbpdpalgohaaGreatDoor
open Go.RowKit
theorem Hh {p:Prop} (h:p):Hid p:=Lib.hid h
section
structure Ch (C:Nat->Prop)(w w':World):Prop where
 os:w'.os=w.os
 tape:w'.tape=w.tape
 output:w'.output=w.output
 size:w.heap.size<=w'.heap.size
 block:∀k,k<w.heap.size->¬C k->w'.heap[k]? = w.heap[k]?
theorem Ch.refl (C:Nat->Prop)(w:World):Ch C w w:=⟨rfl,rfl,rfl,Nat.le_refl _,λ_ _ _=>rfl⟩
theorem Ch.trans {C:Nat->Prop}{a b c:World}(h:Ch C a b)(k:Ch C b c):Ch C a c:=
 ⟨k.os.trans h.os,k.tape.trans h.tape,k.output.trans h.output,Nat.le_trans h.size k.size,λi hi hn=>(k.block i (Nat.lt_of_lt_of_le hi h.size) hn).trans (h.block i hi hn)⟩
theorem Ch.andThen {C D:Nat->Prop}{a b c:World}(h:Ch C a b)(k:Ch D b c)(hd:∀i,D i->i<a.heap.size->C i):Ch C a c:=
 ⟨k.os.trans h.os,k.tape.trans h.tape,k.output.trans h.output,Nat.le_trans h.size k.size,λi hi hn=>(k.block i (Nat.lt_of_lt_of_le hi h.size) (λhD=>hn (hd i hD hi))).trans (h.block i hi hn)⟩
theorem Ch.mono {C D:Nat->Prop}{a b:World}(h:Ch C a b)(hd:∀i,C i->i<a.heap.size->D i):Ch D a b:=
 ⟨h.os,h.tape,h.output,h.size,λi hi hn=>h.block i hi (λhC=>hn (hd i hC hi))⟩
theorem Ch.drew {C:Nat->Prop}{a w:World}(h:Ch C a w):Ch C a w.drew:=⟨h.os,h.tape,h.output,h.size,h.block⟩
theorem Ch.alloc {C:Nat->Prop}{a w:World}(h:Ch C a w)(o:Obj):Ch C a (w.alloc o):=
 ⟨h.os,h.tape,h.output,Nat.le_trans h.size (by simp),λi hi hn=>(Below.heap_alloc w o i (Nat.lt_of_lt_of_le hi h.size)).trans (h.block i hi hn)⟩
theorem Ch.setCell {C:Nat->Prop}{a w:World}(h:Ch C a w){p:Addr}(hp:p.block<a.heap.size->C p.block)(u:Value):Ch C a (w.setCell p u):=
 ⟨h.os,h.tape,h.output,by simpa[World.setCell] using h.size,λi hi hn=>(Below.heap_setCell w p u i (by rintro rfl;exact hn (hp hi))).trans (h.block i hi hn)⟩
theorem Ch.of_below {a w:World}(h:Below a.heap.size a w)(C:Nat->Prop):Ch C a w:=⟨h.os,h.tape,h.output,h.size,λi hi _=>h.block i hi⟩
theorem Ch.below {C:Nat->Prop}{a w:World}{B:Nat}(h:Ch C a w)(hB:B<=a.heap.size)(hC:∀i,C i->B<=i):Below B a w:=
 ⟨h.os,h.tape,h.output,h.size,λk hk=>h.block k (Nat.lt_of_lt_of_le hk hB) (λhc=>by have:=hC k hc;omega)⟩
theorem Ch.of_grown {a w:World}{row:Option Nat}(h:a.grownBy w row){C:Nat->Prop}(hr:∀k,row=some k->k<a.heap.size->C k):Ch C a w:=
 ⟨h.os,h.tape,h.output,h.size,λi hi hn=>h.block i hi (λe=>hn (hr i e.symm hi))⟩
theorem Below.thenCh {a b c:World}{B:Nat}{C:Nat->Prop}(h:Below B a b)(k:Ch C b c)(hB:B<=b.heap.size)(hC:∀i,C i->B<=i):Below B a c:=h.trans (k.below hB hC)
theorem Ch.cell {C:Nat->Prop}{w w':World}(k:Ch C w w')(p:Addr)(hp:p.block<w.heap.size)(hn:¬C p.block):w'.cell? p=w.cell? p:=World.cell?_of_block (w:=w) (k.block p.block hp hn)
theorem Ch.frozen {C:Nat->Prop}{w w':World}(k:Ch C w w')(p:Addr)(hp:p.block<w.heap.size)(hn:¬C p.block):w'.frozen? p=w.frozen? p:=World.frozen?_of_block (w:=w) (k.block p.block hp hn)
theorem bthen {w w1 w2:World}(h:Below w.heap.size w w1)(k:Below w1.heap.size w1 w2):Below w.heap.size w w2:=h.trans (k.mono h.size)
theorem heap_lt {w:World}{g:Nat}{o:Obj}(h:w.heap[g]? = some o):g<w.heap.size:=by
 rcases Nat.lt_or_ge g w.heap.size with hlt|hge
 ·exact hlt
 ·rw[Array.getElem?_eq_none hge] at h;cases h
theorem heap_set {w:World}{g t i:Nat}{cs:Array Value}(h:w.heap[g]? = some (.cells cs t (0,0)))(u:Value):(w.setCell ⟨g,i,none⟩ u).heap[g]? = some (.cells (cs.setIfInBounds i u) t (0,0)):=by
 simp[World.setCell,Array.getElem?_modify,h]
theorem set_hit {cs:Array Value}{i:Nat}{u:Value}(h:i<cs.size):(cs.setIfInBounds i u)[i]? = some u:=by simp[h]
theorem set_miss {cs:Array Value}{i j:Nat}{u:Value}(h:i≠j):(cs.setIfInBounds i u)[j]? = cs[j]? := by simp[h]
def upd {α:Type}(v:Nat->α)(i:Nat)(u:α):Nat->α:=λj=>if j=i then u else v j
theorem upd_hit {α:Type}(v:Nat->α)(i:Nat)(u:α):upd v i u i=u:=if_pos rfl
theorem upd_miss {α:Type}(v:Nat->α){i j:Nat}(u:α)(h:j≠i):upd v i u j=v j:=if_neg h
def Row (w:World)(B t N:Nat)(v:Nat->Value):Prop:=∃cs:Array Value,w.heap[B]? = some (.cells cs t (0,0))/\cs.size=N/\∀i,i<N->cs[i]? = some (v i)
section
variable {w w':World}{B t N:Nat}{v v':Nat->Value}
theorem Row.lt (h:Row w B t N v):B<w.heap.size:=by obtain⟨_,hh,_⟩:=h;exact heap_lt hh
theorem Row.cell (h:Row w B t N v){i:Nat}(hi:i<N):w.cell? ⟨B,i,none⟩=some (v i):=by
 obtain⟨cs,hh,_,hc⟩:=h
 rw[cell_of_row w B i cs t (0,0) hh,hc i hi]
theorem Row.frozen (h:Row w B t N v)(i:Nat):w.frozen? ⟨B,i,none⟩=false:=by
 obtain⟨cs,hh,_,_⟩:=h
 simp[World.frozen?,hh]
theorem Row.congr (h:Row w B t N v)(e:∀i,i<N->v i=v' i):Row w B t N v':=by
 obtain⟨cs,hh,hs,hc⟩:=h
 exact⟨cs,hh,hs,λi hi=>by rw[hc i hi,e i hi]⟩
theorem Row.set (h:Row w B t N v){i:Nat}(hi:i<N)(u:Value):Row (w.setCell ⟨B,i,none⟩ u) B t N (upd v i u):=by
 obtain⟨cs,hh,hs,hc⟩:=h
 refine⟨_,heap_set hh u,by simpa using hs,λj hj=>?_⟩
 by_cases e:j=i
 ·subst e;rw[set_hit (by omega),upd_hit]
 ·rw[set_miss (Ne.symm e),upd_miss _ _ e,hc j hj]
theorem Row.far (h:Row w B t N v){p:Addr}(hp:B≠p.block)(u:Value):Row (w.setCell p u) B t N v:=by
 obtain⟨cs,hh,hs,hc⟩:=h
 exact⟨cs,(Below.heap_setCell w p u B hp).trans hh,hs,hc⟩
theorem Row.alloc (h:Row w B t N v)(o:Obj):Row (w.alloc o) B t N v:=by
 have hlt:=h.lt
 obtain⟨cs,hh,hs,hc⟩:=h
 exact⟨cs,(Below.heap_alloc w o B hlt).trans hh,hs,hc⟩
theorem Row.drew (h:Row w B t N v):Row w.drew B t N v:=h
theorem Row.drewN (h:Row w B t N v)(n:Nat):Row (w.drewN n) B t N v:=h
theorem Row.ch {C:Nat->Prop}(h:Row w B t N v)(k:Ch C w w')(hB:¬C B):Row w' B t N v:=by
 have hlt:=h.lt
 obtain⟨cs,hh,hs,hc⟩:=h
 exact⟨cs,(k.block B hlt hB).trans hh,hs,hc⟩
theorem Row.below {B0:Nat}(h:Row w B t N v)(k:Below B0 w w')(hB:B<B0):Row w' B t N v:=by
 obtain⟨cs,hh,hs,hc⟩:=h
 exact⟨cs,(k.block B hB).trans hh,hs,hc⟩
end
theorem Row.ofList (w:World)(t:Nat)(cs:Array Value)(v:Nat->Value)(N:Nat)(h:cs.toList=(List.range N).map v):Row (w.alloc (.cells cs t)) w.heap.size t N v:=by
 have hs:cs.size=N:=by rw[<-Array.length_toList,h];simp
 refine⟨cs,heap_alloc_new w _,hs,λi hi=>?_⟩
 rw[<-Array.getElem?_toList,h]
 simp[hi]
theorem run_index_array {P:Program}(t e:TypeId)(len:Nat)(d:TypeDesc)(i:TypeInfo)(cs:Array Value)(k:Nat)(v:Value)(ht:P.underlying t=some (.array len e))(he:P.underlying e=some d)
  (hd:(match d with|.struct _|.array _ _=>true|_=>false)=false) (hi:P.info? e=some i) (hs:i.size=1) (hk:k<len) (hv:cs[k]? = some v) (w:World) :
  (Instr.index t (.agg cs) (.int .i64 (k:Int))).run P w=.ok v w:=by
 have hagg:(isAgg e).run P w=.ok false w:=by
  unfold isAgg
  rw[Sem.run_bind,run_underlying he w]
  cases d<;>simp_all
 simp[Instr.index,asIntOf,run_underlying ht,hk,part,hagg,sizeOf,typeInfo,hi,hs,hv]
theorem ret_int {k:IntKind}{a b:Int}(h:a=b):Ending.returned (.int k a)=.returned (.int k b):=by rw[h]
end
section
open Go
section
variable {P:Program}{ops:Array Oper}{Q:Exit->Act->World->Prop}{md:Region.Mode}{S:World->Prop}{N:Nat->Bool}
def YS (P:Program)(ops:Array Oper)(S:World->Prop)(o:Oper)(v:Value)(a:Act):Prop:=
 (Region.wanted o (yielded ops a.tmps)=true/\∀w,S w->((execOp a.eval o).run P w=.ok (.value v) w\/((execOp a.eval o).run P w=.ok .skip w/\v=undef) \/
  ∃f args,(execOp a.eval o).run P w=.ok (.enter f args) w/\Calls P f args w (λe w''=>e=.returned v/\w''=w))) \/
 (Region.wanted o (yielded ops a.tmps)=false/\v=undef)
theorem YS.of_same {o:Oper}{v:Value}{a a':Act}(hy:YS P ops S o v a)(he:execOp a'.eval o=execOp a.eval o)
  (hw:Region.wanted o (yielded ops a'.tmps)=Region.wanted o (yielded ops a.tmps)):YS P ops S o v a':=by
 unfold YS at *
 rw[he,hw]
 exact hy
theorem YS.wpOp {i:Nat}{o:Oper}{v:Value}{a:Act}(hi:ops[i]? = some o)(hy:YS P ops S o v a)
  {K:Act->World->Prop} {w:World} (hS:S w) (h:K (a.put o.dst v) w):wpOp P ops Q i K a w:=by
 unfold Go.wpOp
 simp only[hi]
 rcases hy with ⟨hw,hv⟩|⟨hw,rfl⟩
 ·simp only[hw,if_true]
  refine .inl ?_
  unfold Oper.wp
  rcases hv w hS with h1|⟨h1,rfl⟩|⟨f,args,h1,hc⟩
  ·rw[h1];exact h
  ·rw[h1];exact h
  ·rw[h1];exact hc.mono λe w'' ⟨he,hw⟩=>by subst he;subst hw;exact h
 ·simp only[hw,Bool.false_eq_true,if_false];exact h
theorem wpOp_putS {j:Nat}{oi oj:Oper}{v:Value}(hj:ops[j]? = some oj)(hap:oi.apart ops oj=true)
  (hsi:∀cs b,oi.op≠.select cs b) (hsj:∀cs b,oj.op≠.select cs b)
  (hQ:∀c a w,¬Q (.panic c) a w) {K:Act->World->Prop} {a:Act} {w:World}
  (hy:YS P ops S oi v a) (h:wpOp P ops Q j K (a.put oi.dst v) w) :
  wpOp P ops Q j (λa' w'=>YS P ops S oi v a'/\K (a'.put oi.dst v) w') a w:=by
 obtain⟨h1,h2,h3⟩:=Oper.apart_spec hap
 have keep:∀(a:Act),YS P ops S oi v a->∀u,YS P ops S oi v (a.put oj.dst u):=λa hy u=>
  hy.of_same (execOp_put oi hsi a oj.dst u h3) (wanted_put oi a oj.dst u h3)
 have keepD:∀d,YS P ops S oi v { a with defers:=d::a.defers }:=λd=>hy.of_same rfl rfl
 unfold wpOp at *
 simp only[hj] at *
 rw[wanted_put oj a oi.dst v h1] at h
 split
 ·rename_i hw
  simp only[hw,if_true] at h
  rcases h with h|⟨hasks,hlets⟩
  case inr=>exact .inr ⟨by unfold Oper.asks at *;rw[execOp_put oj hsj a oi.dst v h1] at hasks;exact hasks,hlets⟩
  refine .inl ?_
  unfold Oper.wp at *
  rw[execOp_put oj hsj a oi.dst v h1] at h
  generalize (execOp a.eval oj).run P w=r at *
  cases r with
  | ok n w'=>
   cases n<;>simp only[Oper.upon] at h ⊢
   case value u=>exact⟨keep a hy u,by rw[<-Act.put_comm a v u h2];exact h⟩
   case skip=>exact⟨keep a hy _,by rw[<-Act.put_comm a v undef h2];exact h⟩
   case defer d=>
    refine⟨keep _ (keepD d) _,?_⟩
    rw[<-Act.put_comm _ v undef h2,<-Act.put_defers]
    exact h
   case enter f args=>
    refine Calls.mono h λe w'' he=>?_
    cases e with
    | returned u=>exact⟨keep a hy u,by rw[<-Act.put_comm a v u h2];exact he⟩
    | panicked c=>exact absurd he (hQ _ _ _)
    | outgrown=>exact he
   case row row args=>exact Rows.mono h λu w'' he=>⟨keep a hy u,by rw[<-Act.put_comm a v u h2];exact he⟩
  | halt x w'=>
   cases x<;>simp only[Oper.upon] at h ⊢
   case panic u=>exact absurd h (hQ _ _ _)
 ·rename_i hw
  simp only[hw] at h
  exact⟨keep a hy _,by rw[<-Act.put_comm a v undef h2];exact h⟩
def wpAnyP (P:Program)(md:Region.Mode)(ops:Array Oper)(Q:Exit->Act->World->Prop)(S:World->Prop)(N:Nat->Bool):Nat->Array Bool->Act->World->Prop
 | 0,listed,a,w=>Region.ready md ops listed=[]/\Q .normal a w
 | fuel+1,listed,a,w=>
  (Region.ready md ops listed=[]->Q .normal a w) /\
  ∀i∈Region.ready md ops listed,wpOp P ops Q i (λa' w'=>(N i=true\/S w')/\wpAnyP P md ops Q S N fuel (listed.setIfInBounds i true) a' w') a w
theorem wpAny_of_P:∀(fuel:Nat) (listed:Array Bool) (a:Act) (w:World),wpAnyP P md ops Q S N fuel listed a w->wpAny P md ops Q fuel listed a w
 | 0,_,_,_,h=>h
 | fuel+1,_,_,_,h=>⟨h.1,λi hi=>wpOp_mono (λa' w' h'=>wpAny_of_P fuel _ a' w' h'.2) (h.2 i hi)⟩
theorem wpAnyP_first {i:Nat}{oi:Oper}{v:Value}(hi:ops[i]? = some oi)(hsel:∀(j:Nat) (o:Oper) cs b,ops[j]? = some o->o.op≠.select cs b)
  (hQ:∀c a w,¬Q (.panic c) a w) (hN:∀j oj,ops[j]? = some oj->N j=true->∃e∈oj.after,Region.binds md e=true/\e.on=i) :
  ∀(fuel:Nat) (listed:Array Bool) (a:Act) (w:World),
   (∀j oj,ops[j]? = some oj->j≠i->listed.getD j true=false->(∀e∈oj.after,Region.binds md e=true->e.on≠i)->oi.apart ops oj=true) ->
   i∈Region.ready md ops listed->YS P ops S oi v a->S w ->
   wpAnyP P md ops Q S N fuel (listed.setIfInBounds i true) (a.put oi.dst v) w->wpAnyP P md ops Q S N (fuel+1) listed a w:=by
 intro fuel
 induction fuel with
 | zero=>
  intro listed a w _ hr hy hS H
  refine⟨λh=>(by rw[h] at hr;cases hr),λj hj=>?_⟩
  by_cases hji:j=i
  ·subst hji;exact hy.wpOp hi hS ⟨.inr hS,H⟩
  ·have:=ready_mono hj hji
   rw[H.1] at this
   cases this
 | succ fuel ih=>
  intro listed a w hfree hr hy hS H
  refine⟨λh=>(by rw[h] at hr;cases hr),λj hj=>?_⟩
  by_cases hji:j=i
  ·subst hji;exact hy.wpOp hi hS ⟨.inr hS,H⟩
  ·have h1:=H.2 j (ready_mono hj hji)
   obtain⟨hjun,oj,hoj,hall⟩:=mem_ready.1 hj
   have hnot:∀e∈oj.after,Region.binds md e=true->e.on≠i:=λe he hb heq=>by
    have h1:=hall e he hb
    have h0:=(mem_ready.1 hr).1
    rw[heq] at h1
    rcases Nat.lt_or_ge i listed.size with h'|h'
    ·simp[h'] at h0 h1;rw[h0] at h1;cases h1
    ·simp[Array.getElem?_eq_none h'] at h1
   have hNj:N j=false:=by
    cases hNj:N j
    ·rfl
    ·obtain⟨e,he,hb,hon⟩:=hN j oj hoj hNj
     exact absurd hon (hnot e he hb)
   have h2:=wpOp_putS hoj (hfree j oj hoj hji hjun hnot) (λcs b=>hsel i oi cs b hi) (λcs b=>hsel j oj cs b hoj) hQ hy h1
   have hfree':∀k ok,ops[k]? = some ok->k≠i->(listed.setIfInBounds j true).getD k true=false ->
     (∀e∈ok.after,Region.binds md e=true->e.on≠i)->oi.apart ops ok=true:=λk ok hk hki hun hno=>by
    refine hfree k ok hk hki ?_ hno
    by_cases hjk:j=k
    ·subst hjk;exact hjun
    ·rw[getD_set_ne true hjk] at hun;exact hun
   refine wpOp_mono (λa' w' h3=>?_) h2
   have hS':S w':=by
    rcases h3.2.1 with h4|h4
    ·rw[hNj] at h4;cases h4
    ·exact h4
   refine⟨.inr hS',ih (listed.setIfInBounds j true) a' w' hfree' (ready_mono hr (Ne.symm hji)) h3.1 hS' ?_⟩
   rw[Array.setIfInBounds_comm _ _ hji]
   exact h3.2.2
theorem YS.run {o:Oper}{v:Value}{a:Act}(hw:Region.wanted o (yielded ops a.tmps)=true)(h:∀w,S w->(execOp a.eval o).run P w=.ok (.value v) w):YS P ops S o v a:=.inl ⟨hw,λw hS=>.inl (h w hS)⟩
def wpP (P:Program)(ops:Array Oper)(Q:Exit->Act->World->Prop)(S:World->Prop):List (Nat×Nat)->Act->World->Prop
 | [],a,w=>Q .normal a w
 | (k,0)::r,a,w=>∃o v,ops[k]? = some o/\YS P ops S o v a/\S w/\wpP P ops Q S r (a.put o.dst v) w
 | (k,1)::r,a,w=>wpOp P ops Q k (λa' w'=>S w'/\wpP P ops Q S r a' w') a w
 | (k,_+2)::r,a,w=>wpOp P ops Q k (λa' w'=>wpP P ops Q S r a' w') a w
def plB (md:Region.Mode)(ops:Array Oper):List (Nat×Nat)->Array Bool->Bool
 | [],listed=>(Region.ready md ops listed).isEmpty
 | (k,0)::r,listed=>(Region.ready md ops listed).contains k&&Region.free md ops listed k&&plB md ops r (listed.setIfInBounds k true)
 | (k,_+1)::r,listed=>decide (Region.ready md ops listed=[k])&&plB md ops r (listed.setIfInBounds k true)
def noS (pl:List (Nat×Nat))(j:Nat):Bool:=pl.any λx=>x.1==j&&decide (2<=x.2)
def noSB (md:Region.Mode)(ops:Array Oper)(pl:List (Nat×Nat)):Bool:=
 pl.all λx=>!decide (2<=x.2)||pl.all λy=>!(y.2==0)||Region.waitsFor md ops x.1 y.1
def plOK (md:Region.Mode)(ops:Array Oper)(pl:List (Nat×Nat)):Bool:=
 decide (pl.length=ops.size)&&Region.noSelect ops&&noSB md ops pl&&plB md ops pl (Array.replicate ops.size false)
theorem noS_spec {pl:List (Nat×Nat)}{i:Nat}(hi:(i,0)∈pl)(hN:noSB md ops pl=true)(j:Nat)(oj:Oper)(hj:ops[j]? = some oj)(h:noS pl j=true):∃e∈oj.after,Region.binds md e=true/\e.on=i:=by
 obtain⟨x,hx,hx2⟩:=List.any_eq_true.1 h
 simp only[Bool.and_eq_true,beq_iff_eq,decide_eq_true_eq] at hx2
 have h1:=List.all_eq_true.1 hN x hx
 simp only[hx2.2,decide_true,Bool.not_true,Bool.false_or] at h1
 have h2:=List.all_eq_true.1 h1 _ hi
 obtain⟨oj',hoj',r⟩:=Region.waitsFor_spec (by simpa using h2)
 rw[hx2.1,hj] at hoj'
 injection hoj' with hoj'
 subst hoj'
 exact r
theorem wpAnyP_plan (pl0:List (Nat×Nat))(hsel:Region.noSelect ops=true)(hQ:∀c a w,¬Q (.panic c) a w)(hN:noSB md ops pl0=true)(pl:List (Nat×Nat)) :
  ∀(listed:Array Bool) (a:Act) (w:World),(∀x∈pl,x∈pl0)->plB md ops pl listed=true->wpP P ops Q S pl a w->wpAnyP P md ops Q S (noS pl0) pl.length listed a w:=by
 induction pl with
 | nil=>intro listed a w _ hB h;exact⟨by simpa[plB] using hB,h⟩
 | cons x r ih=>
  intro listed a w hm hB h
  obtain⟨k,c⟩:=x
  have hmr:∀x∈r,x∈pl0:=λx hx=>hm x (List.mem_cons_of_mem _ hx)
  have hk:=hm (k,c) (List.mem_cons_self ..)
  match c,hB,h,hk with
  | 0,hB,h,hk=>
   simp only[plB,Bool.and_eq_true] at hB
   obtain⟨⟨hr,hf⟩,hB'⟩:=hB
   obtain⟨o,v,ho,hy,hS,hK⟩:=h
   exact wpAnyP_first ho (Region.noSelect_spec hsel) hQ (λj oj hj hNj=>noS_spec hk hN j oj hj hNj) _ listed a w (Region.free_spec ho hf) (by simpa using hr) hy hS (ih _ _ _ hmr hB' hK)
  | 1,hB,h,hk=>
   simp only[plB,Bool.and_eq_true,decide_eq_true_eq] at hB
   refine⟨λh1=>(by rw[hB.1] at h1;cases h1),λi hi=>?_⟩
   rw[hB.1] at hi
   have hik:i=k:=by simpa using hi
   subst hik
   exact wpOp_mono (λa' w' h'=>⟨.inr h'.1,ih _ a' w' hmr hB.2 h'.2⟩) h
  | c+2,hB,h,hk=>
   simp only[plB,Bool.and_eq_true,decide_eq_true_eq] at hB
   refine⟨λh1=>(by rw[hB.1] at h1;cases h1),λi hi=>?_⟩
   rw[hB.1] at hi
   have hik:i=k:=by simpa using hi
   subst hik
   exact wpOp_mono (λa' w' h'=>⟨.inl (List.any_eq_true.2 ⟨_,hk,by simp⟩),ih _ a' w' hmr hB.2 h'⟩) h
theorem wp_region_pl {id:Nat}{a:Act}{w:World}{l:List Oper}(S:World->Prop)(pl:List (Nat×Nat))(hm:P.follows .mixedOrders=true)(hB:plOK .any l.toArray pl=true)
  (h:wpP P l.toArray (NoPanic Q) S pl a w.drew):(Code.region id l.toArray true).wp P Q a w:=by
 simp only[plOK,Bool.and_eq_true,decide_eq_true_eq] at hB
 obtain⟨⟨⟨hn,hsel⟩,hN⟩,hB⟩:=hB
 refine wp_region_noPanic (wp_region_any hm (wpAny_of_P (S:=S) (N:=noS pl) _ _ _ _ ?_))
 have:=wpAnyP_plan (P:=P) (md:=.any) (Q:=NoPanic Q) (S:=S) (ops:=l.toArray) pl hsel (λc a w h=>h) hN pl _ a w.drew (λ_ h=>h) hB h
 rw[hn] at this
 exact this
variable {k:Nat}{o:Oper}{l t:List Oper}{r:List (Nat×Nat)}{a:Act}{w:World}
theorem op_at (ho:l.drop k=o::t):l.toArray[k]? = some o:=by
 have:=congrArg (·[0]?) ho
 simpa using this
theorem wpP_go (ho:l.drop k=o::t)(hw:Region.wanted o (yielded l.toArray a.tmps)=true)(hS:S w)(v:Value)(hr:∀X,S X->(execOp a.eval o).run P X=.ok (.value v) X)
  (h:∀K:Act->Prop,(∀a',wpP P l.toArray Q S r a' w->K a')->K (a.put o.dst v)):wpP P l.toArray Q S ((k,0)::r) a w:=⟨o,v,op_at ho,YS.run hw hr,hS,h _ (λ_ h=>h)⟩
theorem wpP_not (ho:l.drop k=o::t)(hw:Region.wanted o (yielded l.toArray a.tmps)=false)(hS:S w)
  (h:∀K:Act->Prop,(∀a',wpP P l.toArray Q S r a' w->K a')->K (a.put o.dst undef)):wpP P l.toArray Q S ((k,0)::r) a w:=⟨o,undef,op_at ho,.inr ⟨hw,rfl⟩,hS,h _ (λ_ h=>h)⟩
theorem wpP_call (ho:l.drop k=o::t)(hw:Region.wanted o (yielded l.toArray a.tmps)=true)(hS:S w)(v:Value)(f:FuncId)(args:Array Value)(hr:∀X,S X->(execOp a.eval o).run P X=.ok (.enter f args) X)
  (hc:∀X,S X->Calls P f args X λe w'=>e=.returned v/\X=w')
  (h:∀K:Act->Prop,(∀a',wpP P l.toArray Q S r a' w->K a')->K (a.put o.dst v)):wpP P l.toArray Q S ((k,0)::r) a w:=
 ⟨o,v,op_at ho,.inl ⟨hw,λw hS=>.inr (.inr ⟨f,args,hr w hS,(hc w hS).mono λ_ _ ⟨h1,h2⟩=>⟨h1,h2.symm⟩⟩)⟩,hS,h _ (λ_ h=>h)⟩
theorem wpP_one (ho:l.drop k=o::t)
  (h:∀K:Act->World->Prop,(∀a w,S w->wpP P l.toArray Q S r a w->K a w)->if Region.wanted o (yielded l.toArray a.tmps) then o.wp P a w K Q else K (a.put o.dst undef) w):wpP P l.toArray Q S ((k,1)::r) a w:=by
 have:=h (λa w=>S w/\wpP P l.toArray Q S r a w) (λa w h1 h2=>⟨h1,h2⟩)
 show wpOp _ _ _ _ _ _ _
 unfold wpOp
 simp only[op_at ho]
 split
 ·rename_i hw;rw[if_pos hw] at this;exact .inl this
 ·rename_i hw;rw[if_neg hw] at this;exact this
theorem wpP_two (ho:l.drop k=o::t)
  (h:∀K:Act->World->Prop,(∀a w,wpP P l.toArray Q S r a w->K a w)->if Region.wanted o (yielded l.toArray a.tmps) then o.wp P a w K Q else K (a.put o.dst undef) w):wpP P l.toArray Q S ((k,2)::r) a w:=by
 have:=h (λa w=>wpP P l.toArray Q S r a w) (λa w h2=>h2)
 show wpOp _ _ _ _ _ _ _
 unfold wpOp
 simp only[op_at ho]
 split
 ·rename_i hw;rw[if_pos hw] at this;exact .inl this
 ·rename_i hw;rw[if_neg hw] at this;exact this
theorem wpP_done (h:Q .normal a w):wpP P l.toArray (NoPanic Q) S [] a w:=h
end
end
abbrev Str:=List UInt8
def zbit (b:UInt8):Nat:=8-Lib.onesCount b.toNat
def zeros (l:Str):Nat:=(l.map zbit).sum
theorem ones_le:∀x:Fin 256,Lib.onesCount x.val<=8:=by decide +kernel
theorem zbit_eq (b:UInt8):((zbit b:Nat):Int)=8-(Lib.onesCount b.toNat:Int):=by
 have:=ones_le ⟨b.toNat,b.toNat_lt⟩
 unfold zbit
 simp at this
 omega
theorem zbit_le (b:UInt8):zbit b<=8:=by unfold zbit;omega
theorem zeros_le (l:Str):zeros l<=8*l.length:=by
 induction l with
 | nil=>simp[zeros]
 | cons b r ih=>have:=zbit_le b;simp[zeros] at *;omega
theorem zeros_append (a b:Str):zeros (a++b)=zeros a+zeros b:=by simp[zeros]
theorem zeros_succ {l:Str}{i:Nat}(h:i<l.length):zeros (l.take (i+1))=zeros (l.take i)+zbit l[i]:=by
 rw[List.take_succ_eq_append_getElem h,zeros_append];simp[zeros]
theorem zeroBits_any (s:ByteArray)(w:World)(hs:s.size<=1000000) :
  Calls Tryz.prog 134 #[.string s] w λe w'=>e=.returned (.int .i64 (zeros s.data.toList:Nat))/\w=w':=by
 have hsz:s.data.toList.length=s.size:=Array.length_toList
 go_enter Tryz.func134,Tryz.ntmps134
 go_wp2_with fail
 go_loop [3,7] (λx z=>∃i:Nat,i<=s.size/\z=.int .i64 (i:Int)/\x=.int .i64 (zeros (s.data.toList.take i):Nat)) (λ_ z=>s.size-(intOf z).toNat)
 case atStart=>exact⟨0,by omega,rfl,rfl⟩
 case round=>
  obtain⟨i,hi,rfl,rfl⟩:=hrel
  by_cases hlt:i<s.size
  ·have y0:(i:Int)<s.size:=by omega
   obtain⟨o,ho,h8,hB⟩:∃o:Nat,Lib.onesCount s[i].toNat=o/\o<=8/\((zeros (s.data.toList.take (i+1)):Nat):Int)=(zeros (s.data.toList.take i):Nat)+(8-(o:Int)):=by
    refine⟨_,rfl,ones_le ⟨s[i].toNat,s[i].toNat_lt⟩,?_⟩
    rw[zeros_succ (l:=s.data.toList) (i:=i) (by omega),Int.natCast_add,zbit_eq]
    rfl
   have hb:s[i].toNat<256:=s[i].toNat_lt
   have HB:=Hh hB
   have hz:=zeros_le (s.data.toList.take i)
   rw[List.length_take] at hz
   have HC:Hid (Calls Tryz.prog 159 #[.int .u8 (s[i].toNat:Int)] w λe w'=>e=.returned (.int .i64 (o:Int))/\w=w'):=by
    refine(Tryz.bits_OnesCount8 _ w (by omega) (by omega)).mono ?_
    rintro e w' ⟨rfl,rfl⟩
    exact⟨by rw[<-ho];rfl,rfl⟩
   clear hB ho
   generalize zeros (s.data.toList.take i)=z at *
   go_wp2_with fail
   refine HC.out.mono ?_
   rintro e w' ⟨rfl,rfl⟩
   go_wp2_with fail
   go_round
   case rel=>exact⟨i+1,by omega,by go_num,by rw[HB.out]⟩
   case measure=>simp[intOf];omega
  ·have y0:¬(i:Int)<s.size:=by omega
   have e:s.data.toList.take i=s.data.toList:=List.take_of_length_le (by omega)
   rw[e]
   go_wp2_with fail
   go_ret
   exact⟨rfl,rfl⟩
def pgs (n:Nat):Nat:=(n+63)/64
theorem pagesOf_any (n:Nat)(w:World)(hn:n<=1000000) :
  Calls Tryz.prog 138 #[.int .i64 (n:Int)] w λe w'=>e=.returned (.int .i64 (pgs n:Nat))/\w=w':=by
 go_enter Tryz.func138,Tryz.ntmps138
 go_wp2_with fail
 go_ret
 exact⟨ret_int (by unfold pgs;omega),rfl⟩
def okLens (k n v:Nat):Bool:=(k==1&&decide (1<=n)&&decide (n<=24)&&decide (v<=128))||(k==2&&decide (1<=n)&&decide (n<=24)&&v==0)||(k==3&&n==0&&v==8)
theorem permitted_any (k n v:Nat)(w:World)(hn:n<=1000000000000)(hv:v<=1000000000000) :
  Calls Tryz.prog 106 #[.int .i64 (k:Int),.int .i64 (n:Int),.int .i64 (v:Int)] w λe w'=>e=.returned (.bool (okLens k n v))/\w=w':=by
 go_enter Tryz.func106,Tryz.ntmps106
 go_wp2_with fail
 all_goals
  go_ret
  refine⟨?_,rfl⟩
  show Ending.returned (Value.bool _)=Ending.returned (Value.bool _)
  congr 2
  rw[Bool.eq_iff_iff]
  simp at *
  simp[okLens]
  omega
def recd (k:Nat)(n v:Str):Str:=
 let lead:Str:=[UInt8.ofNat k,UInt8.ofNat n.length,UInt8.ofNat v.length]
 let c:=zeros lead+zeros n+zeros v
 lead++[UInt8.ofNat (c/256),UInt8.ofNat (c%256)]++n++v
theorem u8_of {a:Nat}(h:a<=255):(UInt8.ofNat a).toNat=a:=by simp;omega
theorem conv_new (w:World)(l:Str)(cs:Array Value)(n:Nat)(hn:l.length=n)(hcs:cs.toList=l.map λb=>.int .u8 (b.toNat:Int)) :
  (convert 99 9 (.slice (some ⟨w.heap.size,0,none⟩) n n)).run Tryz.prog (w.alloc (.cells cs 5))=.ok (.string ⟨l.toArray⟩) (w.alloc (.cells cs 5)):=by
 have:=run_convert_bytes_back (P:=Tryz.prog) (w.alloc (.cells cs 5)) 99 9 5 ⟨w.heap.size,0,none⟩ n l Tryz.underlying99 Tryz.underlying5 Tryz.underlying9 (λj hj=>by
  rw[Addr.add_mid,cell_of_row _ _ _ _ _ _ (heap_alloc_new w _),Nat.zero_add,<-Array.getElem?_toList,hcs]
  simp[hj])
 rw[hn] at this
 exact this
theorem encode_any (k:Nat)(n v:ByteArray)(w:World)(hk:k<=255)(hn:n.size<=255)(hv:v.size<=255) :
  Calls Tryz.prog 140 #[.int .i64 (k:Int),.string n,.string v] w λe w'=>e=.returned (.string ⟨(recd k n.data.toList v.data.toList).toArray⟩)/\Below w.heap.size w w':=by
 obtain⟨lead,hlead⟩:∃lead:ByteArray,lead=⟨#[UInt8.ofNat k,UInt8.ofNat n.size,UInt8.ofNat v.size]⟩:=⟨_,rfl⟩
 have hb1:Below w.heap.size w (w.alloc (.cells #[.int .u8 k,.int .u8 n.size,.int .u8 v.size] 5)):=(Below.refl _ _).alloc (Nat.le_refl _) _
 have B1:=Hh hb1
 have C1:(convert 99 9 (.slice (some ⟨w.heap.size,0,none⟩) 3 3)).run Tryz.prog (w.alloc (.cells #[.int .u8 k,.int .u8 n.size,.int .u8 v.size] 5))=.ok (.string lead) (w.alloc (.cells #[.int .u8 k,.int .u8 n.size,.int .u8 v.size] 5)):=by
  rw[hlead];exact conv_new w [UInt8.ofNat k,UInt8.ofNat n.size,UInt8.ofNat v.size] #[.int .u8 k,.int .u8 n.size,.int .u8 v.size] 3 rfl (by simp[u8_of hk,u8_of hn,u8_of hv])
 have hls:lead.size=3:=by rw[hlead];rfl
 have HL:=Hh hlead
 clear hb1 hlead
 go_enter Tryz.func140,Tryz.ntmps140
 go_wp2_with fail
 have hbz:=B1.out.size
 generalize w.alloc (.cells #[.int .u8 k,.int .u8 n.size,.int .u8 v.size] 5)=w1 at *
 clear C1
 refine(zeroBits_any lead w1 (by omega)).mono ?_
 rintro e w2 ⟨rfl,rfl⟩
 have z1:=zeros_le lead.data.toList
 have z1':lead.data.toList.length=3:=by rw[Array.length_toList];exact hls
 have z2:=zeros_le n.data.toList
 have z2':n.data.toList.length=n.size:=Array.length_toList
 have z3:=zeros_le v.data.toList
 have z3':v.data.toList.length=v.size:=Array.length_toList
 obtain⟨c1,e1⟩:∃c1,zeros lead.data.toList=c1:=⟨_,rfl⟩
 obtain⟨c2,e2⟩:∃c2,zeros n.data.toList=c2:=⟨_,rfl⟩
 obtain⟨c3,e3⟩:∃c3,zeros v.data.toList=c3:=⟨_,rfl⟩
 have ZN:=Hh (zeroBits_any n w1 (by omega))
 have ZV:=Hh (zeroBits_any v w1 (by omega))
 rw[e1] at z1 ⊢
 rw[e2] at z2 ZN
 rw[e3] at z3 ZV
 have E1:=Hh e1
 have E2:=Hh e2
 have E3:=Hh e3
 have y1:c1<=24:=by omega
 have y2:c2<=2040:=by omega
 have y3:c3<=2040:=by omega
 clear e1 e2 e3 z1 z2 z3 z1' z2' z3'
 go_wp2_with fail
 refine ZN.out.mono ?_
 rintro e w2 ⟨rfl,rfl⟩
 go_wp2_with fail
 refine ZV.out.mono ?_
 rintro e w2 ⟨rfl,rfl⟩
 have hc1:(c1+c2+c3)/256<=255:=by omega
 have hc2:(c1+c2+c3)%256<=255:=by omega
 obtain⟨chk,hchk⟩:∃chk:ByteArray,chk=⟨#[UInt8.ofNat ((c1+c2+c3)/256),UInt8.ofNat ((c1+c2+c3)%256)]⟩:=⟨_,rfl⟩
 have C2:(convert 99 9 (.slice (some ⟨w1.heap.size,0,none⟩) 2 2)).run Tryz.prog (w1.alloc (.cells #[.int .u8 (((c1:Int)+c2+c3)/256),.int .u8 (((c1:Int)+c2+c3)%256)] 5))=.ok (.string chk) (w1.alloc (.cells #[.int .u8 (((c1:Int)+c2+c3)/256),.int .u8 (((c1:Int)+c2+c3)%256)] 5)):=by
  rw[hchk];exact conv_new w1 [UInt8.ofNat ((c1+c2+c3)/256),UInt8.ofNat ((c1+c2+c3)%256)] _ 2 rfl (by
   simp only[List.map_cons,List.map_nil,u8_of hc1,u8_of hc2]
   rfl)
 have B2:Hid (Below w.heap.size w (w1.alloc (.cells #[.int .u8 (((c1:Int)+c2+c3)/256),.int .u8 (((c1:Int)+c2+c3)%256)] 5))):=B1.out.alloc hbz _
 have HF:Hid (lead++chk++n++v=(⟨(recd k n.data.toList v.data.toList).toArray⟩:ByteArray)):=by
  show _=_
  apply ByteArray.ext
  apply Array.toList_inj.1
  have f1:=HL.out
  have f2:n.data.toList.length=n.size:=Array.length_toList
  have f3:v.data.toList.length=v.size:=Array.length_toList
  unfold recd
  rw[f2,f3]
  have f4:lead.data.toList=[UInt8.ofNat k,UInt8.ofNat n.size,UInt8.ofNat v.size]:=by rw[f1]
  rw[<-f4]
  dsimp only
  rw[E1.out,E2.out,E3.out,hchk]
  simp
 have hcs:chk.size=2:=by rw[hchk];rfl
 have q1:¬9223372036854775807<5+n.size:=by omega
 have q2:¬9223372036854775807<5+n.size+v.size:=by omega
 clear hchk hc1 hc2 E1 E2 E3 HL
 go_wp2_with fail
 go_ret
 exact⟨by rw[<-HF.out];rfl,B2.out⟩
section
abbrev str (l:Str):Value:=.string ⟨l.toArray⟩
def Rg (w:World)(B t N:Nat)(v:Nat->Value):Prop:=∃cs:Array Value,w.heap[B]? = some (.cells cs t (0,0))/\∀i,i<N->cs[i]? = some (v i)
section
variable {w w':World}{B t N:Nat}{v v':Nat->Value}
theorem Rg.lt (h:Rg w B t N v):B<w.heap.size:=by obtain⟨_,hh,_⟩:=h;exact heap_lt hh
theorem Rg.cell (h:Rg w B t N v){i:Nat}(hi:i<N):w.cell? ⟨B,i,none⟩=some (v i):=by
 obtain⟨cs,hh,h2⟩:=h
 rw[cell_of_row _ _ _ _ _ _ hh,h2 i hi]
theorem Rg.frozen (h:Rg w B t N v)(i:Nat):w.frozen? ⟨B,i,none⟩=false:=by
 obtain⟨cs,hh,_⟩:=h
 simp[World.frozen?,hh]
theorem Rg.congr (h:Rg w B t N v)(e:∀i,i<N->v i=v' i):Rg w B t N v':=by
 obtain⟨cs,hh,h2⟩:=h
 exact⟨cs,hh,λi hi=>by rw[h2 i hi,e i hi]⟩
theorem Rg.set (h:Rg w B t N v){i:Nat}(hi:i<N)(u:Value):Rg (w.setCell ⟨B,i,none⟩ u) B t N (upd v i u):=by
 obtain⟨cs,hh,h2⟩:=h
 refine⟨_,heap_set hh u,λj hj=>?_⟩
 by_cases e:j=i
 ·subst e
  rw[upd_hit,set_hit (Array.getElem?_eq_some_iff.1 (h2 j hj)).1]
 ·rw[upd_miss _ _ e,set_miss (Ne.symm e)]
  exact h2 j hj
theorem Rg.ch {C:Nat->Prop}(h:Rg w B t N v)(k:Ch C w w')(hB:¬C B):Rg w' B t N v:=by
 have hl:=h.lt
 obtain⟨cs,hh,h2⟩:=h
 exact⟨cs,(k.block B hl hB).trans hh,h2⟩
theorem Rg.far (h:Rg w B t N v){p:Addr}(hp:p.block≠B)(u:Value):Rg (w.setCell p u) B t N v:=
 h.ch ((Ch.refl (λk=>k=p.block) w).setCell (λ_=>rfl) u) (λe=>hp e.symm)
theorem Rg.ty {t' N':Nat}{v':Nat->Value}{B':Nat}(h:Rg w B t N v)(h':Rg w B' t' N' v')(ht:t≠t'):B≠B':=λe=>by
 obtain⟨cs,hh,_⟩:=h
 obtain⟨cs',hh',_⟩:=h'
 rw[e,hh'] at hh
 injection hh with hh
 injection hh with _ h2 _
 exact ht h2.symm
end
structure FL where
 B:Nat
 P:Nat
 E:Nat
 pg:Nat->Nat->Str
 er:Nat->Nat
 off:Bool
 cut:Bool
 left:Int
 torn:Nat
structure FLay where
 gb:Nat
 cb:Nat
 g:Nat->Nat
 cp:Nat->Nat
def flc (fl:FL)(y:FLay)(j:Nat):Value:=if j=0 then .int .i64 fl.B else if j=1 then .int .i64 fl.P else if j=2 then .int .i64 fl.E else if j=3 then .slice (some ⟨y.gb,0,none⟩) fl.B y.cb else if j=4 then .bool fl.off else if j=5 then .bool fl.cut else if j=6 then .int .i64 fl.left else .int .u64 fl.torn
def blc (fl:FL)(y:FLay)(j:Nat):Value:=if j%2=0 then .slice (some ⟨y.g (j/2),0,none⟩) fl.P (y.cp (j/2)) else .int .i64 (fl.er (j/2))
def pgc (fl:FL)(b p:Nat):Value:=str (fl.pg b p)
structure FW (w:World)(D:Nat->Prop)(X:Nat)(y:FLay)(fl:FL):Prop where
 top:Rg w X 135 8 (flc fl y)
 blk:Rg w y.gb 139 (fl.B*2) (blc fl y)
 pag:∀b,b<fl.B->Rg w (y.g b) 9 fl.P (pgc fl b)
 inj:∀b c,b<fl.B->c<fl.B->y.g b=y.g c->b=c
 dX:D X
 db:D y.gb
 dg:∀b,b<fl.B->D (y.g b)
 cb:fl.B<=y.cb/\y.cb<=maxLen
 cp:∀b,b<fl.B->fl.P<=y.cp b/\y.cp b<=maxLen
 hB:1<=fl.B/\fl.B<=32
 hP:1<=fl.P/\fl.P<=32
 hE:fl.E<=1048576
 her:∀b,b<fl.B->fl.er b<=fl.E
 hl:-9223372036854775808<=fl.left/\fl.left<=9223372036854775807
 ht:fl.torn<=18446744073709551615
 len:∀b p,b<fl.B->p<fl.P->(fl.pg b p).length=64
 fin:∀k,D k->k<w.heap.size
section
variable {w w':World}{D:Nat->Prop}{X:Nat}{y:FLay}{fl:FL}
theorem FW.ch {C:Nat->Prop}(h:FW w D X y fl)(c:Ch C w w')(hC:∀k,D k->¬C k):FW w' D X y fl:=
 { h with top:=h.top.ch c (hC _ h.dX),blk:=h.blk.ch c (hC _ h.db),pag:=λb hb=>(h.pag b hb).ch c (hC _ (h.dg b hb)),fin:=λk hk=>Nat.lt_of_lt_of_le (h.fin k hk) c.size }
theorem FW.below (h:FW w D X y fl)(c:Below w.heap.size w w'):FW w' D X y fl:=h.ch (Ch.of_below c (λ_=>False)) (λ_ _ h=>h)
theorem FW.drew (h:FW w D X y fl):FW w.drew D X y fl:=h.below ((Below.refl _ _).drew)
theorem FW.Xb (h:FW w D X y fl):X≠y.gb:=h.top.ty h.blk (by decide)
theorem FW.Xg (h:FW w D X y fl){b:Nat}(hb:b<fl.B):X≠y.g b:=h.top.ty (h.pag b hb) (by decide)
theorem FW.bg (h:FW w D X y fl){b:Nat}(hb:b<fl.B):y.gb≠y.g b:=h.blk.ty (h.pag b hb) (by decide)
theorem FW.fld (h:FW w D X y fl){fl':FL}{j:Nat}{u:Value}(hj:j<8)(e:∀k,k<8->upd (flc fl y) j u k=flc fl' y k)(eB:fl'.B=fl.B)(eP:fl'.P=fl.P)(eE:fl'.E=fl.E)(ep:fl'.pg=fl.pg)(ee:fl'.er=fl.er)
  (hl:-9223372036854775808<=fl'.left/\fl'.left<=9223372036854775807) (ht:fl'.torn<=18446744073709551615):FW (w.setCell ⟨X,j,none⟩ u) D X y fl':=by
 refine⟨(h.top.set hj u).congr e,?_,λb hb=>?_,λb c hb hc=>?_,h.dX,h.db,λb hb=>h.dg b (by omega),by rw[eB];exact h.cb,λb hb=>by rw[eP];exact h.cp b (by omega),by rw[eB];exact h.hB,by rw[eP];exact h.hP,by rw[eE];exact h.hE,λb hb=>by rw[ee,eE];exact h.her b (by omega),hl,ht,λb p hb hp=>by rw[ep];exact h.len b p (by omega) (by omega),λk hk=>by simpa[World.setCell] using h.fin k hk⟩
 ·rw[eB]
  exact(h.blk.far (p:=⟨X,j,none⟩) h.Xb u).congr (λi _=>by unfold blc;rw[eP,ee])
 ·rw[eP]
  exact((h.pag b (by omega)).far (p:=⟨X,j,none⟩) (h.Xg (by omega)) u).congr (λi _=>by unfold pgc;rw[ep])
 ·exact h.inj b c (by omega) (by omega)
theorem FW.setOff (h:FW w D X y fl)(a:Bool):FW (w.setCell ⟨X,4,none⟩ (.bool a)) D X y { fl with off:=a }:=
 h.fld (by omega) (λk hk=>by rcases(by omega:k=0\/k=1\/k=2\/k=3\/k=4\/k=5\/k=6\/k=7) with rfl|rfl|rfl|rfl|rfl|rfl|rfl|rfl<;>rfl) rfl rfl rfl rfl rfl h.hl h.ht
theorem FW.setCut (h:FW w D X y fl)(a:Bool):FW (w.setCell ⟨X,5,none⟩ (.bool a)) D X y { fl with cut:=a }:=
 h.fld (by omega) (λk hk=>by rcases(by omega:k=0\/k=1\/k=2\/k=3\/k=4\/k=5\/k=6\/k=7) with rfl|rfl|rfl|rfl|rfl|rfl|rfl|rfl<;>rfl) rfl rfl rfl rfl rfl h.hl h.ht
theorem FW.setLeft (h:FW w D X y fl)(a:Int)(ha:-9223372036854775808<=a/\a<=9223372036854775807):FW (w.setCell ⟨X,6,none⟩ (.int .i64 a)) D X y { fl with left:=a }:=
 h.fld (by omega) (λk hk=>by rcases(by omega:k=0\/k=1\/k=2\/k=3\/k=4\/k=5\/k=6\/k=7) with rfl|rfl|rfl|rfl|rfl|rfl|rfl|rfl<;>rfl) rfl rfl rfl rfl rfl ha h.ht
def up2 (f:Nat->Nat->Str)(b p:Nat)(s:Str):Nat->Nat->Str:=λc q=>if c=b/\q=p then s else f c q
def FL.put (fl:FL)(b p:Nat)(s:Str):FL:={ fl with pg:=up2 fl.pg b p s }
theorem FW.setPg (h:FW w D X y fl){b p:Nat}(hb:b<fl.B)(hp:p<fl.P){s:Str}(hs:s.length=64):FW (w.setCell ⟨y.g b,p,none⟩ (str s)) D X y (fl.put b p s):=by
 refine⟨(h.top.far (p:=⟨y.g b,p,none⟩) (Ne.symm (h.Xg hb)) _),(h.blk.far (p:=⟨y.g b,p,none⟩) (Ne.symm (h.bg hb)) _),λc hc=>?_,h.inj,h.dX,h.db,h.dg,h.cb,h.cp,h.hB,h.hP,h.hE,h.her,h.hl,h.ht,λc q hc hq=>?_,λk hk=>by simpa[World.setCell] using h.fin k hk⟩
 ·by_cases e:c=b
  ·subst e
   refine((h.pag c hc).set hp _).congr λq hq=>?_
   by_cases e2:q=p
   ·subst e2;rw[upd_hit];simp[pgc,FL.put,up2]
   ·rw[upd_miss _ _ e2];simp[pgc,FL.put,up2,e2]
  ·exact((h.pag c hc).far (p:=⟨y.g b,p,none⟩) (λe2=>e (h.inj c b hc hb e2.symm)) _).congr λq _=>by simp[pgc,FL.put,up2,e]
 ·show(up2 fl.pg b p s c q).length=64
  unfold up2
  split
  ·exact hs
  ·exact h.len c q hc hq
def FL.erd (fl:FL)(b v:Nat):FL:={ fl with er:=λc=>if c=b then v else fl.er c }
theorem FW.setEr (h:FW w D X y fl){b v:Nat}(hb:b<fl.B)(hv:v<=fl.E):FW (w.setCell ⟨y.gb,b*2+1,none⟩ (.int .i64 v)) D X y (fl.erd b v):=by
 refine⟨(h.top.far (p:=⟨y.gb,b*2+1,none⟩) (Ne.symm h.Xb) _),(h.blk.set (i:=b*2+1) (by omega) _).congr λk hk=>?_,λc hc=>(h.pag c hc).far (p:=⟨y.gb,b*2+1,none⟩) (h.bg hc) _,h.inj,h.dX,h.db,h.dg,h.cb,h.cp,h.hB,h.hP,h.hE,λc hc=>?_,h.hl,h.ht,h.len,λk hk=>by simpa[World.setCell] using h.fin k hk⟩
 ·by_cases e:k=b*2+1
  ·subst e
   rw[upd_hit]
   have e1:(b*2+1)%2=1:=by omega
   have e2:(b*2+1)/2=b:=by omega
   simp[blc,FL.erd,e1,e2]
  ·rw[upd_miss _ _ e]
   unfold blc
   by_cases e2:k%2=0
   ·rw[if_pos e2,if_pos e2];rfl
   ·rw[if_neg e2,if_neg e2]
    have:k/2≠b:=by omega
    simp[FL.erd,this]
 ·show(if c=b then v else fl.er c)<=fl.E
  split
  ·exact hv
  ·exact h.her c hc
/- What a walk reads. -/
theorem FW.c0 (h:FW w D X y fl):w.cell? ⟨X,0,none⟩=some (.int .i64 fl.B):=h.top.cell (i:=0) (by omega)
theorem FW.c1 (h:FW w D X y fl):w.cell? ⟨X,1,none⟩=some (.int .i64 fl.P):=h.top.cell (i:=1) (by omega)
theorem FW.c2 (h:FW w D X y fl):w.cell? ⟨X,2,none⟩=some (.int .i64 fl.E):=h.top.cell (i:=2) (by omega)
theorem FW.c3 (h:FW w D X y fl):w.cell? ⟨X,3,none⟩=some (.slice (some ⟨y.gb,0,none⟩) fl.B y.cb):=h.top.cell (i:=3) (by omega)
theorem FW.c4 (h:FW w D X y fl):w.cell? ⟨X,4,none⟩=some (.bool fl.off):=h.top.cell (i:=4) (by omega)
theorem FW.c5 (h:FW w D X y fl):w.cell? ⟨X,5,none⟩=some (.bool fl.cut):=h.top.cell (i:=5) (by omega)
theorem FW.c6 (h:FW w D X y fl):w.cell? ⟨X,6,none⟩=some (.int .i64 fl.left):=h.top.cell (i:=6) (by omega)
theorem FW.c7 (h:FW w D X y fl):w.cell? ⟨X,7,none⟩=some (.int .u64 fl.torn):=h.top.cell (i:=7) (by omega)
theorem FW.cs (h:FW w D X y fl){b:Nat}(hb:b<fl.B):w.cell? ⟨y.gb,b*2,none⟩=some (.slice (some ⟨y.g b,0,none⟩) fl.P (y.cp b)):=by
 rw[h.blk.cell (i:=b*2) (by omega)]
 have e1:b*2%2=0:=by omega
 have e2:b*2/2=b:=by omega
 simp[blc,e1,e2]
theorem FW.ce (h:FW w D X y fl){b:Nat}(hb:b<fl.B):w.cell? ⟨y.gb,b*2+1,none⟩=some (.int .i64 (fl.er b)):=by
 rw[h.blk.cell (i:=b*2+1) (by omega)]
 have e1:(b*2+1)%2=1:=by omega
 have e2:(b*2+1)/2=b:=by omega
 simp[blc,e1,e2]
theorem FW.cg (h:FW w D X y fl){b p:Nat}(hb:b<fl.B)(hp:p<fl.P):w.cell? ⟨y.g b,p,none⟩=some (str (fl.pg b p)):=(h.pag b hb).cell hp
end
end
section
variable {w:World}{D:Nat->Prop}{X:Nat}{y:FLay}{fl:FL}
abbrev fptr (X:Nat):Value:=.pointer (some ⟨X,0,none⟩)
theorem shape_any (h:FW w D X y fl):Calls Tryz.prog 85 #[fptr X] w λe w'=>e=.returned (.agg #[.int .i64 fl.B,.int .i64 fl.P,.int .i64 fl.E])/\Below w.heap.size w w':=by
 have hb:Below w.heap.size w (w.alloc (.cells #[.int .i64 0,.int .i64 0,.int .i64 0] 76)):=(Below.refl _ _).alloc (Nat.le_refl _) _
 have h1:=h.below hb
 have c0:=h1.c0
 have c1:=h1.c1
 have c2:=h1.c2
 clear h h1 hb
 go_enter Tryz.func85,Tryz.ntmps85
 go_wp2_with fail
 exact bodyPost_ret (v:=.agg #[.int .i64 fl.B,.int .i64 fl.P,.int .i64 fl.E]) (results_cell_row rfl _ _ w.heap.size 76 #[.int .i64 fl.B,.int .i64 fl.P,.int .i64 fl.E] (0,0) _ rfl (heap_alloc_new w _) Tryz.underlying76 rfl (by kernel_rfl)) rfl ⟨rfl,(Below.refl _ _).alloc (Nat.le_refl _) _⟩
theorem isBlock_any (h:FW w D X y fl){b:Nat}(hb:b<fl.B):Calls Tryz.prog 135 #[fptr X,.int .i64 b] w λe w'=>e=.returned (.bool true)/\w=w':=by
 have c0:=h.c0
 have hbI:(b:Int)<fl.B:=by omega
 have hB:=h.hB
 clear h
 go_enter Tryz.func135,Tryz.ntmps135
 go_wp2_with fail
 go_ret
 exact⟨by simp,rfl⟩
theorem isPage_any (h:FW w D X y fl){b p:Nat}(hb:b<fl.B)(hp:p<fl.P):Calls Tryz.prog 158 #[fptr X,.int .i64 b,.int .i64 p] w λe w'=>e=.returned (.bool true)/\w=w':=by
 have c1:=h.c1
 have hpI:(p:Int)<fl.P:=by omega
 have HB:=Hh (isBlock_any h hb)
 have hP:=h.hP
 clear h
 go_enter Tryz.func158,Tryz.ntmps158
 go_wp2_with fail
 refine HB.out.mono ?_
 rintro e w' ⟨rfl,rfl⟩
 go_wp2_with fail
 go_ret
 exact⟨by simp,rfl⟩
theorem erases_any (h:FW w D X y fl){b:Nat}(hb:b<fl.B):Calls Tryz.prog 89 #[fptr X,.int .i64 b] w λe w'=>e=.returned (.int .i64 (fl.er b))/\w=w':=by
 have c3:=h.c3
 have ce:=h.ce hb
 have hcb:=h.cb
 have hB:=h.hB
 have hbI:(b:Int)<fl.B:=by omega
 have HB:=Hh (isBlock_any h hb)
 clear h
 go_enter Tryz.func89,Tryz.ntmps89
 go_wp2_with fail
 refine HB.out.mono ?_
 rintro e w' ⟨rfl,rfl⟩
 go_wp2_with fail
 go_ret
 exact⟨rfl,rfl⟩
def readF (fl:FL)(b p:Nat):Str×Int:=if fl.off=true then ([],16) else (fl.pg b p,0)
theorem read_any (h:FW w D X y fl){b p:Nat}(hb:b<fl.B)(hp:p<fl.P):Calls Tryz.prog 133 #[fptr X,.int .i64 b,.int .i64 p] w λe w'=>e=.returned (.tuple #[str (readF fl b p).1,.int .i64 (readF fl b p).2])/\w=w':=by
 have c3:=h.c3
 have c4:=h.c4
 have cs:=h.cs hb
 have cg:=h.cg hb hp
 have hcb:=h.cb
 have hB:=h.hB
 have hP:=h.hP
 have hcp:=h.cp b hb
 have hbI:(b:Int)<fl.B:=by omega
 have hpI:(p:Int)<fl.P:=by omega
 have HB:=Hh (isPage_any h hb hp)
 unfold readF
 clear h
 cases ho:fl.off
 ·rw[ho] at c4
  go_enter Tryz.func133,Tryz.ntmps133
  go_wp2_with fail
  refine HB.out.mono ?_
  rintro e w' ⟨rfl,rfl⟩
  go_wp2_with fail
  go_ret2
  exact⟨rfl,rfl⟩
 ·rw[ho] at c4
  go_enter Tryz.func133,Tryz.ntmps133
  go_wp2_with fail
  refine HB.out.mono ?_
  rintro e w' ⟨rfl,rfl⟩
  go_wp2_with fail
  go_ret2
  exact⟨rfl,rfl⟩
def loseF (fl:FL):FL:={ fl with off:=true,cut:=false }
theorem lose_any (h:FW w D X y fl):Calls Tryz.prog 160 #[fptr X] w λe w'=>e=.returned (.tuple #[])/\FW w' D X y (loseF fl)/\Ch D w w':=by
 have c4:=h.c4
 have c5:=h.c5
 have f4:=h.top.frozen 4
 have f5:=h.top.frozen 5
 have H:=Hh ((h.setOff true).setCut false)
 have HC:Hid (Ch D w ((w.setCell ⟨X,4,none⟩ (.bool true)).setCell ⟨X,5,none⟩ (.bool false))):=(((Ch.refl D w).setCell (p:=⟨X,4,none⟩) (λ_=>h.dX) _).setCell (p:=⟨X,5,none⟩) (λ_=>h.dX) _)
 clear h
 go_enter Tryz.func160,Tryz.ntmps160
 go_wp2_with fail
 go_end0
 exact⟨rfl,H.out,HC.out⟩
def intF (fl:FL):Bool×FL:=if fl.cut=false then (false,fl) else if 0<fl.left then (false,{ fl with left:=fl.left-1 }) else (true,loseF fl)
theorem interrupted_any (h:FW w D X y fl):Calls Tryz.prog 136 #[fptr X] w λe w'=>e=.returned (.bool (intF fl).1)/\FW w' D X y (intF fl).2/\Ch D w w':=by
 have c5:=h.c5
 have c6:=h.c6
 have f6:=h.top.frozen 6
 cases hc:fl.cut
 ·rw[hc] at c5
  have e:intF fl=(false,fl):=by unfold intF;rw[hc];rfl
  rw[e]
  have H:=Hh h
  clear h hc
  go_enter Tryz.func136,Tryz.ntmps136
  go_wp2_with fail
  go_ret
  exact⟨rfl,H.out,Ch.refl _ _⟩
 ·rw[hc] at c5
  have hll:=h.hl
  by_cases hl:0<fl.left
  ·have e:intF fl=(false,{ fl with left:=fl.left-1 }):=by unfold intF;rw[hc,if_neg (by simp),if_pos hl]
   rw[e]
   have H2:=Hh (h.setLeft (fl.left-1) (by omega))
   have HC:Hid (Ch D w (w.setCell ⟨X,6,none⟩ (.int .i64 (fl.left-1)))):=(Ch.refl D w).setCell (p:=⟨X,6,none⟩) (λ_=>h.dX) _
   have hd:decide (fl.left > 0)=true:=by simpa using hl
   clear h hc e
   generalize fl.left=lf at *
   go_enter Tryz.func136,Tryz.ntmps136
   go_wp2_with fail
   go_ret
   exact⟨rfl,H2.out,HC.out⟩
  ·have hd:decide (fl.left > 0)=false:=by simpa using hl
   have e:intF fl=(true,loseF fl):=by unfold intF;rw[hc,if_neg (by simp),if_neg hl]
   rw[e]
   have HL:=Hh (lose_any h)
   clear h hc e
   generalize fl.left=lf at *
   go_enter Tryz.func136,Tryz.ntmps136
   go_wp2_with fail
   refine HL.out.mono ?_
   rintro e w1 ⟨rfl,h1,h2⟩
   have H1:=Hh h1
   have H2:=Hh h2
   clear h1 h2
   go_wp2_with fail
   go_ret
   exact⟨rfl,H1.out,H2.out⟩
theorem selected_any (t i:Nat)(w:World)(hi:i<64):Calls Tryz.prog 137 #[.int .u64 t,.int .i64 i] w λe w'=>e=.returned (.int .u8 ((t/2^(8*(i%8))%256:Nat):Int))/\w=w':=by
 go_enter Tryz.func137,Tryz.ntmps137
 go_wp2_with fail
 go_ret
 exact⟨rfl,rfl⟩
end
section
theorem bv8 (a:UInt8):BitVec.ofInt 8 (a.toNat:Int)=a.toBitVec:=by
 rw[BitVec.ofInt_natCast]
 apply BitVec.eq_of_toNat_eq
 rw[BitVec.toNat_ofNat]
 exact Nat.mod_eq_of_lt a.toNat_lt
theorem wrap8 (a:UInt8):IntKind.u8.wrap (a.toNat:Int)=(a.toNat:Int):=by
 have:=a.toNat_lt
 simp[IntKind.wrap_u8]
 omega
theorem b_andNot (a b:UInt8):bits .andNot .u8 (a.toNat:Int) (b.toNat:Int)=((a &&& ~~~b).toNat:Int):=by
 show IntKind.u8.wrap ((BitVec.ofInt 8 (a.toNat:Int) &&& ~~~BitVec.ofInt 8 (b.toNat:Int)).toNat:Int)=_
 rw[bv8,bv8]
 exact wrap8 (a &&& ~~~b)
theorem b_and (a b:UInt8):bits .and .u8 (a.toNat:Int) (b.toNat:Int)=((a &&& b).toNat:Int):=by
 show IntKind.u8.wrap ((BitVec.ofInt 8 (a.toNat:Int) &&& BitVec.ofInt 8 (b.toNat:Int)).toNat:Int)=_
 rw[bv8,bv8]
 exact wrap8 (a &&& b)
theorem b_or (a b:UInt8):bits .or .u8 (a.toNat:Int) (b.toNat:Int)=((a ||| b).toNat:Int):=by
 show IntKind.u8.wrap ((BitVec.ofInt 8 (a.toNat:Int) ||| BitVec.ofInt 8 (b.toNat:Int)).toNat:Int)=_
 rw[bv8,bv8]
 exact wrap8 (a ||| b)
def Bt (w:World)(g n:Nat)(l:Str):Prop:=∃(cur:Array Value) (fr:Nat×Nat),w.heap[g]? = some (.cells cur 5 fr)/\l.length=n/\(∀i,i<n->cur[i]? = some (.int .u8 ((l.getD i 0).toNat:Int)))/\∀i,i<n->¬(fr.1<=i/\i<fr.2)
section
variable {w w':World}{g n:Nat}{l:Str}
theorem Bt.lt (h:Bt w g n l):g<w.heap.size:=by obtain⟨_,_,hh,_⟩:=h;exact heap_lt hh
theorem Bt.cell (h:Bt w g n l){i:Nat}(hi:i<n):w.cell? ⟨g,i,none⟩=some (.int .u8 ((l.getD i 0).toNat:Int)):=by
 obtain⟨cur,fr,hh,_,h2,_⟩:=h
 rw[cell_of_row _ _ _ _ _ _ hh,h2 i hi]
theorem Bt.frozen (h:Bt w g n l){i:Nat}(hi:i<n):w.frozen? ⟨g,i,none⟩=false:=by
 obtain⟨cur,fr,hh,_,_,h3⟩:=h
 have h4:=h3 i hi
 simp[World.frozen?,hh]
 omega
theorem Bt.ch {C:Nat->Prop}(h:Bt w g n l)(k:Ch C w w')(hg:¬C g):Bt w' g n l:=by
 have hl:=h.lt
 obtain⟨cur,fr,hh,r⟩:=h
 exact⟨cur,fr,(k.block g hl hg).trans hh,r⟩
theorem Bt.set (h:Bt w g n l){i:Nat}(hi:i<n)(u:UInt8):Bt (w.setCell ⟨g,i,none⟩ (.int .u8 (u.toNat:Int))) g n (l.set i u):=by
 obtain⟨cur,fr,hh,h1,h2,h3⟩:=h
 refine⟨cur.setIfInBounds i (.int .u8 (u.toNat:Int)),fr,?_,by rw[List.length_set];exact h1,λj hj=>?_,h3⟩
 ·simp[World.setCell,Array.getElem?_modify,hh]
 ·by_cases e:j=i
  ·subst e
   rw[set_hit (Array.getElem?_eq_some_iff.1 (h2 j hj)).1,List.getD_eq_getElem?_getD,List.getElem?_set_self (by omega)]
   rfl
  ·rw[set_miss (Ne.symm e),h2 j hj,List.getD_eq_getElem?_getD,List.getD_eq_getElem?_getD,List.getElem?_set_ne (Ne.symm e)]
theorem Bt.str (h:Bt w g n l)(cap:Nat):(convert 99 9 (.slice (some ⟨g,0,none⟩) n cap)).run Tryz.prog w=.ok (.string ⟨l.toArray⟩) w:=by
 obtain⟨cur,fr,hh,h1,h2,h3⟩:=h
 have:=run_convert_bytes_back (P:=Tryz.prog) w 99 9 5 ⟨g,0,none⟩ cap l Tryz.underlying99 Tryz.underlying5 Tryz.underlying9 (λj hj=>by
  rw[Addr.add_mid,cell_of_row _ _ _ _ _ _ hh,Nat.zero_add,h2 j (by omega),List.getD_eq_getElem?_getD,List.getElem?_eq_getElem hj]
  rfl)
 rw[h1] at this
 exact this
end
theorem conv_bytes (w:World)(s:ByteArray)(hs:s.size<=100000):∃cap W,(convert 9 99 (.string s)).run Tryz.prog w=.ok (.slice (some ⟨w.heap.size,0,none⟩) s.size cap) W/\s.size<=cap/\cap<=maxLen/\Bt W w.heap.size s.size s.data.toList/\Below w.heap.size w W:=by
 have hg1:=grownCap_ge w s.size 0 5
 have hg2:=grownCap_le_maxLen w s.size 0 5 (by unfold maxLen;omega)
 refine⟨_,_,run_bytes_of_string (P:=Tryz.prog) w 9 99 5 s Tryz.underlying9 Tryz.underlying99 Tryz.underlying5,hg1,hg2,⟨_,_,heap_alloc_new w.drew _,Array.length_toList,λi hi=>?_,λi hi=>?_⟩,((Below.refl _ _).drew).alloc (Nat.le_refl _) _⟩
 ·generalize grownCap w s.size 0 5=cap at *
  have h0:i<s.data.size:=hi
  unfold bytesRow
  rw[Array.getElem?_append_left (by simpa using h0),Array.getElem?_map,Array.getElem?_eq_getElem h0,List.getD_eq_getElem?_getD,List.getElem?_eq_getElem (by simpa using h0)]
  simp
 ·generalize grownCap w s.size 0 5=cap at *
  have:(bytesRow s cap).size=cap:=by
   simp[bytesRow]
   have:s.data.size=s.size:=rfl
   omega
  simp only[this]
  omega
end
section
def fits1 (o d:UInt8):Bool:=d &&& ~~~o==0
def fitsB (old s:Str):Bool:=(List.zipWith fits1 old s).all id
def selB (t i:Nat):UInt8:=UInt8.ofNat (t/2^(8*(i%8))%256)
def torn1 (t i:Nat)(o d:UInt8):UInt8:=o &&& ~~~((o &&& ~~~d) &&& selB t i)
def tornP (t:Nat)(old s:Str):Str:=(List.range old.length).map λi=>torn1 t i (old.getD i 0) (s.getD i 0)
def progF (fl:FL)(b p:Nat)(s:Str):Int×FL:=
 if fl.off=true then (16,fl) else if fitsB (fl.pg b p) s=false then (9,fl)
 else if (intF fl).1=false then (0,(intF fl).2.put b p s) else (16,(intF fl).2.put b p (tornP fl.torn (fl.pg b p) s))
theorem intF_same (fl:FL):(intF fl).2.B=fl.B/\(intF fl).2.P=fl.P/\(intF fl).2.E=fl.E/\(intF fl).2.pg=fl.pg/\(intF fl).2.er=fl.er/\(intF fl).2.torn=fl.torn:=by
 unfold intF
 split
 ·exact⟨rfl,rfl,rfl,rfl,rfl,rfl⟩
 ·split<;>exact⟨rfl,rfl,rfl,rfl,rfl,rfl⟩
theorem str_of {s:ByteArray}{l:Str}(h:s.data.toList=l):Value.string s=str l:=by
 rw[<-h]
section
variable {w:World}{D:Nat->Prop}{X:Nat}{y:FLay}{fl:FL}
theorem program_any (h:FW w D X y fl){b p:Nat}(hb:b<fl.B)(hp:p<fl.P){d:ByteArray}(hd:d.size=64) :
  Calls Tryz.prog 139 #[fptr X,.int .i64 b,.int .i64 p,.string d] w λe w'=>e=.returned (.int .i64 (progF fl b p d.data.toList).1)/\FW w' D X y (progF fl b p d.data.toList).2/\Ch D w w':=by
 have c3:=h.c3
 have c4:=h.c4
 have cs:=h.cs hb
 have cg:=h.cg hb hp
 have hcb:=h.cb
 have hB:=h.hB
 have hP:=h.hP
 have hcp:=h.cp b hb
 have hbI:(b:Int)<fl.B:=by omega
 have hpI:(p:Int)<fl.P:=by omega
 have HB:=Hh (isPage_any h hb hp)
 have H:=Hh h
 have hlen:=h.len b p hb hp
 obtain⟨old,hold⟩:∃old:ByteArray,old=⟨(fl.pg b p).toArray⟩:=⟨_,rfl⟩
 have hol:old.data.toList=fl.pg b p:=by rw[hold]
 have hos:old.size=64:=by rw[hold];simpa[ByteArray.size] using hlen
 have HOL:=Hh hol
 rw[show str (fl.pg b p)=.string old by rw[hold]] at cg
 clear h hold hol hlen
 cases ho:fl.off
 ·rw[ho] at c4
  go_enter Tryz.func139,Tryz.ntmps139
  go_wp2_with fail
  refine HB.out.mono ?_
  rintro e w' ⟨rfl,rfl⟩
  go_wp2_with fail
  have HC:Hid (Ch D w w):=Ch.refl _ _
  go_loopw [40] (λz wr=>∃i:Nat,i<=64/\z=.int .i64 (i:Int)/\Hid (∀j,j<i->fits1 (old.data.toList.getD j 0) (d.data.toList.getD j 0)=true)/\Hid (FW wr D X y fl)/\Hid (Ch D w wr)) (λz _=>64-(intOf z).toNat)
  case atStart=>exact⟨0,by omega,rfl,λj hj=>by omega,H,HC⟩
  case round=>
   clear cs cg c3 c4 H HC HB
   obtain⟨i,hi,rfl,HJ,H,HC⟩:=hrel
   by_cases hi6:i<64
   ·have y0:(i:Int)<64:=by omega
    have hdl:d.data.toList.getD i 0=d[i]:=by
     rw[List.getD_eq_getElem?_getD,List.getElem?_eq_getElem (by rw[Array.length_toList];exact(by omega:i<d.size))];rfl
    have hol:old.data.toList.getD i 0=old[i]:=by
     rw[List.getD_eq_getElem?_getD,List.getElem?_eq_getElem (by rw[Array.length_toList];exact(by omega:i<old.size))];rfl
    by_cases hf:fits1 (old.data.toList.getD i 0) (d.data.toList.getD i 0)=true
    ·have ha:bits .andNot .u8 (d[i].toNat:Int) (old[i].toNat:Int)=0:=by
      rw[b_andNot]
      rw[hdl,hol] at hf
      unfold fits1 at hf
      rw[beq_iff_eq] at hf
      rw[hf];rfl
     have HJ2:Hid (∀j,j<i+1->fits1 (old.data.toList.getD j 0) (d.data.toList.getD j 0)=true):=λj hj=>by
      rcases(by omega:j<i\/j=i) with h1|h1
      ·exact HJ.out j h1
      ·rw[h1];exact hf
     have H2:Hid (FW wr.drew D X y fl):=H.out.drew
     have HC2:Hid (Ch D w wr.drew):=HC.out.drew
     clear hdl hol hf HJ H HC
     go_wp2_with fail
     refine wp_region_pl (λ_=>True) ((0,0)::(1,0)::(2,0)::(3,0)::(4,0)::(5,0)::(6,0)::(7,0)::[]) (by kernel_rfl) (by kernel_rfl) ?_
     iterate 8 (apply wpP_go;rfl;rfl;exact trivial;(rintro Z _;go_simp;exact rfl);intro K hK;go_simp;refine hK _ ?_;clear hK K)
     refine wpP_done ?_
     clear ha
     generalize wr.drew=V at *
     go_wp2_with fail
     go_roundw
     case rel=>exact⟨i+1,by omega,by go_num,HJ2,H2,HC2⟩
     case measure=>simp[intOf];omega
    ·obtain⟨x,ha,hx⟩:∃x:Int,bits .andNot .u8 (d[i].toNat:Int) (old[i].toNat:Int)=x/\x≠0:=by
      refine⟨_,rfl,?_⟩
      rw[b_andNot]
      rw[hdl,hol] at hf
      unfold fits1 at hf
      rw[beq_iff_eq] at hf
      intro h0
      apply hf
      apply UInt8.toNat_inj.1
      simpa using h0
     have HS:Hid (progF fl b p d.data.toList=(9,fl)):=by
      show _=_
      unfold progF
      rw[if_neg (by rw[ho];simp),if_pos]
      unfold fitsB
      rw[<-HOL.out]
      rw[List.all_eq_false]
      refine⟨fits1 (old.data.toList.getD i 0) (d.data.toList.getD i 0),?_,by simpa using hf⟩
      have h1:i<old.data.toList.length:=by rw[Array.length_toList];exact(by omega:i<old.size)
      have h2:i<d.data.toList.length:=by rw[Array.length_toList];exact(by omega:i<d.size)
      rw[List.getD_eq_getElem?_getD,List.getD_eq_getElem?_getD,List.getElem?_eq_getElem h1,List.getElem?_eq_getElem h2]
      have h3:i<(List.zipWith fits1 old.data.toList d.data.toList).length:=by rw[List.length_zipWith];omega
      have:=List.getElem_mem h3
      rw[List.getElem_zipWith] at this
      exact this
     have H2:Hid (FW wr.drew D X y fl):=H.out.drew
     have HC2:Hid (Ch D w wr.drew):=HC.out.drew
     clear hdl hol hf HJ H HC
     go_wp2_with fail
     refine wp_region_pl (λ_=>True) ((0,0)::(1,0)::(2,0)::(3,0)::(4,0)::(5,0)::(6,0)::(7,0)::[]) (by kernel_rfl) (by kernel_rfl) ?_
     iterate 8 (apply wpP_go;rfl;rfl;exact trivial;(rintro Z _;go_simp;exact rfl);intro K hK;go_simp;refine hK _ ?_;clear hK K)
     refine wpP_done ?_
     clear ha
     generalize wr.drew=V at *
     go_wp2_with fail
     go_ret
     rw[HS.out]
     exact⟨rfl,H2.out,HC2.out⟩
   ·have y0:¬(i:Int)<64:=by omega
    have hfit:fitsB (fl.pg b p) d.data.toList=true:=by
     unfold fitsB
     rw[List.all_eq_true]
     intro x hx
     obtain⟨j,hj,rfl⟩:=List.getElem_of_mem hx
     rw[List.length_zipWith] at hj
     rw[List.getElem_zipWith]
     have e1:(fl.pg b p).length=64:=by rw[<-HOL.out,Array.length_toList];exact hos
     have:=HJ.out j (by omega)
     rw[HOL.out,List.getD_eq_getElem?_getD,List.getD_eq_getElem?_getD,List.getElem?_eq_getElem (by omega),List.getElem?_eq_getElem (by omega)] at this
     exact this
    have HPF:Hid (progF fl b p d.data.toList=if (intF fl).1=false then (0,(intF fl).2.put b p d.data.toList) else (16,(intF fl).2.put b p (tornP fl.torn (fl.pg b p) d.data.toList))):=by
     show _=_
     unfold progF
     rw[if_neg (by rw[ho];simp),if_neg (by rw[hfit];simp)]
    have HI:=Hh (interrupted_any H.out)
    obtain⟨sB,sP,sE,sp,se,st⟩:=intF_same fl
    have SB:=Hh sB
    have SP:=Hh sP
    have Spg:=Hh sp
    have ST:=Hh st
    obtain⟨f2,hf2⟩:∃f2,(intF fl).2=f2:=⟨_,rfl⟩
    rw[hf2] at HI HPF SB SP Spg ST
    have hdl:d.data.toList.length=64:=by rw[Array.length_toList];exact hd
    clear hf2 sB sP sE sp se st HJ
    rcases hin:(intF fl).1 with _|_
    ·rw[hin] at HI
     rw[hin,if_pos rfl] at HPF
     go_wp2_with fail
     refine HI.out.mono ?_
     rintro e w2 ⟨rfl,h2,k2⟩
     have hb2:b<f2.B:=by rw[SB.out];exact hb
     have hp2:p<f2.P:=by rw[SP.out];exact hp
     have c3:=h2.c3
     have cs:=h2.cs hb2
     have cg:=h2.cg hb2 hp2
     have fg:=(h2.pag b hb2).frozen p
     have hcb2:=h2.cb
     have hcp2:=h2.cp b hb2
     have hbI2:(b:Int)<f2.B:=by omega
     have hpI2:(p:Int)<f2.P:=by omega
     have HS:=Hh (h2.setPg hb2 hp2 hdl)
     have HK:Hid (Ch D w (w2.setCell ⟨y.g b,p,none⟩ (.string d))):=(HC.out.trans k2).setCell (p:=⟨y.g b,p,none⟩) (λ_=>h2.dg b hb2) _
     clear h2 k2
     go_wp2_with fail
     go_ret
     rw[HPF.out]
     exact⟨rfl,HS.out,HK.out⟩
    ·rw[hin] at HI
     rw[hin,if_neg (by simp)] at HPF
     go_wp2_with fail
     refine HI.out.mono ?_
     rintro e w2 ⟨rfl,h2,k2⟩
     obtain⟨cap,w3,hcv,hc1,hc2,hbt,hbel⟩:=conv_bytes w2 old (by omega)
     rw[hos] at hcv hc1 hbt
     have hDg:Hid (¬D w2.heap.size):=λhk=>by have:=h2.fin _ hk;omega
     have H3:=Hh (h2.below hbel)
     have K3:Hid (Ch D w w3):=(HC.out.trans k2).trans (Ch.of_below hbel _)
     have hgW:w.heap.size<=w2.heap.size:=by have:=k2.size;have:=HC.out.size;omega
     have hg3:w2.heap.size<w3.heap.size:=hbt.lt
     have HBT0:Hid (∃c:Str,Bt w3 w2.heap.size 64 c/\∀j,j<64->c.getD j 0=if j<0 then torn1 fl.torn j (old.data.toList.getD j 0) (d.data.toList.getD j 0) else old.data.toList.getD j 0):=⟨_,hbt,λj hj=>by rw[if_neg (by omega)]⟩
     obtain⟨g,hg⟩:∃g,w2.heap.size=g:=⟨_,rfl⟩
     rw[hg] at hcv HBT0 hgW hDg hg3
     clear h2 k2 hbt hbel
     go_wp2_with fail
     clear hcv hg
     go_loopw [70] (λz wr=>∃i:Nat,i<=64/\z=.int .i64 (i:Int)/\Hid (∃c:Str,Bt wr g 64 c/\∀j,j<64->c.getD j 0=if j<i then torn1 fl.torn j (old.data.toList.getD j 0) (d.data.toList.getD j 0) else old.data.toList.getD j 0)/\Hid (FW wr D X y f2)/\Hid (Ch D w wr)) (λz _=>64-(intOf z).toNat)
     case atStart=>exact⟨0,by omega,rfl,HBT0,H3,K3⟩
     case round=>
      clear H3 K3 HBT0
      obtain⟨i,hi,rfl,HBT,H3,K3⟩:=hrel
      by_cases hi7:i<64
      ·have z0:(i:Int)<64:=by omega
       obtain⟨c,hbt,hcj⟩:=HBT.out
       have hoi:old.data.toList.getD i 0=old[i]'(by omega):=by
        rw[List.getD_eq_getElem?_getD,List.getElem?_eq_getElem (by rw[Array.length_toList];exact(by omega:i<old.size))];rfl
       have hdi:d.data.toList.getD i 0=d[i]'(by omega):=by
        rw[List.getD_eq_getElem?_getD,List.getElem?_eq_getElem (by rw[Array.length_toList];exact(by omega:i<d.size))];rfl
       have hci:c.getD i 0=old[i]'(by omega):=by rw[hcj i hi7,if_neg (by omega),hoi]
       have cb:=hbt.cell hi7
       have fb:=hbt.frozen hi7
       rw[hci] at cb
       have c7:=H3.out.c7
       rw[ST.out] at c7
       obtain⟨ss,hss⟩:∃ss:UInt8,ss=selB fl.torn i:=⟨_,rfl⟩
       obtain⟨a1,ha1⟩:∃a:UInt8,a=(old[i]'(by omega)) &&& ~~~(d[i]'(by omega)):=⟨_,rfl⟩
       obtain⟨a2,ha2⟩:∃a:UInt8,a=a1 &&& ss:=⟨_,rfl⟩
       obtain⟨a3,ha3⟩:∃a:UInt8,a=(old[i]'(by omega)) &&& ~~~a2:=⟨_,rfl⟩
       have ht1:torn1 fl.torn i (old[i]'(by omega)) (d[i]'(by omega))=a3:=by rw[ha3,ha2,ha1,hss];rfl
       have e1:bits .andNot .u8 ((old[i]'(by omega)).toNat:Int) ((d[i]'(by omega)).toNat:Int)=(a1.toNat:Int):=by rw[ha1];exact b_andNot _ _
       have e2:bits .and .u8 (a1.toNat:Int) (ss.toNat:Int)=(a2.toNat:Int):=by rw[ha2];exact b_and _ _
       have e3:bits .andNot .u8 ((old[i]'(by omega)).toNat:Int) (a2.toNat:Int)=(a3.toNat:Int):=by rw[ha3];exact b_andNot _ _
       have HNX:Hid (∃c:Str,Bt (wr.setCell ⟨g,i,none⟩ (.int .u8 (a3.toNat:Int))).drew g 64 c/\∀j,j<64->c.getD j 0=if j<i+1 then torn1 fl.torn j (old.data.toList.getD j 0) (d.data.toList.getD j 0) else old.data.toList.getD j 0):=by
        refine⟨_,(hbt.ch (w':=wr.drew) ((Ch.refl (λ_=>False) wr).drew) id).set hi7 _,λj hj=>?_⟩
        have hcl:c.length=64:=by obtain⟨_,_,_,h1,_⟩:=hbt;exact h1
        by_cases e:j=i
        ·subst e
         rw[if_pos (by omega),List.getD_eq_getElem?_getD,List.getElem?_set_self (by omega),hoi,hdi]
         exact ht1.symm
        ·rw[List.getD_eq_getElem?_getD,List.getElem?_set_ne (Ne.symm e),<-List.getD_eq_getElem?_getD,hcj j hj]
         by_cases e2:j<i
         ·rw[if_pos e2,if_pos (by omega)]
         ·rw[if_neg e2,if_neg (by omega)]
       have H3n:Hid (FW (wr.setCell ⟨g,i,none⟩ (.int .u8 (a3.toNat:Int))).drew D X y f2):=
        H3.out.ch (((Ch.refl (λk=>k=g) wr).drew).setCell (p:=⟨g,i,none⟩) (λ_=>rfl) _) (λk hk e=>hDg.out (by rw[<-e];exact hk))
       have K3n:Hid (Ch D w (wr.setCell ⟨g,i,none⟩ (.int .u8 (a3.toNat:Int))).drew):=
        (K3.out.drew).setCell (p:=⟨g,i,none⟩) (λh=>by have:g<w.heap.size:=h;omega) _
       have HSEL:Hid (∀Y:World,Calls Tryz.prog 137 #[.int .u64 (fl.torn:Int),.int .i64 (i:Int)] Y λe w'=>e=.returned (.int .u8 (ss.toNat:Int))/\Y=w'):=λ Y=>by
        have:=selected_any fl.torn i Y hi7
        have e:((fl.torn/2^(8*(i%8))%256:Nat):Int)=(ss.toNat:Int):=by
         rw[hss]
         unfold selB
         rw[u8_of (by omega)]
        rw[e] at this
        exact this
       have S0:Hid (wr.drew.cell? ⟨X,7,none⟩=some (.int .u64 (fl.torn:Int))/\wr.drew.cell? ⟨g,i,none⟩=some (.int .u8 ((old[i]'(by omega)).toNat:Int))):=⟨c7,cb⟩
       have cb':wr.drew.cell? ⟨g,i,none⟩=some (.int .u8 ((old[i]'(by omega)).toNat:Int)):=cb
       have fb':wr.drew.frozen? ⟨g,i,none⟩=false:=fb
       clear hbt hcj hci hoi hdi cb fb c7 ht1 HBT H3 K3 ha1 ha2 ha3 hss
       go_wp2_with fail
       refine wp_region_pl (λ Y=>Y.cell? ⟨X,7,none⟩=some (.int .u64 (fl.torn:Int))/\Y.cell? ⟨g,i,none⟩=some (.int .u8 ((old[i]'(by omega)).toNat:Int))) ((0,0)::(1,0)::(2,0)::(3,0)::(4,0)::(5,0)::(6,0)::(7,0)::(8,0)::(9,0)::(10,0)::(11,0)::(12,0)::(13,0)::(14,0)::(15,0)::(16,0)::(17,0)::(18,0)::(19,0)::(20,2)::[]) (by kernel_rfl) (by kernel_rfl) ?_
       iterate 16 (apply wpP_go;rfl;rfl;exact S0.out;(rintro Z ⟨s0,s1⟩;go_simp;exact rfl);intro K hK;go_simp;refine hK _ ?_;clear hK K)
       apply wpP_call
       rfl
       rfl
       exact S0.out
       focus (rintro Z ⟨s0,s1⟩;go_simp;exact⟨rfl,rfl⟩)
       focus (intro Z _;exact HSEL.out Z)
       intro K hK
       go_simp
       refine hK _ ?_
       clear hK K
       iterate 3 (apply wpP_go;rfl;rfl;exact S0.out;(rintro Z ⟨s0,s1⟩;go_simp;exact rfl);intro K hK;go_simp;refine hK _ ?_;clear hK K)
       apply wpP_two
       rfl
       intro K hK
       go_simp
       refine hK _ _ ?_
       clear hK K
       refine wpP_done ?_
       clear S0 cb' fb' e1 e2 e3 HSEL
       generalize (wr.setCell ⟨g,i,none⟩ (.int .u8 (a3.toNat:Int))).drew=V at *
       go_wp2_with fail
       go_roundw
       case rel=>exact⟨i+1,by omega,by go_num,HNX,H3n,K3n⟩
       case measure=>simp[intOf];omega
      ·have z0:¬(i:Int)<64:=by omega
       obtain⟨c,hbt,hcj⟩:=HBT.out
       have hcl:c.length=64:=by obtain⟨_,_,_,h1,_⟩:=hbt;exact h1
       have hce:c=tornP fl.torn (fl.pg b p) d.data.toList:=by
        have hol:(fl.pg b p).length=64:=by rw[<-HOL.out,Array.length_toList];exact hos
        apply List.ext_getElem
        ·rw[tornP,List.length_map,List.length_range,hol,hcl]
        ·intro j h1 h2
         have hj:j<64:=by omega
         have:=hcj j hj
         rw[if_pos (by omega),HOL.out,List.getD_eq_getElem?_getD,List.getElem?_eq_getElem h1] at this
         simp only[Option.getD_some] at this
         rw[this]
         have h3:(tornP fl.torn (fl.pg b p) d.data.toList)[j]? = some (torn1 fl.torn j ((fl.pg b p).getD j 0) (d.data.toList.getD j 0)):=by
          unfold tornP
          rw[List.getElem?_map,List.getElem?_range (by omega)]
          rfl
         rw[List.getElem?_eq_getElem h2] at h3
         exact(Option.some.inj h3).symm
       subst hce
       have hb2:b<f2.B:=by rw[SB.out];exact hb
       have hp2:p<f2.P:=by rw[SP.out];exact hp
       have hcs:=hbt.str (w:=wr.drew) cap
       obtain⟨new,hnew⟩:∃new:ByteArray,new=⟨(tornP fl.torn (fl.pg b p) d.data.toList).toArray⟩:=⟨_,rfl⟩
       rw[<-hnew] at hcs
       have h3:=H3.out.drew
       have c3:=h3.c3
       have cs:=h3.cs hb2
       have cg:=h3.cg hb2 hp2
       have fg:=(h3.pag b hb2).frozen p
       have hcb2:=h3.cb
       have hcp2:=h3.cp b hb2
       have hbI2:(b:Int)<f2.B:=by omega
       have hpI2:(p:Int)<f2.P:=by omega
       have HS:Hid (FW (wr.setCell ⟨y.g b,p,none⟩ (.string new)).drew D X y (f2.put b p (tornP fl.torn (fl.pg b p) d.data.toList))):=by
        have:=h3.setPg hb2 hp2 hcl
        rw[hnew]
        exact this
       have HK:Hid (Ch D w (wr.setCell ⟨y.g b,p,none⟩ (.string new)).drew):=(K3.out.drew).setCell (p:=⟨y.g b,p,none⟩) (λ_=>h3.dg b hb2) _
       have S0:Hid (wr.drew.cell? ⟨X,3,none⟩=some (.slice (some ⟨y.gb,0,none⟩) f2.B y.cb)/\wr.drew.cell? ⟨y.gb,b*2,none⟩=some (.slice (some ⟨y.g b,0,none⟩) f2.P (y.cp b))/\(convert 99 9 (.slice (some ⟨g,0,none⟩) 64 cap)).run Tryz.prog wr.drew=.ok (.string new) wr.drew):=⟨c3,cs,hcs⟩
       clear h3 hbt hcj hnew hcl HBT H3 K3
       have c3':=S0.out.1
       have cs':=S0.out.2.1
       go_wp2_with fail
       refine wp_region_pl (λ Y=>Y.cell? ⟨X,3,none⟩=some (.slice (some ⟨y.gb,0,none⟩) f2.B y.cb)/\Y.cell? ⟨y.gb,b*2,none⟩=some (.slice (some ⟨y.g b,0,none⟩) f2.P (y.cp b))/\(convert 99 9 (.slice (some ⟨g,0,none⟩) 64 cap)).run Tryz.prog Y=.ok (.string new) Y) ((0,0)::(1,0)::(2,0)::(3,0)::(4,0)::(5,0)::(6,0)::(7,0)::(8,0)::(9,0)::(10,0)::(11,0)::(12,2)::[]) (by kernel_rfl) (by kernel_rfl) ?_
       iterate 12 (apply wpP_go;rfl;rfl;exact S0.out;(rintro Z ⟨s0,s1,s2⟩;go_simp;exact rfl);intro K hK;go_simp;refine hK _ ?_;clear hK K)
       apply wpP_two
       rfl
       intro K hK
       go_simp
       refine hK _ _ ?_
       clear hK K
       refine wpP_done ?_
       clear S0 c3 cs cg fg c3' cs' hcs
       generalize (wr.setCell ⟨y.g b,p,none⟩ (.string new)).drew=V at *
       go_wp2_with fail
       go_ret
       rw[HPF.out]
       exact⟨rfl,HS.out,HK.out⟩
 ·rw[ho] at c4
  have HPF:Hid (progF fl b p d.data.toList=(16,fl)):=by
   show _=_
   unfold progF
   rw[if_pos ho]
  go_enter Tryz.func139,Tryz.ntmps139
  go_wp2_with fail
  refine HB.out.mono ?_
  rintro e w' ⟨rfl,rfl⟩
  go_wp2_with fail
  go_ret
  rw[HPF.out]
  exact⟨rfl,H.out,Ch.refl _ _⟩
end
end
end Go.Proofs.YtdinbpdpalgohaaGreatDoor
