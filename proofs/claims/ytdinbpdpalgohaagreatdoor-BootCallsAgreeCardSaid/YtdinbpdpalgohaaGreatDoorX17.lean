/- Walks and laws: DA DB DC DG DH DI DD. Conditions: those that each theorem names. -/
import Derived.Test.YtdinbpdpalgohaaGreatDoorX12
import Derived.Test.YtdinbpdpalgohaaGreatDoorX9
import Derived.Test.YtdinbpdpalgohaaGreatDoorX16
import Derived.Test.YtdinbpdpalgohaaGreatDoorX1
import Derived.Test.YtdinbpdpalgohaaGreatDoorX14
set_option maxHeartbeats 4000000
set_option maxRecDepth 100000
namespace Go.Proofs.YtdinbpdpalgohaaGreatDoor
open Go.RowKit
section
structure QI (w:World)(N:Nat)(O:Nat->Prop)(R:Nat->Nat)(D DS:Nat->Prop)(X:Nat)(y:RLay)(ve vc vl:Value)(M S L n:Nat)(b:BM):Prop where
 f:RW w D X y b.fl
 s:RS w DS S X b.st
 g:Row w L 174 1 (λ_=>ve)
 e:w.ownsRow N 62 34 ve b.es.length (Ms.evs b.es)
 t:Row w M 176 5 (mgv S L vc vl b.last)
 c:RdI w vc b.cand
 l:w.ownsRow N 40 2 vl b.log.length (stv b.log)
 rD:∀k,D k->R k=1
 rS:∀k,DS k->R k=2
 rL:R L=3
 rE:∀k,ve.ownBlock=some k->R k=3
 rM:R M=4
 rl:∀k,vl.ownBlock=some k->R k=4
 rC:∀k,vc.ownBlock=some k->R k=5
 hO:∀k,R k≠0->O k
 oN:∀k,O k->N<=k/\k<w.heap.size
 rnd:Ms.Rnd w
 h0:0<N
 hN:N<=w.heap.size
def QW (w:World)(N:Nat)(O:Nat->Prop)(M S L n:Nat)(b:BM):Prop:=∃R D DS X y ve vc vl,QI w N O R D DS X y ve vc vl M S L n b
def QLeft (w w':World)(N:Nat)(O:Nat->Prop)(M S L n:Nat)(b:BM):Prop:=∃O',(∀k,O' k->O k\/w.heap.size<=k)/\QW w' N O' M S L n b/\Ch O w w'
section
variable {w w':World}{N M S L n:Nat}{O:Nat->Prop}{R:Nat->Nat}{D DS:Nat->Prop}{X:Nat}{y:RLay}{ve vc vl:Value}{b:BM}
theorem QI.ch {C:Nat->Prop}(h:QI w N O R D DS X y ve vc vl M S L n b)(c:Ch C w w')(hC:∀k,C k->R k=0/\0<k):QI w' N O R D DS X y ve vc vl M S L n b:=by
 have hs:0<w.heap.size:=Nat.lt_of_lt_of_le h.h0 h.hN
 have key:∀{k q},R k=q+1->¬C k:=λe hk=>by have:=(hC _ hk).1;omega
 exact { h with
  f:=h.f.ch c (λk hk=>key (h.rD k hk)),s:=h.s.ch c (λk hk=>key (h.rS k hk)),g:=Row.ch h.g c (key h.rL),e:=ownN_ch h.e c (λk hk=>key (h.rE k hk)),
  t:=h.t.ch c (key h.rM),c:=h.c.ch c (λk hk=>key (h.rC k hk)),l:=ownN_ch h.l c (λk hk=>key (h.rl k hk)),
  oN:=λk hk=>⟨(h.oN k hk).1,Nat.lt_of_lt_of_le (h.oN k hk).2 c.size⟩,rnd:=rnd_ch h.rnd c (λe=>by have:=(hC 0 e).2;omega) hs,hN:=Nat.le_trans h.hN c.size }
theorem QW.ch {C:Nat->Prop}(h:QW w N O M S L n b)(c:Ch C w w')(hC:∀k,C k->¬O k/\0<k):QW w' N O M S L n b:=by
 obtain⟨R,D,DS,X,y,ve,vc,vl,h⟩:=h
 exact⟨R,D,DS,X,y,ve,vc,vl,h.ch c (λk hk=>⟨Classical.byContradiction λe=>(hC k hk).1 (h.hO k e),(hC k hk).2⟩)⟩
theorem QW.below (h:QW w N O M S L n b)(c:Below w.heap.size w w'):QW w' N O M S L n b:=h.ch (Ch.of_below c (λ_=>False)) (λ_ h=>h.elim)
theorem QW.drew (h:QW w N O M S L n b):QW w.drew N O M S L n b:=h.below ((Below.refl _ _).drew)
theorem QW.mono (h:QW w N O M S L n b){n':Nat}(_hn:n<=n'):QW w N O M S L n' b:=by
 obtain⟨R,D,DS,X,y,ve,vc,vl,h⟩:=h
 exact⟨R,D,DS,X,y,ve,vc,vl,{ h with s:=h.s }⟩
theorem QW.pos (h:QW w N O M S L n b):0<w.heap.size:=by obtain⟨R,D,DS,X,y,ve,vc,vl,h⟩:=h;exact Nat.lt_of_lt_of_le h.h0 h.hN
theorem QW.N_le (h:QW w N O M S L n b):N<=w.heap.size:=by obtain⟨R,D,DS,X,y,ve,vc,vl,h⟩:=h;exact h.hN
theorem QW.oN (h:QW w N O M S L n b):∀k,O k->N<=k/\k<w.heap.size:=by obtain⟨R,D,DS,X,y,ve,vc,vl,h⟩:=h;exact h.oN
theorem QW.below_of (h:QW w N O M S L n b)(c:Ch O w w'):Below N w w':=c.below h.N_le (λi hi=>(h.oN i hi).1)
theorem QW.M_lt (h:QW w N O M S L n b):M<w.heap.size:=by obtain⟨R,D,DS,X,y,ve,vc,vl,h⟩:=h;exact h.t.lt
theorem QW.OM (h:QW w N O M S L n b):O M:=by obtain⟨R,D,DS,X,y,ve,vc,vl,h⟩:=h;exact h.hO M (by rw[h.rM];omega)
theorem QLeft.same (h:QW w' N O M S L n b)(c:Ch O w w'):QLeft w w' N O M S L n b:=⟨O,λ_ h=>.inl h,h,c⟩
theorem QLeft.andThen {w1:World}{O1:Nat->Prop}(h1:Ch O w w1)(hO:∀k,O1 k->O k\/w.heap.size<=k)(h2:QLeft w1 w' N O1 M S L n b):QLeft w w' N O M S L n b:=by
 obtain⟨O2,q1,q2,q3⟩:=h2
 exact⟨O2,λk hk=>(q1 k hk).elim (hO k) (λe=>.inr (Nat.le_trans h1.size e)),q2,h1.andThen q3 (λi hi hl=>(hO i hi).elim id (λe=>by omega))⟩
theorem QLeft.after {w1:World}(h1:Below w.heap.size w w1)(h2:QLeft w1 w' N O M S L n b):QLeft w w' N O M S L n b:=h2.andThen (Ch.of_below h1 O) (λ_ h=>.inl h)
theorem QI.c0 (h:QI w N O R D DS X y ve vc vl M S L n b):w.cell? ⟨M,0,none⟩=some (fptr S):=h.t.cell (i:=0) (by omega)
theorem QI.c1 (h:QI w N O R D DS X y ve vc vl M S L n b):w.cell? ⟨M,1,none⟩=some (fptr L):=h.t.cell (i:=1) (by omega)
theorem QI.c2 (h:QI w N O R D DS X y ve vc vl M S L n b):w.cell? ⟨M,2,none⟩=some vc:=h.t.cell (i:=2) (by omega)
theorem QI.c3 (h:QI w N O R D DS X y ve vc vl M S L n b):w.cell? ⟨M,3,none⟩=some vl:=h.t.cell (i:=3) (by omega)
theorem QI.c4 (h:QI w N O R D DS X y ve vc vl M S L n b):w.cell? ⟨M,4,none⟩=some (.int .i64 b.last):=h.t.cell (i:=4) (by omega)
theorem QW.c0 (h:QW w N O M S L n b):w.cell? ⟨M,0,none⟩=some (fptr S):=by obtain⟨R,D,DS,X,y,ve,vc,vl,h⟩:=h;exact h.c0
theorem QW.c1 (h:QW w N O M S L n b):w.cell? ⟨M,1,none⟩=some (fptr L):=by obtain⟨R,D,DS,X,y,ve,vc,vl,h⟩:=h;exact h.c1
theorem QW.c2 (h:QW w N O M S L n b):∃vc,w.cell? ⟨M,2,none⟩=some vc/\RdI w vc b.cand/\∀k,vc.ownBlock=some k->O k:=by
 obtain⟨R,D,DS,X,y,ve,vc,vl,h⟩:=h;exact⟨vc,h.c2,h.c,λk hk=>h.hO k (by rw[h.rC k hk];omega)⟩
theorem QW.c3 (h:QW w N O M S L n b):∃vl,w.cell? ⟨M,3,none⟩=some vl/\w.ownsRow N 40 2 vl b.log.length (stv b.log)/\∀k,vl.ownBlock=some k->O k/\k≠M:=by
 obtain⟨R,D,DS,X,y,ve,vc,vl,h⟩:=h
 refine⟨vl,h.c3,h.l,λk hk=>⟨h.hO k (by rw[h.rl k hk];omega),λe=>?_⟩⟩
 obtain⟨hg,_⟩:=ownN_rg h.l hk
 obtain⟨cs,hh,_⟩:=hg
 obtain⟨cs',hh',_⟩:=h.t
 rw[e,hh'] at hh
 injection hh with hh
 injection hh with _ h2 _
 exact absurd h2 (by decide)
theorem QW.c4 (h:QW w N O M S L n b):w.cell? ⟨M,4,none⟩=some (.int .i64 b.last):=by obtain⟨R,D,DS,X,y,ve,vc,vl,h⟩:=h;exact h.c4
theorem QW.frz (h:QW w N O M S L n b)(i:Nat):w.frozen? ⟨M,i,none⟩=false:=by obtain⟨R,D,DS,X,y,ve,vc,vl,h⟩:=h;exact h.t.frozen i
theorem QI.fld {R':Nat->Nat}{O':Nat->Prop}(h:QI w N O R D DS X y ve vc vl M S L n b){j:Nat}{u:Value}{vc' vl':Value}{b':BM}(hj:j<5)(e:∀i,i<5->upd (mgv S L vc vl b.last) j u i=mgv S L vc' vl' b'.last i)
  (e1:b'.fl=b.fl) (e2:b'.st=b.st) (e3:b'.es=b.es) (hR:∀k,R k≠0->R' k=R k) (hR':∀k,R' k≠0->O' k) (hO':∀k,O' k->N<=k/\k<w.heap.size)
  (hc:RdI w vc' b'.cand) (hl:w.ownsRow N 40 2 vl' b'.log.length (stv b'.log)) (rc:∀k,vc'.ownBlock=some k->R' k=5) (rl:∀k,vl'.ownBlock=some k->R' k=4/\k≠M) :
  QI (w.setCell ⟨M,j,none⟩ u) N O' R' D DS X y ve vc' vl' M S L n b':=by
 have c:Ch (λk=>k=M) w (w.setCell ⟨M,j,none⟩ u):=(Ch.refl (λk=>k=M) w).setCell (p:=⟨M,j,none⟩) (λ_=>rfl) u
 have kp:∀{k q},R k=q->q≠0->R' k=q:=λh1 h2=>(hR _ (by rw[h1];exact h2)).trans h1
 have hs:0<w.heap.size:=Nat.lt_of_lt_of_le h.h0 h.hN
 have hM:=h.oN M (h.hO M (by rw[h.rM];omega))
 have h0:=h.h0
 exact {
  f:=by rw[e1];exact h.f.ch c (λk hk q=>by have:=h.rD k hk;rw[q,h.rM] at this;cases this)
  s:=by rw[e2];exact h.s.ch c (λk hk q=>by have:=h.rS k hk;rw[q,h.rM] at this;cases this)
  g:=Row.ch h.g c (λq=>by have:=h.rL;rw[q,h.rM] at this;cases this)
  e:=by rw[e3];exact ownN_ch h.e c (λk hk q=>by have:=h.rE k hk;rw[q,h.rM] at this;cases this)
  t:=(h.t.set hj u).congr e
  c:=hc.ch c (λk hk q=>by have:=rc k hk;rw[q,kp h.rM (by omega)] at this;cases this)
  l:=ownN_ch hl c (λk hk q=>(rl k hk).2 q)
  rD:=λk hk=>kp (h.rD k hk) (by omega)
  rS:=λk hk=>kp (h.rS k hk) (by omega)
  rL:=kp h.rL (by omega)
  rE:=λk hk=>kp (h.rE k hk) (by omega)
  rM:=kp h.rM (by omega)
  rl:=λk hk=>(rl k hk).1
  rC:=rc
  hO:=hR'
  oN:=λk hk=>⟨(hO' k hk).1,Nat.lt_of_lt_of_le (hO' k hk).2 c.size⟩
  rnd:=rnd_ch h.rnd c (λq=>by omega) hs
  h0:=h.h0
  hN:=Nat.le_trans h.hN c.size }
theorem QI.vlM (h:QI w N O R D DS X y ve vc vl M S L n b):∀k,vl.ownBlock=some k->k≠M:=λk hk e=>by
 obtain⟨hg,_⟩:=ownN_rg h.l hk
 obtain⟨cs,hh,_⟩:=hg
 obtain⟨cs',hh',_⟩:=h.t
 rw[e,hh'] at hh
 injection hh with hh
 injection hh with _ h2 _
 exact absurd h2 (by decide)
theorem QW.setLast (h:QW w N O M S L n b)(x:Int):QW (w.setCell ⟨M,4,none⟩ (.int .i64 x)) N O M S L n { b with last:=x }:=by
 obtain⟨R,D,DS,X,y,ve,vc,vl,h⟩:=h
 exact⟨R,D,DS,X,y,ve,vc,vl,h.fld (b':={ b with last:=x }) (by omega) (mgv_4 _ _ _ _ _ _) rfl rfl rfl (λ_ _=>rfl) h.hO h.oN h.c h.l h.rC (λk hk=>⟨h.rl k hk,h.vlM k hk⟩)⟩
theorem QW.setCand (h:QW w N O M S L n b){u:Value}{l':List Int}(hu:RdI w u l')(ho:∀vc,w.cell? ⟨M,2,none⟩=some vc->∀g,u.ownBlock=some g->vc.ownBlock=some g):QW (w.setCell ⟨M,2,none⟩ u) N O M S L n { b with cand:=l' }:=by
 obtain⟨R,D,DS,X,y,ve,vc,vl,h⟩:=h
 exact⟨R,D,DS,X,y,ve,u,vl,h.fld (b':={ b with cand:=l' }) (by omega) (mgv_2 _ _ _ _ _ _) rfl rfl rfl (λ_ _=>rfl) h.hO h.oN hu h.l (λk hk=>h.rC k (ho vc h.c2 k hk)) (λk hk=>⟨h.rl k hk,h.vlM k hk⟩)⟩
theorem QW.takeLog (h:QW w N O M S L n b){u:Value}{l':List (Int×Int)}(hu:w.ownsRow N 40 2 u l'.length (stv l'))(ho:∀g,u.ownBlock=some g->(∃vl,w.cell? ⟨M,3,none⟩=some vl/\vl.ownBlock=some g)\/¬O g):QW (w.setCell ⟨M,3,none⟩ u) N (λk=>O k\/u.ownBlock=some k) M S L n { b with log:=l' }:=by
 obtain⟨R,D,DS,X,y,ve,vc,vl,h⟩:=h
 have hR0:∀g,u.ownBlock=some g->R g=0\/R g=4:=λg hg=>by
  rcases ho g hg with ⟨vl',h1,h2⟩|h1
  ·rw[h.c3] at h1
   injection h1 with h1
   subst h1
   exact .inr (h.rl g h2)
  ·exact .inl (Classical.byContradiction λe=>h1 (h.hO g e))
 have hM:∀g,u.ownBlock=some g->g≠M:=λg hg e=>by
  obtain⟨hg,_⟩:=ownN_rg hu hg
  obtain⟨cs,hh,_⟩:=hg
  obtain⟨cs',hh',_⟩:=h.t
  rw[e,hh'] at hh
  injection hh with hh
  injection hh with _ h2 _
  exact absurd h2 (by decide)
 refine⟨λk=>if u.ownBlock=some k then 4 else R k,D,DS,X,y,ve,vc,u,h.fld (b':={ b with log:=l' }) (by omega) (mgv_3 _ _ _ _ _ _) rfl rfl rfl ?_ ?_ ?_ h.c hu ?_ (λk hk=>⟨if_pos hk,hM k hk⟩)⟩
 ·intro k hk
  show(if u.ownBlock=some k then 4 else R k)=R k
  split
  ·rename_i e
   rcases hR0 k e with q|q
   ·exact absurd q hk
   ·exact q.symm
  ·rfl
 ·intro k hk
  by_cases e:u.ownBlock=some k
  ·exact .inr e
  ·have hk:(if u.ownBlock=some k then 4 else R k)≠0:=hk
   rw[if_neg e] at hk;exact .inl (h.hO k hk)
 ·rintro k (hk|hk)
  ·exact h.oN k hk
  ·obtain⟨hg,hb⟩:=ownN_rg hu hk
   exact⟨hb,hg.lt⟩
 ·intro k hk
  show(if u.ownBlock=some k then 4 else R k)=5
  rw[if_neg (λe=>by rcases hR0 k e with q|q<;>(rw[h.rC k hk] at q;cases q))]
  exact h.rC k hk
theorem QW.get (h:QW w N O M S L n b)(k:ByteArray):Calls Tryz.prog 109 #[fptr S,.string k] w λe w'=>e=.returned (.tuple #[str (getS b.st.V k.data.toList).1,.int .i64 (getS b.st.V k.data.toList).2])/\w=w':=by
 obtain⟨R,D,DS,X,y,ve,vc,vl,h⟩:=h
 exact rget_any h.s k
theorem QI.left {r:Int×FL×ST}(h:QI w N O R D DS X y ve vc vl M S L n b)(hl:RLeft w w' D DS (λi=>w.heap.size<=i) S X y r):QLeft w w' N O M S L (n+1) { b with fl:=r.2.1,st:=r.2.2 }:=by
 obtain⟨k1,k2,D',k3,k4⟩:=hl
 have hs:0<w.heap.size:=Nat.lt_of_lt_of_le h.h0 h.hN
 have h0:=h.h0
 have hN:=h.hN
 have cO:Ch O w w':=k2.mono λi hi _=>h.hO i (hi.elim (λe=>by rw[h.rD i e];omega) (λe=>by rw[h.rS i e];omega))
 have nd:∀{k q},R k=q->2<q->¬(D k\/DS k):=λe1 e2 e=>e.elim (λe=>by have:=h.rD _ e;omega) (λe=>by have:=h.rS _ e;omega)
 have lt:∀k,R k≠0->k<w.heap.size:=λk e=>(h.oN k (h.hO k e)).2
 have kp:∀{k q},R k=q->q≠0->(if k<w.heap.size then R k else if k<w'.heap.size then 2 else 0)=q:=λ {k q} e1 e2=>by rw[if_pos (lt k (by omega)),e1]
 refine⟨λk=>O k\/(w.heap.size<=k/\k<w'.heap.size),λk hk=>hk.imp id (λe=>e.1),⟨λk=>if k<w.heap.size then R k else if k<w'.heap.size then 2 else 0,D,D',X,y,ve,vc,vl,?_⟩,cO⟩
 exact {
  f:=k1
  s:=k4
  g:=Row.ch h.g k2 (nd h.rL (by omega))
  e:=ownN_ch h.e k2 (λk hk=>nd (h.rE k hk) (by omega))
  t:=h.t.ch k2 (nd h.rM (by omega))
  c:=h.c.ch k2 (λk hk=>nd (h.rC k hk) (by omega))
  l:=ownN_ch h.l k2 (λk hk=>nd (h.rl k hk) (by omega))
  rD:=λk hk=>kp (h.rD k hk) (by omega)
  rS:=λk hk=>by
   rcases k3 k hk with e|e
   ·exact kp (h.rS k e) (by omega)
   ·show(if k<w.heap.size then R k else if k<w'.heap.size then 2 else 0)=2
    rw[if_neg (by omega),if_pos (k4.fin k hk)]
  rL:=kp h.rL (by omega)
  rE:=λk hk=>kp (h.rE k hk) (by omega)
  rM:=kp h.rM (by omega)
  rl:=λk hk=>kp (h.rl k hk) (by omega)
  rC:=λk hk=>kp (h.rC k hk) (by omega)
  hO:=λk hk=>by
   have hk:(if k<w.heap.size then R k else if k<w'.heap.size then 2 else 0)≠0:=hk
   by_cases e:k<w.heap.size
   ·rw[if_pos e] at hk;exact .inl (h.hO k hk)
   ·rw[if_neg e] at hk
    by_cases e2:k<w'.heap.size
    ·exact .inr ⟨by omega,e2⟩
    ·rw[if_neg e2] at hk;exact absurd rfl hk
  oN:=λk hk=>hk.elim (λe=>⟨(h.oN k e).1,Nat.lt_of_lt_of_le (h.oN k e).2 k2.size⟩) (λe=>⟨by omega,e.2⟩)
  rnd:=rnd_ch h.rnd cO (λq=>by have:=(h.oN 0 q).1;omega) hs
  h0:=h0
  hN:=Nat.le_trans hN k2.size }
theorem QW.set (h:QW w N O M S L n b)(hb:b.st.blk<b.fl.B){ke va:ByteArray}(hke:ke.size<=1000000)(hva:va.size<=1000000) :
  Calls Tryz.prog 44 #[fptr S,.string ke,.string va] w λe w'=>e=.returned (.int .i64 (setF b.fl b.st ke.data.toList va.data.toList).1)/\QLeft w w' N O M S L (n+1) { b with fl:=(setF b.fl b.st ke.data.toList va.data.toList).2.1,st:=(setF b.fl b.st ke.data.toList va.data.toList).2.2 }:=by
 obtain⟨R,D,DS,X,y,ve,vc,vl,h⟩:=h
 refine(rset_any h.s h.f (λk e1 e2=>by have:=h.rD k e1;have:=h.rS k e2;omega) hb hke hva).mono ?_
 rintro e w' ⟨he,hl⟩
 exact⟨he,h.left hl⟩
theorem QW.del (h:QW w N O M S L n b)(hb:b.st.blk<b.fl.B){ke:ByteArray}(hke:ke.size<=1000000) :
  Calls Tryz.prog 124 #[fptr S,.string ke] w λe w'=>e=.returned (.int .i64 (delF b.fl b.st ke.data.toList).1)/\QLeft w w' N O M S L (n+1) { b with fl:=(delF b.fl b.st ke.data.toList).2.1,st:=(delF b.fl b.st ke.data.toList).2.2 }:=by
 obtain⟨R,D,DS,X,y,ve,vc,vl,h⟩:=h
 refine(rdel_any h.s h.f (λk e1 e2=>by have:=h.rD k e1;have:=h.rS k e2;omega) hb hke).mono ?_
 rintro e w' ⟨he,hl⟩
 exact⟨he,h.left hl⟩
theorem QW.measure (h:QW w N O M S L n b)(r:Nat)(t s:ByteArray)(hr:r<8)(ht:t.size<=64)(hes:b.es.length<256)(hs:s.size<=1073741824) :
  Calls Tryz.prog 126 #[fptr L,.int .i64 (r:Int),.string t,.string s] w λe w'=>e=.returned (.int .i64 0)/\QLeft w w' N O M S L n { b with es:=b.es++[⟨r,Ms.sumD s.data.toList,t⟩] }:=by
 obtain⟨R,D,DS,X,y,ve,vc,vl,h⟩:=h
 have hNL:N<=L:=(h.oN L (h.hO L (by rw[h.rL];omega))).1
 refine(Ms.rmeasure_okF N L r b.es t s w hr ht hes hs ve hNL h.g h.e).mono ?_
 rintro e w' ⟨he,⟨_,v',g1,e1,o1⟩,k2⟩
 refine⟨he,?_⟩
 have hs:0<w.heap.size:=Nat.lt_of_lt_of_le h.h0 h.hN
 have h0:=h.h0
 have hN:=h.hN
 have f3:∀k,Ms.FP L ve k->R k=3:=λk hk=>hk.elim (λe=>by rw[e];exact h.rL) (h.rE k)
 have cO:Ch O w w':=k2.mono λi hi _=>h.hO i (by rw[f3 i hi];omega)
 have nd:∀{k q},R k=q->q≠3->¬Ms.FP L ve k:=λe1 e2 e=>by have:=f3 _ e;omega
 have lt:∀k,R k≠0->k<w.heap.size:=λk e=>(h.oN k (h.hO k e)).2
 have kp:∀{k q},R k=q->q≠0->(if k<w.heap.size then R k else if k<w'.heap.size then 3 else 0)=q:=λ {k q} e1 e2=>by rw[if_pos (lt k (by omega)),e1]
 refine⟨λk=>O k\/(w.heap.size<=k/\k<w'.heap.size),λk hk=>hk.imp id (λe=>e.1),⟨λk=>if k<w.heap.size then R k else if k<w'.heap.size then 3 else 0,D,DS,X,y,v',vc,vl,?_⟩,cO⟩
 exact {
  f:=h.f.ch k2 (λk hk=>nd (h.rD k hk) (by omega))
  s:=h.s.ch k2 (λk hk=>nd (h.rS k hk) (by omega))
  g:=g1
  e:=e1
  t:=h.t.ch k2 (nd h.rM (by omega))
  c:=h.c.ch k2 (λk hk=>nd (h.rC k hk) (by omega))
  l:=ownN_ch h.l k2 (λk hk=>nd (h.rl k hk) (by omega))
  rD:=λk hk=>kp (h.rD k hk) (by omega)
  rS:=λk hk=>kp (h.rS k hk) (by omega)
  rL:=kp h.rL (by omega)
  rE:=λk hk=>by
   rcases o1 k hk with e|e
   ·exact kp (h.rE k e) (by omega)
   ·show(if k<w.heap.size then R k else if k<w'.heap.size then 3 else 0)=3
    rw[if_neg (by omega),if_pos (ownN_rg e1 hk).1.lt]
  rM:=kp h.rM (by omega)
  rl:=λk hk=>kp (h.rl k hk) (by omega)
  rC:=λk hk=>kp (h.rC k hk) (by omega)
  hO:=λk hk=>by
   have hk:(if k<w.heap.size then R k else if k<w'.heap.size then 3 else 0)≠0:=hk
   by_cases e:k<w.heap.size
   ·rw[if_pos e] at hk;exact .inl (h.hO k hk)
   ·rw[if_neg e] at hk
    by_cases e2:k<w'.heap.size
    ·exact .inr ⟨by omega,e2⟩
    ·rw[if_neg e2] at hk;exact absurd rfl hk
  oN:=λk hk=>hk.elim (λe=>⟨(h.oN k e).1,Nat.lt_of_lt_of_le (h.oN k e).2 k2.size⟩) (λe=>⟨by omega,e.2⟩)
  rnd:=rnd_ch h.rnd cO (λq=>by have:=(h.oN 0 q).1;omega) hs
  h0:=h0
  hN:=Nat.le_trans hN k2.size }
theorem QW.log (h:QW w N O M S L n b):Ms.RLOG w N L b.es:=by
 obtain⟨R,D,DS,X,y,ve,vc,vl,h⟩:=h
 exact⟨(h.oN L (h.hO L (by rw[h.rL];omega))).1,ve,h.g,h.e⟩
end
section
variable {w w':World}{N M S L n:Nat}{O:Nat->Prop}{b:BM}
def QMR (w:World)(N:Nat)(O:Nat->Prop)(M S L n:Nat)(r:Int×BM)(e:Ending)(w':World):Prop:=e=.returned (.int .i64 r.1)/\QLeft w w' N O M S L n r.2
theorem QW.setB (h:QW w N O M S L n b)(hb:b.st.blk<b.fl.B){ke va:ByteArray}(hke:ke.size<=1000000)(hva:va.size<=1000000){k v:Str}(ek:ke.data.toList=k)(ev:va.data.toList=v) :
  Calls Tryz.prog 44 #[fptr S,.string ke,.string va] w (QMR w N O M S L (n+1) (setB b k v)):=by
 subst ek ev;exact h.set hb hke hva
theorem QW.delB (h:QW w N O M S L n b)(hb:b.st.blk<b.fl.B){ke:ByteArray}(hke:ke.size<=1000000){k:Str}(ek:ke.data.toList=k) :
  Calls Tryz.prog 124 #[fptr S,.string ke] w (QMR w N O M S L (n+1) (delB b k)):=by
 subst ek;exact h.del hb hke
end
def QF (w:World)(N:Nat)(F:Nat->Prop)(M S L n:Nat)(b:BM):Prop:=∃O,QW w N O M S L n b/\∀k,F k->¬O k/\k<w.heap.size
section
variable {w w':World}{N M S L n:Nat}{F:Nat->Prop}{b b':BM}
theorem QW.hv {O:Nat->Prop}(h:QW w N O M S L n b):∀p∈b.st.V,p.1.length<=24/\p.2.length<=128:=by obtain⟨R,D,DS,X,y,ve,vc,vl,h⟩:=h;exact h.s.hv
theorem QF.less {F':Nat->Prop}(h:QF w N F M S L n b)(hF:∀k,F' k->F k):QF w N F' M S L n b:=by
 obtain⟨O,q1,q2⟩:=h
 exact⟨O,q1,λk hk=>q2 k (hF k hk)⟩
theorem QF.lt (h:QF w N F M S L n b):∀k,F k->k<w.heap.size:=by obtain⟨O,q1,q2⟩:=h;exact λk hk=>(q2 k hk).2
theorem QF.pos (h:QF w N F M S L n b):0<w.heap.size:=by obtain⟨O,q1,q2⟩:=h;exact q1.pos
theorem QF.N_le (h:QF w N F M S L n b):N<=w.heap.size:=by obtain⟨O,q1,q2⟩:=h;exact q1.N_le
structure QL (w w':World)(N:Nat)(F:Nat->Prop)(M S L n:Nat)(b:BM):Prop where
 bf:QF w' N F M S L n b
 ch:Ch (λk=>¬F k) w w'
 bel:Below N w w'
theorem QLeft.bl {O:Nat->Prop}{n':Nat}(h:QLeft w w' N O M S L n b')(h1:QW w N O M S L n' b)(h2:∀k,F k->¬O k/\k<w.heap.size):QL w w' N F M S L n b':=by
 have hb:=h1.below_of (by obtain⟨_,_,_,c⟩:=h;exact c)
 obtain⟨O',q1,q2,q3⟩:=h
 exact⟨⟨O',q2,λk hk=>⟨λhO=>(q1 k hO).elim (h2 k hk).1 (λq=>by have:=(h2 k hk).2;omega),Nat.lt_of_lt_of_le (h2 k hk).2 q3.size⟩⟩,q3.mono (λi hi _ hF=>(h2 i hF).1 hi),hb⟩
def QLR (w:World)(N:Nat)(F:Nat->Prop)(M S L n:Nat)(r:Int×BM)(e:Ending)(w':World):Prop:=e=.returned (.int .i64 r.1)/\QL w w' N F M S L n r.2
theorem QF.lift (h:QF w N F M S L n b){f:FuncId}{args:Array Value}{n':Nat}{r:Int×BM}(c:∀O,QW w N O M S L n b->Calls Tryz.prog f args w (QMR w N O M S L n' r)):Calls Tryz.prog f args w (QLR w N F M S L n' r):=by
 obtain⟨O,q1,q2⟩:=h
 exact(c O q1).mono λe w' h=>⟨h.1,h.2.bl q1 q2⟩
def QLT (w:World)(N:Nat)(F:Nat->Prop)(M S L n:Nat)(r:(Int×Int)×Int×BM)(e:Ending)(w':World):Prop:=e=.returned (.tuple #[.agg #[.int .i64 r.1.1,.int .i64 r.1.2],.int .i64 r.2.1])/\QL w w' N F M S L n r.2.2
end
end
section
attribute [local go_sem ↓] alloc34 load34 store34 build34 build34o
theorem rid_any (i:Int)(w:World):Calls Tryz.prog 120 #[.int .i64 i] w λe w'=>e=.returned (.bool (isId i))/\w=w':=by
 by_cases h:0<=i
 ·have d1:decide (i ≥ 0)=true:=by simpa using h
  by_cases h2:i<16
  ·have d2:decide (i<16)=true:=by simpa using h2
   have e:isId i=true:=isId_iff.2 ⟨h,h2⟩
   rw[e]
   clear e
   go_enter Tryz.func120,Tryz.ntmps120
   go_wp2
   go_ret
   exact⟨rfl,rfl⟩
  ·have d2:decide (i<16)=false:=by simpa using h2
   have e:isId i=false:=by unfold isId;rw[d2];simp
   rw[e]
   clear e
   go_enter Tryz.func120,Tryz.ntmps120
   go_wp2
   go_ret
   exact⟨rfl,rfl⟩
 ·have d1:decide (i ≥ 0)=false:=by simpa using h
  have e:isId i=false:=by unfold isId;rw[show decide (0<=i)=false by simpa using h];rfl
  rw[e]
  clear e
  go_enter Tryz.func120,Tryz.ntmps120
  go_wp2
  go_ret
  exact⟨rfl,rfl⟩
def nmB (k:Nat):ByteArray:=⟨#[69,110,116,114,121]⟩++⟨#[UInt8.ofNat k]⟩
theorem nmB_list (k:Nat):(nmB k).data.toList=nmE k:=rfl
theorem nmB_size (k:Nat):(nmB k).size=6:=rfl
theorem rname_any (k:Nat)(hk:k<16)(w:World):Calls Tryz.prog 121 #[.int .i64 (k:Int)] w λe w'=>e=.returned (.string (nmB k))/\Below w.heap.size w w':=by
 have cv:=one_byte w k (by omega)
 have hB:Hid (Below w.heap.size w (w.alloc (.cells #[.int .u8 (k:Int)] 5))):=(Below.refl _ _).alloc (Nat.le_refl _) _
 have hk0:(0:Int)<=k:=by omega
 have hk1:(k:Int)<=15:=by omega
 go_enter Tryz.func121,Tryz.ntmps121
 go_wp2_with fail
 go_ret
 exact⟨rfl,hB.out⟩
def vlB (d:Str)(a:Bool)(n u:Nat):ByteArray:=⟨d.toArray⟩++⟨#[if a=true then 1 else 0,UInt8.ofNat n,UInt8.ofNat u]⟩
theorem vlB_list (d:Str)(a:Bool)(n u:Nat):(vlB d a n u).data.toList=entS d a n u:=by
 unfold vlB entS
 rw[ByteArray.data_append,Array.toList_append]
theorem vlB_size {d:Str}(hd:d.length=32)(a:Bool)(n u:Nat):(vlB d a n u).size=35:=by
 rw[bsz,vlB_list,entS_len hd]
theorem three_bytes (W:World)(x y z:Nat)(hx:x<=255)(hy:y<=255)(hz:z<=255):(convert 99 9 (.slice (some ⟨W.heap.size,0,none⟩) 3 3)).run Tryz.prog (W.alloc (.cells #[.int .u8 (x:Int),.int .u8 (y:Int),.int .u8 (z:Int)] 5))=.ok (.string ⟨#[UInt8.ofNat x,UInt8.ofNat y,UInt8.ofNat z]⟩) (W.alloc (.cells #[.int .u8 (x:Int),.int .u8 (y:Int),.int .u8 (z:Int)] 5)):=
 conv_new W [UInt8.ofNat x,UInt8.ofNat y,UInt8.ofNat z] #[.int .u8 (x:Int),.int .u8 (y:Int),.int .u8 (z:Int)] 3 rfl (by simp[u8_of hx,u8_of hy,u8_of hz])
theorem conv_at {Y:World}{g o c k:Nat}{l:Str}(h:∀j,j<k->Y.cell? ⟨g,o+j,none⟩=some (.int .u8 ((l.getD j 0).toNat:Int)))(hk:l.length=k):(convert 99 9 (.slice (some ⟨g,o,none⟩) k c)).run Tryz.prog Y=.ok (.string ⟨l.toArray⟩) Y:=by
 have:=run_convert_bytes_back (P:=Tryz.prog) Y 99 9 5 ⟨g,o,none⟩ c l Tryz.underlying99 Tryz.underlying5 Tryz.underlying9 (λj hj=>by
  rw[Addr.add_mid,h j (by omega)]
  simp[hj])
 rw[hk] at this
 exact this
theorem conv_ecl {Y:World}{E t:Nat}{i:Int}{d:Str}{a:Bool}{n:Int}(h:Row Y E t 35 (ecl i d a n))(hd:d.length=32)(c:Nat):(convert 99 9 (.slice (some ⟨E,1,none⟩) 32 c)).run Tryz.prog Y=.ok (.string ⟨d.toArray⟩) Y:=
 conv_at (λj hj=>by rw[h.cell (i:=1+j) (by omega),ecl_mid _ _ _ _ _ hj]) hd
theorem rvalue_any (i:Int){d:Str}(hd:d.length=32)(a:Bool)(n u:Nat)(hn:n<=255)(hu:u<=255)(w:World):Calls Tryz.prog 122 #[entA i d a n,.int .i64 (u:Int)] w λe w'=>e=.returned (.string (vlB d a n u))/\Below w.heap.size w w':=by
 obtain⟨cs,hcs⟩:∃cs,cs=Ms.arr 35 (ecl i d a n):=⟨_,rfl⟩
 have he:entA i d a n=.agg cs:=by rw[hcs];rfl
 rw[he]
 have HR:Hid (Row (w.alloc (.cells cs 34)) w.heap.size 34 35 (ecl i d a n)):=by rw[hcs];exact Row.ofList w _ _ _ 35 rfl
 have HB:Hid (Below w.heap.size w (w.alloc (.cells cs 34))):=(Below.refl _ _).alloc (Nat.le_refl _) _
 clear hcs he
 have hn0:(0:Int)<=n:=by omega
 have hn1:(n:Int)<=255:=by omega
 have hu0:(0:Int)<=u:=by omega
 have hu1:(u:Int)<=255:=by omega
 go_enter Tryz.func122,Tryz.ntmps122
 go_upto_region 1 with fail
 generalize w.alloc (.cells cs 34)=w1 at *
 obtain⟨E,hE⟩:∃E,w.heap.size=E:=⟨_,rfl⟩
 have HE:=Hh hE
 rw[hE] at HR ⊢
 clear hE
 have c33:w1.cell? ⟨E,33,none⟩=some (.bool a):=HR.out.cell (i:=33) (by omega)
 have hwn:IntKind.u8.wrap (n:Int)=(n:Int):=IntWalk.u8_in _ ⟨hn0,hn1⟩
 have hwu:IntKind.u8.wrap (u:Int)=(u:Int):=IntWalk.u8_in _ ⟨hu0,hu1⟩
 go_upto_region 2 with fail
 cases a
 ·go_wp2_with fail
  have S1:Hid (Row w1.drew E 34 35 (ecl i d false n)):=HR.out.drew
  have HB2:Hid (Below E w w1.drew):=by rw[<-HE.out];exact HB.out.drew
  have cv3:=three_bytes w1.drew 0 n u (by omega) hn hu
  clear HR HB c33
  refine wp_region_pl (λ Y=>Row Y E 34 35 (ecl i d false n)) ((0,0)::(1,0)::(2,0)::(3,0)::(4,0)::(5,0)::(6,0)::(7,0)::(8,0)::(9,1)::(10,1)::(11,0)::(12,0)::[]) (by kernel_rfl) (by kernel_rfl) ?_
  generalize w1.drew=w2 at *
  iterate 9 (apply wpP_go;rfl;rfl;exact S1.out;(focus (rintro Y s0;have cv:=conv_ecl s0 hd 32;have c34:Y.cell? ⟨E,34,none⟩=some (.int .i64 (n:Int)):=s0.cell (i:=34) (by omega);go_simp;exact rfl));intro K hK;go_simp;refine hK _ ?_;clear hK K)
  apply wpP_one
  rfl
  intro K hK
  go_simp
  have S2:Hid (Row (w2.alloc (.cells #[.int .u8 0,.int .u8 (n:Int),.int .u8 (u:Int)] 5)) E 34 35 (ecl i d false n)):=S1.out.alloc _
  have HB3:Hid (Below E w (w2.alloc (.cells #[.int .u8 0,.int .u8 (n:Int),.int .u8 (u:Int)] 5))):=HB2.out.alloc (by rw[<-HE.out];exact HB2.out.size) _
  refine hK _ _ S2.out ?_
  clear hK K S1 HB2
  generalize w2.heap.size=G at *
  generalize w2.alloc (.cells #[.int .u8 0,.int .u8 (n:Int),.int .u8 (u:Int)] 5)=w3 at *
  apply wpP_one
  rfl
  intro K hK
  go_simp
  refine hK _ _ S2.out ?_
  clear hK K cv3
  have hsz:¬9223372036854775807<(⟨d.toArray⟩:ByteArray).size+(⟨#[UInt8.ofNat 0,UInt8.ofNat n,UInt8.ofNat u]⟩:ByteArray).size:=by
   have e1:(⟨d.toArray⟩:ByteArray).size=32:=by rw[<-hd];exact List.size_toArray
   have e2:(⟨#[UInt8.ofNat 0,UInt8.ofNat n,UInt8.ofNat u]⟩:ByteArray).size=3:=rfl
   omega
  iterate 2 (apply wpP_go;rfl;rfl;exact S2.out;(rintro Y s0;go_simp;exact rfl);intro K hK;go_simp;refine hK _ ?_;clear hK K)
  refine wpP_done ?_
  go_wp2_with fail
  go_ret
  exact⟨rfl,by rw[HE.out];exact HB3.out⟩
 ·go_wp2_with fail
  have S1:Hid (Row w1.drew E 34 35 (ecl i d true n)):=HR.out.drew
  have HB2:Hid (Below E w w1.drew):=by rw[<-HE.out];exact HB.out.drew
  have cv3:=three_bytes w1.drew 1 n u (by omega) hn hu
  clear HR HB c33
  refine wp_region_pl (λ Y=>Row Y E 34 35 (ecl i d true n)) ((0,0)::(1,0)::(2,0)::(3,0)::(4,0)::(5,0)::(6,0)::(7,0)::(8,0)::(9,1)::(10,1)::(11,0)::(12,0)::[]) (by kernel_rfl) (by kernel_rfl) ?_
  generalize w1.drew=w2 at *
  iterate 9 (apply wpP_go;rfl;rfl;exact S1.out;(focus (rintro Y s0;have cv:=conv_ecl s0 hd 32;have c34:Y.cell? ⟨E,34,none⟩=some (.int .i64 (n:Int)):=s0.cell (i:=34) (by omega);go_simp;exact rfl));intro K hK;go_simp;refine hK _ ?_;clear hK K)
  apply wpP_one
  rfl
  intro K hK
  go_simp
  have S2:Hid (Row (w2.alloc (.cells #[.int .u8 1,.int .u8 (n:Int),.int .u8 (u:Int)] 5)) E 34 35 (ecl i d true n)):=S1.out.alloc _
  have HB3:Hid (Below E w (w2.alloc (.cells #[.int .u8 1,.int .u8 (n:Int),.int .u8 (u:Int)] 5))):=HB2.out.alloc (by rw[<-HE.out];exact HB2.out.size) _
  refine hK _ _ S2.out ?_
  clear hK K S1 HB2
  generalize w2.heap.size=G at *
  generalize w2.alloc (.cells #[.int .u8 1,.int .u8 (n:Int),.int .u8 (u:Int)] 5)=w3 at *
  apply wpP_one
  rfl
  intro K hK
  go_simp
  refine hK _ _ S2.out ?_
  clear hK K cv3
  have hsz:¬9223372036854775807<(⟨d.toArray⟩:ByteArray).size+(⟨#[UInt8.ofNat 1,UInt8.ofNat n,UInt8.ofNat u]⟩:ByteArray).size:=by
   have e1:(⟨d.toArray⟩:ByteArray).size=32:=by rw[<-hd];exact List.size_toArray
   have e2:(⟨#[UInt8.ofNat 1,UInt8.ofNat n,UInt8.ofNat u]⟩:ByteArray).size=3:=rfl
   omega
  iterate 2 (apply wpP_go;rfl;rfl;exact S2.out;(rintro Y s0;go_simp;exact rfl);intro K hK;go_simp;refine hK _ ?_;clear hK K)
  refine wpP_done ?_
  go_wp2_with fail
  go_ret
  exact⟨rfl,by rw[HE.out];exact HB3.out⟩
theorem okO_bad {l:List Int}{i:Nat}(h:okO (l.take i)=false):okO l=false:=by
 cases hq:okO l
 ·rfl
 ·rw[okO_take hq i] at h;cases h
theorem rdistinct_any {v:Value}{l:List Int}{w:World}(h:RdJ w v l)(hl:l.length<=1000):Calls Tryz.prog 123 #[v] w λe w'=>e=.returned (.bool (okO l))/\Below w.heap.size w w':=by
 obtain⟨a,c,rfl,h1,h2,h3⟩:=h
 have HR:Hid (RdJ w (.slice a l.length c) l):=⟨a,c,rfl,h1,h2,h3⟩
 have HB0:Hid (Below w.heap.size w w):=Below.refl _ _
 obtain⟨L,hL⟩:∃L,l.length=L:=⟨_,rfl⟩
 have HLL:=Hh hL
 rw[hL] at HR h1 hl ⊢
 unfold maxLen at h2
 clear hL h3
 go_enter Tryz.func123,Tryz.ntmps123
 go_wp2_with fail
 go_loopw [3] (λz wr=>∃i:Nat,i<=L/\z=.int .i64 (i:Int)/\Hid (okO (l.take i)=true)/\Hid (RdJ wr (.slice a L c) l)/\Hid (Below w.heap.size w wr)) (λz _=>L-(intOf z).toNat)
 case atStart=>exact⟨0,by omega,rfl,(by decide:okO []=true),HR,HB0⟩
 case round=>
  clear HR HB0
  obtain⟨i,hi,rfl,HO,HR,HB⟩:=hrel
  by_cases hlt:i<L
  ·have y0:(i:Int)<L:=by omega
   have hil:i<l.length:=by rw[HLL.out];exact hlt
   obtain⟨g,o,c',e,_,_,hc⟩:=HR.out.cellAt hil
   rw[HLL.out] at e
   injection e with e1 _ e3
   subst e1 e3
   have HS:=Hh (okO_step hil)
   obtain⟨x,hx⟩:∃x,l[i]=x:=⟨_,rfl⟩
   have HX:Hid (l[i]? = some x):=by show _=_;rw[<-hx];exact List.getElem?_eq_getElem hil
   have HID:=Hh (rid_any x wr)
   rw[hx] at HS hc
   clear hx
   by_cases hid:isId x=true
   ·rw[hid] at HID HS
    have HC:=Hh hc
    clear hid
    go_wp2_with fail
    refine HID.out.mono ?_
    rintro e w' ⟨rfl,rfl⟩
    clear HID hc
    go_wp2_with fail
    go_loopw [4] (λz wq=>∃k:Nat,k<=i/\z=.int .i64 (k:Int)/\Hid (x∉l.take k)/\Hid (RdJ wq (.slice (some ⟨g,o,none⟩) L c) l)/\Hid (wq.cell? ⟨g,o+i,none⟩=some (.int .i64 x))/\Hid (Below w.heap.size w wq)) (λz _=>i-(intOf z).toNat)
    case atStart=>exact⟨0,by omega,rfl,(λh=>(by cases h)),HR,HC,HB⟩
    case round=>
     clear HR HC HB
     obtain⟨k,hk,rfl,HN,HR,HC,HB⟩:=hrel
     by_cases hki:k<i
     ·have y1:(k:Int)<i:=by omega
      have y2:(k:Int)<L:=by omega
      have y3:k<L:=by omega
      have hkl:k<l.length:=by omega
      obtain⟨g',o',c',e,_,_,hc'⟩:=HR.out.cellAt hkl
      rw[HLL.out] at e
      injection e with e1 _ e3
      injection e1 with e1
      injection e1 with e1 e2
      subst e1 e2 e3
      have HT:=Hh (List.take_succ_eq_append_getElem hkl)
      have HM:=Hh (List.mem_take_iff_getElem.2 ⟨k,by omega,rfl⟩:l[k]∈l.take i)
      generalize l[k]=y at *
      have S1:Hid (wr.drew.cell? ⟨g,o+i,none⟩=some (.int .i64 x)/\wr.drew.cell? ⟨g,o+k,none⟩=some (.int .i64 y)):=⟨HC.out,hc'⟩
      have HRn:=Hh (HR.out.below ((Below.refl _ wr).drew) (Nat.le_refl _))
      have HCn:Hid (wr.drew.cell? ⟨g,o+i,none⟩=some (.int .i64 x)):=HC.out
      have HBn:Hid (Below w.heap.size w wr.drew):=HB.out.drew
      clear hc' HR HC HB
      by_cases hxy:x=y
      ·subst hxy
       have HF:Hid (okO l=false):=okO_bad (i:=i+1) (by rw[HS.out,decide_eq_true HM.out];simp)
       clear HS HM HT HN
       go_wp2_with fail
       refine wp_region_pl (λ Y=>Y.cell? ⟨g,o+i,none⟩=some (.int .i64 x)/\Y.cell? ⟨g,o+k,none⟩=some (.int .i64 x)) ((0,0)::(1,0)::(2,0)::(3,0)::(4,0)::(5,0)::(6,0)::(7,0)::(8,0)::[]) (by kernel_rfl) (by kernel_rfl) ?_
       iterate 9 (apply wpP_go;rfl;rfl;exact S1.out;(rintro Y ⟨s0,s1⟩;go_simp;exact rfl);intro K hK;go_simp;refine hK _ ?_;clear hK K)
       refine wpP_done ?_
       clear S1
       generalize wr.drew=wn at *
       go_wp2_with fail
       go_ret
       rw[HF.out]
       exact⟨rfl,HBn.out⟩
      ·have hb:(x==y)=false:=by simpa using hxy
       have HN2:Hid (x∉l.take (k+1)):=by
        show _∉_
        rw[HT.out]
        intro h
        rcases List.mem_append.1 h with q|q
        ·exact HN.out q
        ·exact hxy (List.mem_singleton.1 q)
       clear HT HM HN hxy
       go_wp2_with fail
       refine wp_region_pl (λ Y=>Y.cell? ⟨g,o+i,none⟩=some (.int .i64 x)/\Y.cell? ⟨g,o+k,none⟩=some (.int .i64 y)) ((0,0)::(1,0)::(2,0)::(3,0)::(4,0)::(5,0)::(6,0)::(7,0)::(8,0)::[]) (by kernel_rfl) (by kernel_rfl) ?_
       iterate 9 (apply wpP_go;rfl;rfl;exact S1.out;(rintro Y ⟨s0,s1⟩;go_simp;exact rfl);intro K hK;go_simp;refine hK _ ?_;clear hK K)
       refine wpP_done ?_
       clear S1 hb
       generalize wr.drew=wn at *
       go_wp2_with fail
       go_roundw
       case rel=>exact⟨k+1,by omega,by go_num,HN2,HRn,HCn,HBn⟩
       case measure=>simp[intOf];omega
     ·have ek:k=i:=by omega
      subst ek
      have y1:¬(k:Int)<k:=by omega
      have HO2:Hid (okO (l.take (k+1))=true):=by
       show _=_
       rw[HS.out,HO.out,decide_eq_false HN.out];rfl
      clear HS HN HO HC
      go_wp2_with fail
      go_roundw
      case rel=>exact⟨k+1,by omega,by go_num,HO2,HR,HB⟩
      case measure=>simp[intOf];omega
   ·have hid2:isId x=false:=by simpa using hid
    have HF:Hid (okO l=false):=okO_bad (i:=i+1) (by rw[HS.out,hid2];simp)
    rw[hid2] at HID
    clear hid hid2 HS
    go_wp2_with fail
    refine HID.out.mono ?_
    rintro e w' ⟨rfl,rfl⟩
    clear HID
    go_wp2_with fail
    go_ret
    rw[HF.out]
    exact⟨rfl,HB.out⟩
  ·have y0:¬(i:Int)<L:=by omega
   have ei:i=L:=by omega
   have HF:Hid (okO l=true):=by
    show _=_
    have:=HO.out
    rw[ei,<-HLL.out,List.take_length] at this
    exact this
   have h16:L<=16:=by rw[<-HLL.out];exact okO_len HF.out
   have h16I:(L:Int)<=16:=by omega
   go_wp2_with fail
   go_ret
   rw[HF.out]
   exact⟨rfl,HB.out⟩
end
section
attribute [local go_sem ↓] alloc34 load34 store34
section
variable {w w':World}{N M S L n:Nat}{O:Nat->Prop}{b:BM}
theorem QMR.no (h:QW w' N O M S L n b)(hb:Below w.heap.size w w'):QMR w N O M S L (n+1) (1,b) (.returned (.int .i64 1)) w':=
 ⟨rfl,QLeft.same (h.mono (Nat.le_succ _)) (Ch.of_below hb _)⟩
theorem rsetEntry_any (h:QW w N O M S L n b)(hb:b.st.blk<b.fl.B)(i:Int){d:Str}(hd:d.length=32)(a:Bool)(k:Int) :
  Calls Tryz.prog 68 #[fptr M,entA i d a k] w (QMR w N O M S L (n+1) (setEntryB b i d a k)):=by
 obtain⟨cs,hcs⟩:∃cs,cs=Ms.arr 35 (ecl i d a k):=⟨_,rfl⟩
 have he:entA i d a k=.agg cs:=by rw[hcs];rfl
 have R0:Row (w.alloc (.cells cs 34)) w.heap.size 34 35 (ecl i d a k):=by rw[hcs];exact Row.ofList w _ _ _ 35 rfl
 have HB0:Hid (Below w.heap.size w (w.alloc (.cells cs 34))):=(Below.refl _ _).alloc (Nat.le_refl _) _
 have HW1:=Hh (h.below HB0.out)
 have c0:(w.alloc (.cells cs 34)).cell? ⟨w.heap.size,0,none⟩=some (.int .i64 i):=R0.cell (i:=0) (by omega)
 have c34:(w.alloc (.cells cs 34)).cell? ⟨w.heap.size,34,none⟩=some (.int .i64 k):=R0.cell (i:=34) (by omega)
 have hld:=ld34 R0
 rw[<-hcs] at hld
 have HON:Hid (¬O w.heap.size):=λq=>by have:=(h.oN _ q).2;omega
 have HI:=Hh (rid_any i (w.alloc (.cells cs 34)))
 rw[he]
 have HCS:=Hh hcs.symm
 have HR0:=Hh R0
 unfold setEntryB
 clear R0 hcs he h
 by_cases h1:isId i=true
 ·rw[h1] at HI
  by_cases h2:k<1
  ·rw[if_neg (by omega)]
   go_enter Tryz.func68,Tryz.ntmps68
   go_wp2_with fail
   refine HI.out.mono ?_
   rintro e w1 ⟨rfl,rfl⟩
   go_wp2_with fail
   go_ret
   exact QMR.no HW1.out HB0.out
  ·by_cases h3:k > 255
   ·rw[if_neg (by omega)]
    go_enter Tryz.func68,Tryz.ntmps68
    go_wp2_with fail
    refine HI.out.mono ?_
    rintro e w1 ⟨rfl,rfl⟩
    go_wp2_with fail
    go_ret
    exact QMR.no HW1.out HB0.out
   ·rw[if_pos ⟨h1,by omega,by omega⟩]
    have hi:=isId_iff.1 h1
    obtain⟨j,rfl⟩:∃j:Nat,i=(j:Int):=⟨i.toNat,by omega⟩
    obtain⟨m,rfl⟩:∃m:Nat,k=(m:Int):=⟨k.toNat,by omega⟩
    have hj:j<16:=by omega
    have hm:m<=255:=by omega
    clear h1 hi
    go_enter Tryz.func68,Tryz.ntmps68
    go_wp2_with fail
    refine HI.out.mono ?_
    rintro e w1 ⟨rfl,rfl⟩
    clear HI
    go_upto_region 3 with fail
    obtain⟨E,hE⟩:∃E,w.heap.size=E:=⟨_,rfl⟩
    have HE:=Hh hE
    have HEL:Hid (E<(w.alloc (.cells cs 34)).heap.size):=by rw[<-hE];show _<_;simp
    rw[hE] at HR0 ⊢
    generalize w.alloc (.cells cs 34)=w1 at *
    clear hE hld c0 c34
    have HB1:Hid (Below E w w1.drew):=by rw[<-HE.out];exact HB0.out.drew
    have HW2:=Hh (HW1.out.below ((Below.refl _ _).drew))
    have S1:Hid (w1.drew.cell? ⟨M,0,none⟩=some (fptr S)/\Row w1.drew E 34 35 (ecl j d a m)):=⟨HW2.out.c0,HR0.out.drew⟩
    clear HW1 HB0 HR0
    refine wp_region_pl (λ Y=>Y.cell? ⟨M,0,none⟩=some (fptr S)/\Row Y E 34 35 (ecl j d a m)) ((0,0)::(1,0)::(2,0)::(3,0)::(4,0)::(5,0)::(7,0)::(6,1)::(8,1)::(9,1)::(10,0)::[]) (by kernel_rfl) (by kernel_rfl) ?_
    generalize w1.drew=w2 at *
    iterate 7 (apply wpP_go;rfl;rfl;exact S1.out;(focus (rintro Y ⟨m0,r0⟩;have c0:Y.cell? ⟨E,0,none⟩=some (.int .i64 (j:Int)):=r0.cell (i:=0) (by omega);have hld:=ld34 r0;rw[HCS.out] at hld;go_simp;exact rfl));intro K hK;go_simp;refine hK _ ?_;clear hK K)
    have HNM:=Hh (rname_any j hj w2)
    apply wpP_one
    rfl
    intro K hK
    go_simp
    refine HNM.out.mono ?_
    rintro e w3 ⟨rfl,b3⟩
    have S2:Hid (w3.cell? ⟨M,0,none⟩=some (fptr S)/\Row w3 E 34 35 (ecl j d a m)):=⟨(HW2.out.below b3).c0,S1.out.2.below b3 S1.out.2.lt⟩
    have HW3:=Hh (HW2.out.below b3)
    have HB3:Hid (Below E w w3):=HB1.out.trans (b3.mono (by rw[<-HE.out];exact HB1.out.size))
    refine hK _ _ S2.out ?_
    clear hK K b3 HNM S1 HW2 HB1
    have HVL:Hid (Calls Tryz.prog 122 #[.agg cs,.int .i64 0] w3 λe w'=>e=.returned (.string (vlB d a m 0))/\Below w3.heap.size w3 w'):=by
     rw[<-HCS.out];exact rvalue_any j hd a m 0 hm (by omega) w3
    apply wpP_one
    rfl
    intro K hK
    go_simp
    refine HVL.out.mono ?_
    rintro e w4 ⟨rfl,b4⟩
    have S3:Hid (w4.cell? ⟨M,0,none⟩=some (fptr S)/\Row w4 E 34 35 (ecl j d a m)):=⟨(HW3.out.below b4).c0,S2.out.2.below b4 S2.out.2.lt⟩
    have HW4:=Hh (HW3.out.below b4)
    have HB4:Hid (Below E w w4):=HB3.out.trans (b4.mono (by rw[<-HE.out];exact HB3.out.size))
    refine hK _ _ S3.out ?_
    clear hK K b4 HVL S2 HW3 HB3
    have HST:=Hh (HW4.out.setB hb (ke:=nmB j) (va:=vlB d a m 0) (by rw[nmB_size];omega) (by rw[vlB_size hd];omega) (nmB_list j) (vlB_list d a m 0))
    apply wpP_one
    rfl
    intro K hK
    go_simp
    refine HST.out.mono ?_
    rintro e w5 ⟨rfl,hl⟩
    have HLf:=Hh hl
    have hnE:¬O E:=by rw[<-HE.out];exact HON.out
    have S4:Hid (w5.cell? ⟨M,0,none⟩=some (fptr S)/\Row w5 E 34 35 (ecl j d a m)):=by
     obtain⟨O',_,q2,q3⟩:=hl
     exact⟨q2.c0,S3.out.2.ch q3 hnE⟩
    refine hK _ _ S4.out ?_
    clear hK K hl S3 HST
    iterate 1 (apply wpP_go;rfl;rfl;exact S4.out;(focus (rintro Y ⟨m0,r0⟩;have c0:Y.cell? ⟨E,0,none⟩=some (.int .i64 (j:Int)):=r0.cell (i:=0) (by omega);have hld:=ld34 r0;rw[HCS.out] at hld;go_simp;exact rfl));intro K hK;go_simp;refine hK _ ?_;clear hK K)
    refine wpP_done ?_
    clear S4
    go_wp2_with fail
    go_ret
    exact⟨rfl,HLf.out.after (by rw[HE.out];exact HB4.out)⟩
 ·have hf:isId i=false:=by cases hq:isId i;rfl;exact absurd hq h1
  rw[if_neg (λq=>h1 q.1)]
  rw[hf] at HI
  go_enter Tryz.func68,Tryz.ntmps68
  go_wp2_with fail
  refine HI.out.mono ?_
  rintro e w1 ⟨rfl,rfl⟩
  go_wp2_with fail
  go_ret
  exact QMR.no HW1.out HB0.out
theorem rsetNext_any (h:QW w N O M S L n b)(hb:b.st.blk<b.fl.B)(i:Int) :
  Calls Tryz.prog 70 #[fptr M,.int .i64 i] w (QMR w N O M S L (n+1) (setNextB b i)):=by
 have HI:=Hh (rid_any i w)
 have HW:=Hh h
 clear h
 unfold setNextB
 by_cases h1:isId i=true
 ·rw[if_pos h1]
  have hi:=isId_iff.1 h1
  rw[h1] at HI
  obtain⟨k,rfl⟩:∃k:Nat,i=(k:Int):=⟨i.toNat,by omega⟩
  have hk:k<16:=by omega
  clear h1 hi
  have hwid:IntKind.u8.wrap (k:Int)=(k:Int):=by rw[IntKind.wrap_u8'];omega
  obtain⟨kb,hkb⟩:∃kb:ByteArray,kb=⟨#[UInt8.ofNat k]⟩:=⟨_,rfl⟩
  have HKB:Hid (kb.data.toList=[UInt8.ofNat k]):=by show _=_;rw[hkb]
  have hkz:kb.size<=1000000:=by rw[bsz,HKB.out];simp
  have HB2:Hid (Below w.heap.size w (w.alloc (.cells #[.int .u8 (k:Int)] 5)).drew):=((Below.refl _ _).alloc (Nat.le_refl _) _).drew
  have HW2:=Hh (HW.out.below HB2.out)
  have HST:=Hh (HW2.out.setB hb (ke:=⟨#[78,101,120,116]⟩) (k:=nmN) (v:=[UInt8.ofNat k]) (by decide) hkz rfl HKB.out)
  have hob:(convert 99 9 (.slice (some ⟨w.heap.size,0,none⟩) 1 1)).run Tryz.prog (w.alloc (.cells #[.int .u8 (k:Int)] 5)).drew=.ok (.string kb) (w.alloc (.cells #[.int .u8 (k:Int)] 5)).drew:=by rw[hkb];exact one_byte w.drew k (by omega)
  have S1:Hid (w.drew.cell? ⟨M,0,none⟩=some (fptr S)):=HW.out.drew.c0
  have S2:Hid ((w.alloc (.cells #[.int .u8 (k:Int)] 5)).drew.cell? ⟨M,0,none⟩=some (fptr S)):=HW2.out.c0
  have hkt:[UInt8.ofNat (k:Int).toNat]=[UInt8.ofNat k]:=rfl
  rw[hkt]
  clear hkt
  clear hkb HW HW2 HKB
  go_enter Tryz.func70,Tryz.ntmps70
  go_wp2_with fail
  refine HI.out.mono ?_
  rintro e w1 ⟨rfl,rfl⟩
  clear HI
  go_wp2_with fail
  refine wp_region_pl (λ Y=>Y.cell? ⟨M,0,none⟩=some (fptr S))
   ((0,0)::(1,0)::(2,0)::(3,0)::(4,0)::(5,0)::(6,1)::(7,1)::(8,1)::(9,0)::[]) (by kernel_rfl) (by kernel_rfl) ?_
  iterate 6 (apply wpP_go;rfl;rfl;exact S1.out;(intro Y c0;go_simp;exact rfl);intro K hK;go_simp;refine hK _ ?_;clear hK K)
  iterate 2 (apply wpP_one;rfl;intro K hK;go_simp;refine hK _ _ S2.out ?_;clear hK K)
  apply wpP_one
  rfl
  intro K hK
  go_simp
  refine HST.out.mono ?_
  rintro e w6 ⟨rfl,hl⟩
  have HLf:=Hh hl
  have S3:Hid (w6.cell? ⟨M,0,none⟩=some (fptr S)):=by
   obtain⟨O',_,q2,q3⟩:=hl
   exact q2.c0
  refine hK _ _ S3.out ?_
  clear hK K hl hob
  iterate 1 (apply wpP_go;rfl;rfl;exact S3.out;(intro Y s0;go_simp;exact rfl);intro K hK;go_simp;refine hK _ ?_;clear hK K)
  refine wpP_done ?_
  clear S1 S2 S3 HST
  go_wp2_with fail
  go_ret
  exact⟨rfl,HLf.out.after HB2.out⟩
 ·have hf:isId i=false:=by cases hq:isId i;rfl;exact absurd hq h1
  rw[if_neg h1]
  rw[hf] at HI
  clear hf h1
  go_enter Tryz.func70,Tryz.ntmps70
  go_wp2_with fail
  refine HI.out.mono ?_
  rintro e w1 ⟨rfl,rfl⟩
  go_wp2_with fail
  go_ret
  exact QMR.no HW.out (Below.refl _ _)
end
end
section
attribute [local go_sem ↓] alloc34 load34 store34 build34 build34o
theorem ecl_fill {w:World}{g t i:Nat}{k:Int}{d:Str}{a:Bool}{n:Int}(h:Row w g t 35 (ecl k (d.take i) a n))(hi:i<32)(hd:d.length=32):Row (w.setCell ⟨g,1+i,none⟩ (.int .u8 ((d.getD i 0).toNat:Int))) g t 35 (ecl k (d.take (i+1)) a n):=
 (h.set (i:=1+i) (by omega) _).congr λj hj=>by
  by_cases e:j=1+i
  ·subst e
   rw[upd_hit,ecl_mid _ _ _ _ _ hi,List.getD_eq_getElem?_getD,List.getD_eq_getElem?_getD,List.getElem?_take_of_lt (by omega)]
  ·rw[upd_miss _ _ e]
   unfold ecl
   by_cases e0:j=0
   ·simp only[e0,if_true]
   ·by_cases e1:j<33
    ·rw[if_neg e0,if_pos e1,if_neg e0,if_pos e1]
     by_cases e2:j-1<i
     ·rw[List.getD_eq_getElem?_getD,List.getD_eq_getElem?_getD,List.getElem?_take_of_lt e2,List.getElem?_take_of_lt (by omega)]
     ·rw[List.getD_eq_getElem?_getD,List.getD_eq_getElem?_getD,List.getElem?_eq_none (by rw[List.length_take];omega),List.getElem?_eq_none (by rw[List.length_take];omega)]
    ·rw[if_neg e0,if_neg e1,if_neg e0,if_neg e1]
section
variable {w w':World}{N M S L n:Nat}{O:Nat->Prop}{b:BM}
theorem rentry_bad (i:Int)(hid:isId i=false)(w:World):Calls Tryz.prog 75 #[fptr M,.int .i64 i] w λe w'=>e=.returned (.tuple #[entA 0 [] false 0,.int .i64 0,.int .i64 6])/\Below w.heap.size w w':=by
 have HI:=Hh (rid_any i (w.alloc (.cells (Ms.arr 35 (ecl 0 [] false 0)) 34)))
 rw[hid] at HI
 have HR:=Hh (nE_row w)
 have hst:=st34 HR.out 0 [] false 0
 have HR2:=Hh (Ms.Row.setWhole (u:=ecl 0 [] false 0) HR.out)
 clear hid
 go_enter Tryz.func75,Tryz.ntmps75
 go_wp2_with fail
 refine HI.out.mono ?_
 rintro e w' ⟨rfl,rfl⟩
 go_wp2_with fail
 exact bodyPost_ret (v:=.tuple #[entA 0 [] false 0,.int .i64 0,.int .i64 6]) (res3 rfl _ _ w.heap.size (Ms.arr 35 (ecl 0 [] false 0)) _ _ rfl rfl rfl (ret34 HR2.out)) rfl ⟨rfl,Ms.Below.setAll (Nat.le_refl _) _ _ _ ((Below.refl _ _).alloc (Nat.le_refl _) _)⟩
theorem rentry_id (h:QW w N O M S L n b)(k:Nat)(hk:k<16):Calls Tryz.prog 75 #[fptr M,.int .i64 (k:Int)] w λe w'=>e=.returned (entT b.st.V k)/\Below w.heap.size w w':=by
 have hid:isId (k:Int)=true:=isId_iff.2 ⟨by omega,by omega⟩
 have HI:=Hh (rid_any (k:Int) (w.alloc (.cells (Ms.arr 35 (ecl 0 [] false 0)) 34)))
 rw[hid] at HI
 have HEV:Hid (entV b.st.V (k:Int)=(getV b.st.V (nmE k)).filter okE):=entV_eq hid
 obtain⟨W0,hW0⟩:∃W0,W0=w.alloc (.cells (Ms.arr 35 (ecl 0 [] false 0)) 34):=⟨_,rfl⟩
 obtain⟨E,hE⟩:∃E,E=w.heap.size:=⟨_,rfl⟩
 have HE:=Hh hE
 rw[<-hW0] at HI
 have HR0:Hid (Row W0 E 34 35 (ecl 0 [] false 0)):=by rw[hW0,hE];exact nE_row w
 have HB0:Hid (Below E w W0):=by rw[hW0,hE];exact(Below.refl _ _).alloc (Nat.le_refl _) _
 have hs0:E<W0.heap.size:=HR0.out.lt
 have HW0:Hid (QW W0.drew N O M S L n b):=h.below ((hE▸HB0.out).drew)
 have HBd:Hid (Below E w W0.drew):=HB0.out.drew
 obtain⟨vb,hvb⟩:∃vb:ByteArray,str (getS b.st.V (nmE k)).1=.string vb:=⟨_,rfl⟩
 have HVB:Hid (vb.data.toList=(getS b.st.V (nmE k)).1):=by
  show _=_
  unfold str at hvb
  injection hvb with hvb
  rw[<-hvb]
 obtain⟨cd,hcd⟩:∃cd,(getS b.st.V (nmE k)).2=cd:=⟨_,rfl⟩
 have HCD:=Hh hcd
 have HNM:=Hh (rname_any k hk W0.drew)
 have HG:Hid (∀Y,Below W0.drew.heap.size W0.drew Y->Calls Tryz.prog 109 #[fptr S,.string (nmB k)] Y λe w'=>e=.returned (.tuple #[.string vb,.int .i64 cd])/\Y=w'):=λ Y hY=>by
  have:=(HW0.out.below hY).get (nmB k)
  rw[nmB_list,hvb,hcd] at this
  exact this
 have S1:Hid (W0.drew.cell? ⟨M,0,none⟩=some (fptr S)/\Row W0.drew E 34 35 (ecl 0 [] false 0)):=⟨HW0.out.c0,HR0.out⟩
 have HS2:Hid (∀Y,Below W0.drew.heap.size W0.drew Y->Y.cell? ⟨M,0,none⟩=some (fptr S)):=λ Y hY=>(HW0.out.below hY).c0
 clear h hid hvb hcd HW0 HB0 hE
 go_enter Tryz.func75,Tryz.ntmps75
 go_wp2_with fail
 rw[<-hW0]
 refine HI.out.mono ?_
 rintro e w' ⟨rfl,rfl⟩
 clear hW0 HI
 rw[<-HE.out]
 go_wp2_with fail
 refine wp_region_pl (λ Y=>Y.cell? ⟨M,0,none⟩=some (fptr S)/\Row Y E 34 35 (ecl 0 [] false 0))
  ((0,0)::(1,0)::(2,0)::(3,0)::(4,0)::(5,1)::(6,1)::(7,0)::(8,0)::(9,0)::(10,0)::(11,0)::[]) (by kernel_rfl) (by kernel_rfl) ?_
 generalize W0.drew=W1 at *
 iterate 5 (apply wpP_go;rfl;rfl;exact S1.out;(rintro Y ⟨c0,s1⟩;go_simp;exact rfl);intro K hK;go_simp;refine hK _ ?_;clear hK K)
 apply wpP_one
 rfl
 intro K hK
 go_simp
 refine HNM.out.mono ?_
 rintro e W ⟨rfl,b5⟩
 have S2:Hid (W.cell? ⟨M,0,none⟩=some (fptr S)/\Row W E 34 35 (ecl 0 [] false 0)):=⟨HS2.out W b5,S1.out.2.below b5 S1.out.2.lt⟩
 have HG2:=Hh (HG.out W b5)
 have HBW:Hid (Below E w W):=HBd.out.trans (b5.mono (by have:=HBd.out.size;have:=S1.out.2.lt;omega))
 refine hK _ _ S2.out ?_
 clear hK K b5 HG HS2 HNM S1 HBd
 apply wpP_one
 rfl
 intro K hK
 go_simp
 refine HG2.out.mono ?_
 rintro e w6 ⟨rfl,rfl⟩
 refine hK _ _ S2.out ?_
 clear hK K HG2
 iterate 5 (apply wpP_go;rfl;rfl;exact S2.out;(intro Y s0;go_simp;exact rfl);intro K hK;go_simp;refine hK _ ?_;clear hK K)
 refine wpP_done ?_
 have HRW:=Hh S2.out.2
 clear S2 HR0 hs0
 have hst:=st34 HRW.out 0 [] false 0
 have HRZ:=Hh (Ms.Row.setWhole (u:=ecl 0 [] false 0) HRW.out)
 have HBZ:Hid (Below w.heap.size w (W.setCells E 0 (Ms.arr 35 (ecl 0 [] false 0)).toList)):=by rw[<-HE.out];exact Ms.Below.setAll (Nat.le_refl _) _ _ _ HBW.out
 rcases hg:getV b.st.V (nmE k) with _|v
 ·have e1:cd=6:=by rw[<-HCD.out];unfold getS;rw[hg]
  have HT:Hid (entT b.st.V (k:Int)=.tuple #[entA 0 [] false 0,.int .i64 0,.int .i64 6]):=entT_none (by rw[HEV.out,hg];rfl)
  subst e1
  clear hg HEV HCD HVB
  go_wp2_with fail
  exact bodyPost_ret (v:=.tuple #[entA 0 [] false 0,.int .i64 0,.int .i64 6]) (res3 rfl _ _ E (Ms.arr 35 (ecl 0 [] false 0)) _ _ rfl rfl rfl (ret34 HRZ.out)) rfl ⟨by rw[HT.out],HBZ.out⟩
 have e1:cd=0:=by rw[<-HCD.out];unfold getS;rw[hg]
 have e2:vb.data.toList=v:=by rw[HVB.out];unfold getS;rw[hg]
 subst e1
 have hvz:vb.size=v.length:=by rw[bsz,e2]
 by_cases h35:v.length=35
 ·have hz35:vb.size=35:=by omega
  have l32:32<vb.size:=by rw[hz35];omega
  have l33:33<vb.size:=by rw[hz35];omega
  have l34:34<vb.size:=by rw[hz35];omega
  obtain⟨x,hx⟩:∃x,(vb[32]'l32).toNat=x:=⟨_,rfl⟩
  have hx2:(v.getD 32 0).toNat=x:=by rw[<-hx,ba_at,e2]
  clear h35 hvz
  by_cases h1:x<=1
  ·obtain⟨y,hy⟩:∃y,(vb[33]'l33).toNat=y:=⟨_,rfl⟩
   have hy2:(v.getD 33 0).toNat=y:=by rw[<-hy,ba_at,e2]
   obtain⟨z,hz⟩:∃z,(vb[34]'l34).toNat=z:=⟨_,rfl⟩
   have hz2:(v.getD 34 0).toNat=z:=by rw[<-hz,ba_at,e2]
   have hyb:y<256:=by rw[<-hy];exact(vb[33]'l33).toNat_lt
   have hzb:z<256:=by rw[<-hz];exact(vb[34]'l34).toNat_lt
   have hlv:v.length=35:=by rw[<-e2,<-bsz];exact hz35
   have h32:(v.take 32).length=32:=by rw[List.length_take];omega
   have HT:Hid (entT b.st.V (k:Int)=.tuple #[entA k (v.take 32) (decide (x=1)) y,.int .i64 (z:Int),.int .i64 0]):=by
    have hok:okE v=true:=by unfold okE;rw[hx2,hlv];simp[h1]
    have e3:entV b.st.V (k:Int)=some v:=by rw[HEV.out,hg];simp[Option.filter,hok]
    show _=_
    unfold entT entO
    rw[e3]
    simp only[Option.map_some,hx2,hy2,hz2,enV]
   have hwy:IntKind.i64.wrap (y:Int)=(y:Int):=IntWalk.i64_in _ ⟨by omega,by omega⟩
   have hwz:IntKind.i64.wrap (z:Int)=(z:Int):=IntWalk.i64_in _ ⟨by omega,by omega⟩
   have hx1:¬((x:Nat):Int) > 1:=by omega
   have hx3:decide (((x:Nat):Int) > 1)=false:=by simp;omega
   have EV:=Hh e2
   have HV32:=Hh h32
   clear hg HEV HCD HVB hx2 e2 hy2 hz2 hlv h32
   go_wp2_with fail
   obtain⟨a,ha⟩:∃a,((x:Int)==1)=a:=⟨_,rfl⟩
   have hxa:decide (x=1)=a:=by
    rw[<-ha,Bool.eq_iff_iff]
    simp
    omega
   rw[hxa] at HT
   clear hxa
   refine wp_region_pl (λ_=>True) ((0,0)::(1,0)::(2,0)::(3,0)::(4,0)::(5,0)::(6,0)::(7,0)::(8,1)::(9,1)::[]) (by kernel_rfl) (by kernel_rfl) ?_
   iterate 8 (apply wpP_go;rfl;rfl;exact trivial;(intro Y _;go_simp;exact rfl);intro K hK;go_simp;refine hK _ ?_;clear hK K)
   have HRe:Hid (Row (W.alloc (.cells (Ms.arr 35 (ecl 0 [] false 0)) 34)).drew E 34 35 (ecl 0 [] false 0)):=HRW.out.alloc _
   have HRn:Hid (Row (W.alloc (.cells (Ms.arr 35 (ecl 0 [] false 0)) 34)).drew W.heap.size 34 35 (ecl 0 [] false 0)):=nE_row W
   have HB3:Hid (Below E w (W.alloc (.cells (Ms.arr 35 (ecl 0 [] false 0)) 34)).drew):=(HBW.out.alloc (by have:=HRW.out.lt;omega) _).drew
   have hne:E≠W.heap.size:=by have:=HRW.out.lt;omega
   obtain⟨E2,hE2⟩:∃E2,W.heap.size=E2:=⟨_,rfl⟩
   have hEl:E<=E2:=by have:=HRW.out.lt;omega
   rw[hE2] at HRn hne
   have hst2:=st34 HRn.out k [] a y
   iterate 2 (apply wpP_one;rfl;intro K hK;go_simp;refine hK _ _ trivial ?_;clear hK K)
   refine wpP_done ?_
   clear hst2 hE2
   generalize (W.alloc (.cells (Ms.arr 35 (ecl 0 [] false 0)) 34)).drew=W2 at *
   have HR3:Hid (Row (W2.setCells E2 0 (Ms.arr 35 (ecl k [] a y)).toList) E2 34 35 (ecl k [] a y)):=Ms.Row.setWhole HRn.out
   have HE3:Hid (Row (W2.setCells E2 0 (Ms.arr 35 (ecl k [] a y)).toList) E 34 35 (ecl 0 [] false 0)):=Ms.Row.farAll hne _ _ _ HRe.out
   have HB4:Hid (Below E w (W2.setCells E2 0 (Ms.arr 35 (ecl k [] a y)).toList)):=Ms.Below.setAll hEl _ _ _ HB3.out
   clear HRe HRn HB3 HRW HBW HRZ HBZ hst
   generalize W2.setCells E2 0 (Ms.arr 35 (ecl k [] a y)).toList=W3 at *
   have HVK:Hid (v.take 32=v.take 32):=rfl
   obtain⟨dd,hdd⟩:∃q,v.take 32=q:=⟨_,rfl⟩
   rw[hdd] at HV32 HT
   have HDG:Hid (∀j,j<32->dd.getD j 0=v.getD j 0):=λj hj=>by
    rw[<-hdd,List.getD_eq_getElem?_getD,List.getD_eq_getElem?_getD,List.getElem?_take_of_lt hj]
   clear HVK hdd
   go_wp2_with fail
   go_loopw [10] (λq wq=>∃i:Nat,i<=32/\q=.int .i64 (i:Int)/\Hid (Row wq E2 34 35 (ecl k (dd.take i) a y))/\Hid (Row wq E 34 35 (ecl 0 [] false 0))/\Hid (Below E w wq)) (λq _=>32-(intOf q).toNat)
   case atStart=>exact⟨0,by omega,rfl,HR3,HE3,HB4⟩
   case round=>
    clear HR3 HE3 HB4
    obtain⟨i,hi,rfl,HR,HEr,HB⟩:=hrel
    by_cases hi32:i<32
    ·have y1:(i:Int)<32:=by omega
     have hiv:i<vb.size:=by omega
     have hiI:(i:Int)<vb.size:=by omega
     obtain⟨x9,hx9⟩:∃x,(vb[i]'hiv).toNat=x:=⟨_,rfl⟩
     have hx8:(dd.getD i 0).toNat=x9:=by rw[HDG.out i hi32,<-hx9,ba_at,EV.out]
     have r2:=ecl_fill HR.out hi32 HV32.out
     rw[hx8] at r2
     have HR2:=Hh r2
     have cb:=HR.out.cell (i:=1+i) (by omega)
     have fb:=HR.out.frozen (1+i)
     have HB2:Hid (Below E w (wr.setCell ⟨E2,1+i,none⟩ (.int .u8 (x9:Int)))):=HB.out.setCell (p:=⟨E2,1+i,none⟩) hEl _
     have HE2:Hid (Row (wr.setCell ⟨E2,1+i,none⟩ (.int .u8 (x9:Int))) E 34 35 (ecl 0 [] false 0)):=HEr.out.ch ((Ch.refl (λk=>k=E2) wr).setCell (p:=⟨E2,1+i,none⟩) (λ_=>rfl) _) (λq=>hne q)
     clear HR HEr HB r2 hx8
     go_wp2_with fail
     go_roundw
     case rel=>exact⟨i+1,by omega,by go_num,HR2,HE2,HB2⟩
     case measure=>simp[intOf];omega
    ·have y1:¬(i:Int)<32:=by omega
     have ei:i=32:=by omega
     subst ei
     have htk:dd.take 32=dd:=List.take_of_length_le (by rw[HV32.out];omega)
     rw[htk] at HR
     clear htk HDG
     have HR4:=HR
     have HE4:=HEr
     have HB5:=HB
     clear HR HEr HB
     generalize wr=W4 at *
     go_upto_region 11 with fail
     have hst4:=st34 (W:=W4.drew) HE4.out k dd a y
     have HRF:Hid (Row (W4.drew.setCells E 0 (Ms.arr 35 (ecl k dd a y)).toList) E 34 35 (ecl k dd a y)):=Ms.Row.setWhole (w:=W4.drew) HE4.out
     have HBF:Hid (Below w.heap.size w (W4.drew.setCells E 0 (Ms.arr 35 (ecl k dd a y)).toList)):=by rw[<-HE.out];exact Ms.Below.setAll (Nat.le_refl _) _ _ _ HB5.out.drew
     have S5:Hid (Row W4.drew E2 34 35 (ecl k dd a y)):=HR4.out
     have S6:Hid (Row (W4.drew.setCells E 0 (Ms.arr 35 (ecl k dd a y)).toList) E2 34 35 (ecl k dd a y)):=Ms.Row.farAll hne.symm _ _ W4.drew HR4.out
     refine wp_region_pl (λ Y=>Row Y E2 34 35 (ecl k dd a y)) ((0,0)::(1,0)::(2,0)::(3,0)::(4,1)::(5,0)::(6,0)::[]) (by kernel_rfl) (by kernel_rfl) ?_
     iterate 4 (apply wpP_go;rfl;rfl;exact S5.out;(intro Y s0;have l0:=ld34 s0;go_simp;exact rfl);intro K hK;go_simp;refine hK _ ?_;clear hK K)
     iterate 1 (apply wpP_one;rfl;intro K hK;go_simp;refine hK _ _ S6.out ?_;clear hK K)
     iterate 2 (apply wpP_go;rfl;rfl;exact S6.out;(intro Y s0;go_simp;exact rfl);intro K hK;go_simp;refine hK _ ?_;clear hK K)
     refine wpP_done ?_
     clear hst4
     go_wp2_with fail
     exact bodyPost_ret (v:=.tuple #[entA k dd a y,.int .i64 (z:Int),.int .i64 0]) (res3 rfl _ _ E (Ms.arr 35 (ecl k dd a y)) _ _ rfl rfl rfl (ret34 HRF.out)) rfl ⟨by rw[HT.out],HBF.out⟩
  ·have hx1:¬((x:Nat):Int)<=1:=by omega
   have hx3:decide (((x:Nat):Int) > 1)=true:=by simp;omega
   have HT:Hid (entT b.st.V (k:Int)=.tuple #[entA 0 [] false 0,.int .i64 0,.int .i64 6]):=entT_none (by
    rw[HEV.out,hg]
    have:okE v=false:=by unfold okE;rw[hx2];simp[h1]
    simp[Option.filter,this])
   clear hg HEV HCD HVB hx2 e2
   go_wp2_with fail
   exact bodyPost_ret (v:=.tuple #[entA 0 [] false 0,.int .i64 0,.int .i64 6]) (res3 rfl _ _ E (Ms.arr 35 (ecl 0 [] false 0)) _ _ rfl rfl rfl (ret34 HRZ.out)) rfl ⟨by rw[HT.out],HBZ.out⟩
 ·have h35I:¬(vb.size:Int)=35:=by omega
  have h35N:((vb.size:Int)!=35)=true:=by rw[bne_iff_ne];exact h35I
  have HT:Hid (entT b.st.V (k:Int)=.tuple #[entA 0 [] false 0,.int .i64 0,.int .i64 6]):=entT_none (by
   rw[HEV.out,hg]
   have:okE v=false:=by unfold okE;simp[h35]
   simp[Option.filter,this])
  clear hg HEV HCD HVB e2 hvz
  go_wp2_with fail
  exact bodyPost_ret (v:=.tuple #[entA 0 [] false 0,.int .i64 0,.int .i64 6]) (res3 rfl _ _ E (Ms.arr 35 (ecl 0 [] false 0)) _ _ rfl rfl rfl (ret34 HRZ.out)) rfl ⟨by rw[HT.out],HBZ.out⟩
theorem rentry_any (h:QW w N O M S L n b)(i:Int):Calls Tryz.prog 75 #[fptr M,.int .i64 i] w λe w'=>e=.returned (entT b.st.V i)/\Below w.heap.size w w':=by
 cases hid:isId i
 ·rw[entT_none (by unfold entV;rw[hid];rfl)]
  exact rentry_bad i hid w
 ·have:=isId_iff.1 hid
  obtain⟨k,rfl⟩:∃k:Nat,i=(k:Int):=⟨i.toNat,by omega⟩
  exact rentry_id h k (by omega)
end
end
section
attribute [local go_sem ↓] alloc34 load34 store34
attribute [local go_sem] Ms.set_new Ms.stN_b8 cs32
section
variable {w w':World}{N M S L n:Nat}{O:Nat->Prop}{b:BM}
theorem QMR.err (h:QW w' N O M S L n b)(hb:Below w.heap.size w w')(c:Int):QMR w N O M S L (n+1) (c,b) (.returned (.int .i64 c)) w':=
 ⟨rfl,QLeft.same (h.mono (Nat.le_succ _)) (Ch.of_below hb _)⟩
theorem rsucceeded_any (h:QW w N O M S L n b)(hb:b.st.blk<b.fl.B):Calls Tryz.prog 73 #[fptr M] w (QMR w N O M S L (n+1) (succB b)):=by
 have c4:=h.c4
 have HEN0:=Hh (rentry_any h b.last)
 have HW:=Hh h
 by_cases hneg:b.last<0
 ·have hf:succB b=(9,b):=by
   unfold succB
   have:entO b.st.V b.last=none:=by
    unfold entO entV
    rw[if_neg (λq=>by have:=isId_iff.1 q;omega)]
    rfl
   rw[this]
  rw[hf]
  generalize b.last=la at *
  clear h hf HEN0
  go_enter Tryz.func73,Tryz.ntmps73
  go_wp2_with fail
  go_ret
  exact QMR.err HW.out (Below.refl _ _) 9
 rcases hO:entO b.st.V b.last with _|e
 ·have hf:succB b=(9,b):=by unfold succB;rw[hO]
  have HEN:Hid (Calls Tryz.prog 75 #[fptr M,.int .i64 b.last] w λe w'=>e=.returned (.tuple #[.agg (Ms.arr 35 (ecl 0 [] false 0)),.int .i64 0,.int .i64 6])/\Below w.heap.size w w'):=by
   have:=HEN0.out
   unfold entT at this
   rw[hO] at this
   exact this
  rw[hf]
  have hst9:=λ(W:World)=>st34 (nE_row W) 0 [] false 0
  generalize b.last=la at *
  clear h hf HEN0 hO
  go_enter Tryz.func73,Tryz.ntmps73
  go_wp2_with fail
  refine HEN.out.mono ?_
  rintro e w1 ⟨rfl,b1⟩
  have hB:Below w.heap.size w (w1.alloc (.cells (Ms.arr 35 (ecl 0 [] false 0)) 34)):=b1.alloc b1.size _
  have HB:=Hh hB
  clear b1 hB HEN
  go_wp2_with fail
  go_ret
  exact QMR.err (HW.out.below HB.out) HB.out 9
 ·obtain⟨h1,h2,h3,h4,h5⟩:=entO_some hO
  have hid:=isId_iff.1 h2
  obtain⟨i,d,a,m,u⟩:=e
  have h9:i=b.last:=h1
  clear h1
  have hd:d.length=32:=h3
  have hm:m<=255:=h4
  obtain⟨j,hj⟩:∃j:Nat,b.last=(j:Int):=⟨b.last.toNat,by omega⟩
  have hj16:j<16:=by omega
  rw[hj] at h9
  subst h9
  have HJ:=Hh hj
  have hf:succB b=setB b (nmE j) (entS d a m 0):=by
   unfold succB
   rw[hO]
   rfl
  have HEN:Hid (Calls Tryz.prog 75 #[fptr M,.int .i64 (j:Int)] w λe w'=>e=.returned (.tuple #[.agg (Ms.arr 35 (ecl j d a m)),.int .i64 (u:Int),.int .i64 0])/\Below w.heap.size w w'):=by
   have:=HEN0.out
   unfold entT at this
   rw[hO,hj] at this
   exact this
  have HL4:Hid (∀W,Below w.heap.size w W->W.cell? ⟨M,4,none⟩=some (.int .i64 (j:Int))):=λ W hW=>by
   have:=(h.below hW).c4
   rw[hj] at this
   exact this
  rw[hf]
  rw[hj] at c4 hneg
  have hst9:=λ(W:World)=>st34 (nE_row W) (j:Int) d a m
  have hj0:¬(j:Int)<0:=by omega
  have HON:Hid (∀k,O k->k<w.heap.size):=λk hk=>(h.oN k hk).2
  clear h hf HEN0 hO h2 h3 h4 h5 hid hj hneg
  go_enter Tryz.func73,Tryz.ntmps73
  go_wp2_with fail
  refine HEN.out.mono ?_
  rintro e w1 ⟨rfl,b1⟩
  have hB:Below w.heap.size w (w1.alloc (.cells (Ms.arr 35 (ecl j d a m)) 34)):=b1.alloc b1.size _
  have HB:=Hh hB
  have HW2:=Hh (HW.out.below hB)
  have HR2:Hid (Row (w1.alloc (.cells (Ms.arr 35 (ecl j d a m)) 34)) w1.heap.size 34 35 (ecl j d a m)):=Row.ofList w1 _ _ _ 35 rfl
  have HE:Hid (w.heap.size<=w1.heap.size):=b1.size
  clear b1 hB HEN HW c4
  go_upto_region 6 with fail
  clear hst9
  generalize w1.alloc (.cells (Ms.arr 35 (ecl j d a m)) 34)=w2 at *
  generalize w1.heap.size=E at *
  have HBd:Hid (Below w.heap.size w w2.drew):=HB.out.drew
  have HWd:=Hh (HW2.out.below ((Below.refl _ _).drew))
  have S1:Hid (w2.drew.cell? ⟨M,0,none⟩=some (fptr S)/\w2.drew.cell? ⟨M,4,none⟩=some (.int .i64 (j:Int))/\Row w2.drew E 34 35 (ecl j d a m)):=⟨HWd.out.c0,HL4.out _ HBd.out,HR2.out.drew⟩
  clear HB HW2 HR2
  refine wp_region_pl (λ Y=>Y.cell? ⟨M,0,none⟩=some (fptr S)/\Y.cell? ⟨M,4,none⟩=some (.int .i64 (j:Int))/\Row Y E 34 35 (ecl j d a m)) ((0,0)::(1,0)::(2,0)::(3,0)::(4,0)::(5,0)::(6,0)::(7,0)::(9,0)::(8,1)::(10,1)::(11,1)::(12,0)::[]) (by kernel_rfl) (by kernel_rfl) ?_
  generalize w2.drew=w3 at *
  iterate 9 (apply wpP_go;rfl;rfl;exact S1.out;(rintro Y ⟨m0,m4,r0⟩;have hld:=ld34 r0;go_simp;exact rfl);intro K hK;go_simp;refine hK _ ?_;clear hK K)
  have HNM:=Hh (rname_any j hj16 w3)
  apply wpP_one
  rfl
  intro K hK
  go_simp
  refine HNM.out.mono ?_
  rintro e w4 ⟨rfl,b4⟩
  have HB4:Hid (Below w.heap.size w w4):=HBd.out.trans (b4.mono HBd.out.size)
  have HW4:=Hh (HWd.out.below b4)
  have S2:Hid (w4.cell? ⟨M,0,none⟩=some (fptr S)/\w4.cell? ⟨M,4,none⟩=some (.int .i64 (j:Int))/\Row w4 E 34 35 (ecl j d a m)):=⟨HW4.out.c0,HL4.out _ HB4.out,S1.out.2.2.below b4 S1.out.2.2.lt⟩
  refine hK _ _ S2.out ?_
  clear hK K b4 HNM S1 HWd HBd
  have HVL:Hid (Calls Tryz.prog 122 #[.agg (Ms.arr 35 (ecl j d a m)),.int .i64 0] w4 λe w'=>e=.returned (.string (vlB d a m 0))/\Below w4.heap.size w4 w'):=rvalue_any j hd a m 0 hm (by omega) w4
  apply wpP_one
  rfl
  intro K hK
  go_simp
  refine HVL.out.mono ?_
  rintro e w5 ⟨rfl,b5⟩
  have HB5:Hid (Below w.heap.size w w5):=HB4.out.trans (b5.mono HB4.out.size)
  have HW5:=Hh (HW4.out.below b5)
  have S3:Hid (w5.cell? ⟨M,0,none⟩=some (fptr S)/\w5.cell? ⟨M,4,none⟩=some (.int .i64 (j:Int))/\Row w5 E 34 35 (ecl j d a m)):=⟨HW5.out.c0,HL4.out _ HB5.out,S2.out.2.2.below b5 S2.out.2.2.lt⟩
  refine hK _ _ S3.out ?_
  clear hK K b5 HVL S2 HW4 HB4
  have HST:=Hh (HW5.out.setB hb (ke:=nmB j) (va:=vlB d a m 0) (by rw[nmB_size];omega) (by rw[vlB_size hd];omega) (nmB_list j) (vlB_list d a m 0))
  apply wpP_one
  rfl
  intro K hK
  go_simp
  refine HST.out.mono ?_
  rintro e w6 ⟨rfl,hl⟩
  have HLf:=Hh hl
  have S4:Hid (w6.cell? ⟨M,0,none⟩=some (fptr S)/\w6.cell? ⟨M,4,none⟩=some (.int .i64 (j:Int))/\Row w6 E 34 35 (ecl j d a m)):=by
   obtain⟨O',_,q2,q3⟩:=hl
   refine⟨q2.c0,?_,S3.out.2.2.ch q3 (λq=>by have:=HON.out E q;have:=HE.out;omega)⟩
   have:=q2.c4
   rw[<-HJ.out]
   exact this
  refine hK _ _ S4.out ?_
  clear hK K hl S3 HST
  iterate 1 (apply wpP_go;rfl;rfl;exact S4.out;(rintro Y ⟨m0,m4,r0⟩;have hld:=ld34 r0;go_simp;exact rfl);intro K hK;go_simp;refine hK _ ?_;clear hK K)
  refine wpP_done ?_
  clear S4
  go_wp2_with fail
  go_ret
  exact⟨rfl,HLf.out.after HB5.out⟩
theorem rlog_any (h:QW w N O M S L n b)(hl:b.log.length<=1000):Calls Tryz.prog 78 #[fptr M] w (NewS w b.log):=by
 obtain⟨vl,c3,hv,_⟩:=h.c3
 have hmk:∀W,(Instr.buildSlice 96 0 #[]).run Tryz.prog W=.ok (.slice (some ⟨W.heap.size,0,none⟩) 0 0) (W.alloc (.cells #[] 40)):=λ_=>by kernel_rfl
 have ho:Hid ((w.alloc (.cells #[] 40)).ownsRow w.heap.size 40 2 (.slice (some ⟨w.heap.size,0,none⟩) 0 0) 0 []):=⟨rfl,.inr ⟨w.heap.size,0,#[],rfl,Nat.le_refl _,heap_alloc_new w _,Nat.le_refl _,by simp[maxLen],rfl,rfl⟩⟩
 obtain⟨i0,hi0,hz0,hz1,hz2⟩:=info_parts Tryz.infoSt
 have hM:=h.M_lt
 generalize b.log=l at *
 rcases hv.2 with ⟨rfl,e⟩|⟨g,cap,cur,rfl,_,hh,h5,h6,_,h7⟩
 ·have he:l=[]:=List.eq_nil_of_length_eq_zero e
  subst he
  have ha:(Builtin.append_ #[96,96] 96 #[.slice (some ⟨w.heap.size,0,none⟩) 0 0,.slice none 0 0]).run Tryz.prog (w.alloc (.cells #[] 40))=.ok (.slice (some ⟨w.heap.size,0,none⟩) 0 0) (w.alloc (.cells #[] 40)):=by
   simp[Builtin.append_,run_underlying Tryz.underlying96,sizeOf,typeInfo,hi0,Builtin.lenOf,Builtin.firstCells,storeCells,loadCells,loadCellsFrom]
  clear h hv e
  go_enter Tryz.func78,Tryz.ntmps78
  go_wp2_with fail
  go_ret
  exact⟨_,rfl,ho.out,(Below.refl _ _).alloc (Nat.le_refl _) _⟩
 ·by_cases he:l=[]
  ·subst he
   have ha:(Builtin.append_ #[96,96] 96 #[.slice (some ⟨w.heap.size,0,none⟩) 0 0,.slice (some ⟨g,0,none⟩) 0 cap]).run Tryz.prog (w.alloc (.cells #[] 40))=.ok (.slice (some ⟨w.heap.size,0,none⟩) 0 0) (w.alloc (.cells #[] 40)):=by
    simp[Builtin.append_,run_underlying Tryz.underlying96,sizeOf,typeInfo,hi0,Builtin.lenOf,Builtin.firstCells,storeCells,loadCells,loadCellsFrom]
   clear h hv hh h7
   go_enter Tryz.func78,Tryz.ntmps78
   go_wp2_with fail
   go_ret
   exact⟨_,rfl,ho.out,(Below.refl _ _).alloc (Nat.le_refl _) _⟩
  ·have hpos:0<l.length:=List.length_pos_iff.2 he
   have hlt:=heap_lt hh
   have hnews:Hid (∀j u,(stv l)[j]? = some u->(w.alloc (.cells #[] 40)).cell? ((⟨g,0,none⟩:Addr).add j)=some u):=λj u hu=>by
    have hj:j<l.length*2:=by have:=(List.getElem?_eq_some_iff.1 hu).1;rw[stv_len] at this;exact this
    rw[Addr.add_mid,Nat.zero_add,World.cell?_of_block (w:=w) (Below.heap_alloc w _ g hlt),cell_of_row w g j cur _ (0,0) hh]
    rw[<-h7,List.getElem?_take_of_lt hj,Array.getElem?_toList] at hu
    exact hu
   have hone:Hid (∀u∈stv l,u.oneCell'=true):=stv_one l
   clear he h hv hh h7
   go_enter Tryz.func78,Tryz.ntmps78
   go_wp2_with (at_builtin;refine wpList_append_lies _ rfl _ _ 96 rfl w.heap.size 40 i0 _ 2 16 Tryz.underlying96 hi0 hz0 hz1 hz2 (by kernel_rfl) (by omega) _ 0 [] rfl (by exact ho.out) ⟨g,0,none⟩ l.length cap (stv l) rfl (stv_len l) (by exact hnews.out) hone.out hpos (by simp only[maxLen];omega) (by omega) (by simp) (w.heap.size+1) (by simp) ?_)
   intro g2 cap2 w' hown hgrow hat hlt2
   have hb:Below w.heap.size w w':=Below.grown ((Below.refl _ _).alloc (Nat.le_refl _) _) hgrow (by simp) (λk hk=>by
    have:w.heap.size=k:=by simpa[Value.ownBlock] using hk
    omega)
   have HO:=Hh hown
   clear hown hgrow hat
   go_wp2_with fail
   go_ret
   exact⟨_,rfl,HO.out,hb⟩
end
end
section
structure QHI (w:World)(N:Nat)(O:Nat->Prop)(R:Nat->Nat)(D DS:Nat->Prop)(X:Nat)(y:RLay)(ve vc vl:Value)(M S L n:Nat)(b:BM):Prop where
 f:RW w D X y b.fl
 s:RS w DS S X b.st
 g:Row w L 174 1 (λ_=>ve)
 e:w.ownsRow N 62 34 ve b.es.length (Ms.evs b.es)
 t:Row w M 176 5 (mgv S L vc vl b.last)
 l:w.ownsRow N 40 2 vl b.log.length (stv b.log)
 rD:∀k,D k->R k=1
 rS:∀k,DS k->R k=2
 rL:R L=3
 rE:∀k,ve.ownBlock=some k->R k=3
 rM:R M=4
 rl:∀k,vl.ownBlock=some k->R k=4
 hO:∀k,R k≠0->O k
 oN:∀k,O k->N<=k/\k<w.heap.size
 rnd:Ms.Rnd w
 h0:0<N
 hN:N<=w.heap.size
def QH (w:World)(N:Nat)(O:Nat->Prop)(M S L n:Nat)(b:BM)(vc:Value):Prop:=∃R D DS X y ve vl,QHI w N O R D DS X y ve vc vl M S L n b
section
variable {w w':World}{N M S L n:Nat}{O:Nat->Prop}{R:Nat->Nat}{D DS:Nat->Prop}{X:Nat}{y:RLay}{ve vc vl:Value}{b:BM}
theorem QHI.ch {C:Nat->Prop}(h:QHI w N O R D DS X y ve vc vl M S L n b)(c:Ch C w w')(hC:∀k,C k->R k=0/\0<k):QHI w' N O R D DS X y ve vc vl M S L n b:=by
 have hs:0<w.heap.size:=Nat.lt_of_lt_of_le h.h0 h.hN
 have key:∀{k q},R k=q+1->¬C k:=λe hk=>by have:=(hC _ hk).1;omega
 exact { h with
  f:=h.f.ch c (λk hk=>key (h.rD k hk)),s:=h.s.ch c (λk hk=>key (h.rS k hk)),g:=Row.ch h.g c (key h.rL),e:=ownN_ch h.e c (λk hk=>key (h.rE k hk)),
  t:=h.t.ch c (key h.rM),l:=ownN_ch h.l c (λk hk=>key (h.rl k hk)),
  oN:=λk hk=>⟨(h.oN k hk).1,Nat.lt_of_lt_of_le (h.oN k hk).2 c.size⟩,rnd:=rnd_ch h.rnd c (λe=>by have:=(hC 0 e).2;omega) hs,hN:=Nat.le_trans h.hN c.size }
theorem QH.ch {C:Nat->Prop}(h:QH w N O M S L n b vc)(c:Ch C w w')(hC:∀k,C k->¬O k/\0<k):QH w' N O M S L n b vc:=by
 obtain⟨R,D,DS,X,y,ve,vl,h⟩:=h
 exact⟨R,D,DS,X,y,ve,vl,h.ch c (λk hk=>⟨Classical.byContradiction λe=>(hC k hk).1 (h.hO k e),(hC k hk).2⟩)⟩
theorem QH.below (h:QH w N O M S L n b vc)(c:Below w.heap.size w w'):QH w' N O M S L n b vc:=h.ch (Ch.of_below c (λ_=>False)) (λ_ h=>h.elim)
theorem QH.c2 (h:QH w N O M S L n b vc):w.cell? ⟨M,2,none⟩=some vc:=by obtain⟨R,D,DS,X,y,ve,vl,h⟩:=h;exact h.t.cell (i:=2) (by omega)
theorem QH.frz (h:QH w N O M S L n b vc)(i:Nat):w.frozen? ⟨M,i,none⟩=false:=by obtain⟨R,D,DS,X,y,ve,vl,h⟩:=h;exact h.t.frozen i
theorem QH.OM (h:QH w N O M S L n b vc):O M:=by obtain⟨R,D,DS,X,y,ve,vl,h⟩:=h;exact h.hO M (by rw[h.rM];omega)
theorem QH.oN (h:QH w N O M S L n b vc):∀k,O k->N<=k/\k<w.heap.size:=by obtain⟨R,D,DS,X,y,ve,vl,h⟩:=h;exact h.oN
theorem QH.N_le (h:QH w N O M S L n b vc):N<=w.heap.size:=by obtain⟨R,D,DS,X,y,ve,vl,h⟩:=h;exact h.hN
theorem QW.hole (h:QW w N O M S L n b):∃vc,QH w N O M S L n b vc:=by
 obtain⟨R,D,DS,X,y,ve,vc,vl,h⟩:=h
 exact⟨vc,R,D,DS,X,y,ve,vl,⟨h.f,h.s,h.g,h.e,h.t,h.l,h.rD,h.rS,h.rL,h.rE,h.rM,h.rl,h.hO,h.oN,h.rnd,h.h0,h.hN⟩⟩
theorem QH.set (h:QH w N O M S L n b vc)(u:Value):QH (w.setCell ⟨M,2,none⟩ u) N O M S L n b u:=by
 have hM:=h.oN M h.OM
 obtain⟨R,D,DS,X,y,ve,vl,h⟩:=h
 have c:Ch (λk=>k=M) w (w.setCell ⟨M,2,none⟩ u):=(Ch.refl (λk=>k=M) w).setCell (p:=⟨M,2,none⟩) (λ_=>rfl) u
 have hs:0<w.heap.size:=Nat.lt_of_lt_of_le h.h0 h.hN
 have h0:=h.h0
 have hvl:∀k,vl.ownBlock=some k->k≠M:=λk hk e=>by
  obtain⟨hg,_⟩:=ownN_rg h.l hk
  obtain⟨cs,hh,_⟩:=hg
  obtain⟨cs',hh',_⟩:=h.t
  rw[e,hh'] at hh
  injection hh with hh
  injection hh with _ h2 _
  exact absurd h2 (by decide)
 exact⟨R,D,DS,X,y,ve,vl,{
  f:=h.f.ch c (λk hk q=>by have:=h.rD k hk;rw[q,h.rM] at this;cases this)
  s:=h.s.ch c (λk hk q=>by have:=h.rS k hk;rw[q,h.rM] at this;cases this)
  g:=Row.ch h.g c (λq=>by have:=h.rL;rw[q,h.rM] at this;cases this)
  e:=ownN_ch h.e c (λk hk q=>by have:=h.rE k hk;rw[q,h.rM] at this;cases this)
  t:=(h.t.set (i:=2) (by omega) u).congr (mgv_2 _ _ _ _ _ _)
  l:=ownN_ch h.l c (λk hk q=>hvl k hk q)
  rD:=h.rD,rS:=h.rS,rL:=h.rL,rE:=h.rE,rM:=h.rM,rl:=h.rl,hO:=h.hO
  oN:=λk hk=>⟨(h.oN k hk).1,Nat.lt_of_lt_of_le (h.oN k hk).2 c.size⟩
  rnd:=rnd_ch h.rnd c (λq=>by omega) hs
  h0:=h.h0
  hN:=Nat.le_trans h.hN c.size }⟩
theorem QH.fill (h:QH w N O M S L n b vc){l':List Int}(hu:RdI w vc l')(ho:∀g,vc.ownBlock=some g->¬O g/\N<=g):QW w N (λk=>O k\/vc.ownBlock=some k) M S L n { b with cand:=l' }:=by
 obtain⟨R,D,DS,X,y,ve,vl,h⟩:=h
 have hR0:∀g,vc.ownBlock=some g->R g=0:=λg hg=>Classical.byContradiction λe=>(ho g hg).1 (h.hO g e)
 have kp:∀{k q},R k=q->q≠0->(if vc.ownBlock=some k then 5 else R k)=q:=λ {k q} e1 e2=>by
  rw[if_neg (λe=>by have:=hR0 k e;omega)];exact e1
 refine⟨λk=>if vc.ownBlock=some k then 5 else R k,D,DS,X,y,ve,vc,vl,{
  f:=h.f,s:=h.s,g:=h.g,e:=h.e,t:=h.t,c:=hu,l:=h.l
  rD:=λk hk=>kp (h.rD k hk) (by omega)
  rS:=λk hk=>kp (h.rS k hk) (by omega)
  rL:=kp h.rL (by omega)
  rE:=λk hk=>kp (h.rE k hk) (by omega)
  rM:=kp h.rM (by omega)
  rl:=λk hk=>kp (h.rl k hk) (by omega)
  rC:=λk hk=>if_pos hk
  hO:=λk hk=>?_
  oN:=λk hk=>?_
  rnd:=h.rnd,h0:=h.h0,hN:=h.hN }⟩
 ·by_cases e:vc.ownBlock=some k
  ·exact .inr e
  ·have hk:(if vc.ownBlock=some k then 5 else R k)≠0:=hk
   rw[if_neg e] at hk;exact .inl (h.hO k hk)
 ·rcases hk with hk|hk
  ·exact h.oN k hk
  ·obtain⟨_,_,_,_,_,h3,_⟩:=hu
   exact⟨(ho k hk).2,h3 k hk⟩
end
end
section
theorem ordV_get (V:Vars):ordV V=if okO (byI (getS V nmO).1)=true then byI (getS V nmO).1 else []:=by
 unfold ordV getS
 rcases getV V nmO with _|v
 ·rfl
 ·rfl
theorem byI_take {v:Str}{i:Nat}(h:i<v.length):byI (v.take (i+1))=byI (v.take i)++[((v.getD i 0).toNat:Int)]:=by
 unfold byI
 rw[List.take_succ_eq_append_getElem h,List.map_append,List.getD_eq_getElem?_getD,List.getElem?_eq_getElem h]
 rfl
theorem QW.glen {w:World}{N M S L n:Nat}{O:Nat->Prop}{b:BM}(h:QW w N O M S L n b)(k:Str):(getS b.st.V k).1.length<=128:=by
 unfold getS
 rcases hg:getV b.st.V k with _|v
 ·exact Nat.zero_le _
 ·exact(h.hv _ (getV_in hg)).2
section
variable {w w':World}{N M S L L0 n:Nat}{O:Nat->Prop}{b:BM}
theorem rorder_any (h:QW w N O M S L n b):Calls Tryz.prog 76 #[fptr M] w (NewI w (ordV b.st.V)):=by
 have c0:=h.c0
 have hgt:=h.get ⟨#[79,114,100,101,114]⟩
 rw[show(⟨#[79,114,100,101,114]⟩:ByteArray).data.toList=nmO from rfl] at hgt
 have hvl:=h.glen nmO
 rw[ordV_get]
 generalize (getS b.st.V nmO).2=ec at *
 generalize (getS b.st.V nmO).1=v at *
 obtain⟨vb,hvb⟩:∃vb:ByteArray,str v=.string vb:=⟨_,rfl⟩
 have HVB:Hid (vb.data.toList=v):=by
  show _=_
  unfold str at hvb
  injection hvb with hvb
  rw[<-hvb]
 rw[hvb] at hgt
 have HG:=Hh hgt
 obtain⟨k,hk⟩:∃k,vb.size=k:=⟨_,rfl⟩
 have HVL:Hid (v.length=k):=by show _=_;rw[<-HVB.out,<-bsz];exact hk
 have hk128:k<=128:=by have:=HVL.out;omega
 have HO0:Hid (OwI w w.heap.size (.slice none 0 0) (byI (v.take 0))):=⟨rfl,.inl ⟨rfl,rfl⟩⟩
 have HB0:Hid (Below w.heap.size w w):=Below.refl _ _
 obtain⟨i0,hi0,hz0,hz1,hz2⟩:=info_parts Tryz.infoInt
 obtain⟨res,hres⟩:∃res,(if okO (byI v)=true then byI v else [])=res:=⟨_,rfl⟩
 have HRES:=Hh hres
 rw[hres]
 clear hvb hvl hgt h hres
 go_enter Tryz.func76,Tryz.ntmps76
 go_wp2_with fail
 refine HG.out.mono ?_
 rintro e w' ⟨rfl,rfl⟩
 clear HG c0
 go_wp2_with fail
 go_loopw [5,6] (λx z wr=>∃i:Nat,i<=k/\z=.int .i64 (i:Int)/\Hid (OwI wr w.heap.size x (byI (v.take i)))/\Hid (Below w.heap.size w wr)) (λ_ z _=>k-(intOf z).toNat)
 case atStart=>exact⟨0,by omega,rfl,HO0,HB0⟩
 case round=>
  clear HO0 HB0
  obtain⟨i,hi,rfl,HO,HB⟩:=hrel
  obtain⟨xa,xc,rfl⟩:=Ms.own_len HO.out
  have HLN:Hid ((byI (v.take i)).length=i):=by show _=_;rw[byI_len,List.length_take,HVL.out];omega
  rw[HLN.out]
  by_cases hlt:i<k
  ·have y0:(i:Int)<k:=by omega
   have hiv:i<vb.size:=by omega
   obtain⟨x,hx⟩:∃x,(vb[i]'hiv).toNat=x:=⟨_,rfl⟩
   have hx2:(v.getD i 0).toNat=x:=by rw[<-hx,ba_at,HVB.out]
   have hxb:x<256:=by rw[<-hx];exact(vb[i]'hiv).toNat_lt
   have hwx:IntKind.i64.wrap (x:Int)=(x:Int):=IntWalk.i64_in _ ⟨by omega,by omega⟩
   have HCE:Hid (byI (v.take (i+1))=byI (v.take i)++[(x:Int)]):=by
    show _=_
    rw[byI_take (by rw[HVL.out];exact hlt),hx2]
   have HC1:Hid ((wr.alloc (.cells #[.int .i64 (x:Int)] 3)).ownsRow w.heap.size 3 1 (.slice xa i xc) i (ints (byI (v.take i)))):=by
    have h9:=HO.out
    unfold OwI at h9
    rw[HLN.out] at h9
    exact ownN_ch h9 ((Ch.refl (λ_=>False) wr).alloc _) (λ_ _ h=>h)
   have HN1:Hid (∀j u,(ints [(x:Int)])[j]? = some u->(wr.alloc (.cells #[.int .i64 (x:Int)] 3)).cell? ((⟨wr.heap.size,0,none⟩:Addr).add j)=some u):=World.news_of_block (heap_alloc_new wr _) |> λh=>h
   have HB3:Hid (Below w.heap.size w (wr.alloc (.cells #[.int .i64 (x:Int)] 3))):=HB.out.alloc HB.out.size _
   have hsw:w.heap.size<=wr.heap.size:=HB.out.size
   clear HO HB hx2
   go_wp2_with (at_builtin;refine wpList_append_lies _ rfl _ _ 36 rfl w.heap.size 3 i0 _ 1 8 Tryz.underlying36 hi0 hz0 hz1 hz2 (by kernel_rfl) (by omega) _ i (ints (byI (v.take i))) rfl (by exact HC1.out) ⟨wr.heap.size,0,none⟩ 1 1 (ints [(x:Int)]) rfl rfl (by exact HN1.out) (ints_one _) (by omega) (by simp only[maxLen];omega) (by omega) (by simp;omega) (wr.heap.size+1) (by simp) ?_)
   intro g2 cap2 w5 hown5 hgrow5 hat5 hlt5
   have HB5:Hid (Below w.heap.size w w5):=Below.grown HB3.out hgrow5 (by simp;omega) (λk hk=>(HC1.out.lt k hk).1)
   have HC5:Hid (OwI w5 w.heap.size (.slice (some ⟨g2,0,none⟩) (i+1) cap2) (byI (v.take (i+1)))):=by
    rw[HCE.out]
    show World.ownsRow _ _ _ _ _ _ _
    rw[ints_snoc,List.length_append,HLN.out]
    exact hown5
   clear hown5 hgrow5 hat5 hlt5 HC1 HN1 HB3 HCE
   go_wp2_with fail
   go_roundw
   case rel=>exact⟨i+1,by omega,by go_num,HC5,HB5⟩
   case measure=>simp[intOf];omega
  ·have ei:i=k:=by omega
   subst ei
   have y0:¬(i:Int)<i:=by omega
   have htk:v.take i=v:=List.take_of_length_le (by rw[HVL.out];omega)
   have HOW:Hid (OwI wr w.heap.size (.slice xa i xc) (byI v)):=by
    have h9:=HO.out
    have hL2:=HLN.out
    rw[htk] at h9 hL2
    rw[hL2] at h9
    exact h9
   have hrd:=HOW.out.rd
   have hdi:=rdistinct_any hrd.j (by rw[byI_len,HVL.out];omega)
   clear HO htk
   obtain⟨q,hq⟩:∃q,okO (byI v)=q:=⟨_,rfl⟩
   have HRD:=Hh hrd
   rw[hq] at hdi
   have HRE:Hid (res=if q=true then byI v else []):=by
    show _=_
    rw[<-HRES.out,hq]
   have HDI:=Hh hdi
   clear hdi hrd hq
   go_wp2_with fail
   refine HDI.out.mono ?_
   rintro e w7 ⟨rfl,b7⟩
   have HR7:=Hh (HRD.out.below b7)
   have HB7:Hid (Below w.heap.size w w7):=HB.out.trans (b7.mono HB.out.size)
   have HLT:Hid (∀g,(Value.slice xa i xc).ownBlock=some g->w.heap.size<=g):=λg hg=>(HOW.out.lt g hg).1
   clear b7 HDI HRD HOW HB
   cases q
   ·go_wp2_with fail
    go_ret
    rw[show res=[] by rw[HRE.out];rfl]
    exact NewI.nil HB7.out
   ·go_wp2_with fail
    go_ret
    rw[show res=byI v by rw[HRE.out];rfl]
    exact⟨_,rfl,HR7.out,HLT.out,HB7.out⟩
theorem rsetOrder_any (h:QW w N O M S L0 n b)(hb:b.st.blk<b.fl.B){v:Value}{l:List Int}(hv:RdJ w v l):Calls Tryz.prog 69 #[fptr M,v] w (QMR w N O M S L0 (n+1) (setOrderB b l)):=by
 obtain⟨a,c,rfl,h1,h2⟩:=hv.shape
 have HV:=Hh hv
 have HW0:=Hh h
 have HWP:Hid (0<w.heap.size):=h.pos
 have HON:Hid (∀k,O k->k<w.heap.size):=λk hk=>(h.oN k hk).2
 unfold setOrderB
 obtain⟨L,hL⟩:∃L,l.length=L:=⟨_,rfl⟩
 have HLL:=Hh hL
 rw[hL] at HV h1 ⊢
 clear h hv hL
 by_cases h16:16<L
 ·have h16I:(L:Int) > 16:=by omega
  have hf:okO l=false:=by
   cases hq:okO l
   ·rfl
   ·have:=okO_len hq;rw[HLL.out] at this;omega
  rw[hf,if_neg (by decide)]
  clear hf
  go_enter Tryz.func69,Tryz.ntmps69
  go_wp2_with fail
  go_ret
  exact QMR.no HW0.out (Below.refl _ _)
 have h16I:¬(L:Int) > 16:=by omega
 have HDI:=Hh (rdistinct_any HV.out (by rw[HLL.out];omega))
 obtain⟨q,hq⟩:∃q,okO l=q:=⟨_,rfl⟩
 rw[hq] at HDI ⊢
 have HQ:=Hh hq
 clear hq
 cases q
 ·rw[if_neg (by decide)]
  go_enter Tryz.func69,Tryz.ntmps69
  go_wp2_with fail
  refine HDI.out.mono ?_
  rintro e w7 ⟨rfl,b7⟩
  have HW7:=Hh (HW0.out.below b7)
  have HB7:=Hh b7
  clear b7 HDI
  go_wp2_with fail
  go_ret
  exact QMR.no HW7.out HB7.out
 ·rw[if_pos rfl]
  obtain⟨i0,hi0,hz0,hz1,hz2⟩:=info_parts Tryz.infoU
  go_enter Tryz.func69,Tryz.ntmps69
  go_wp2_with fail
  refine HDI.out.mono ?_
  rintro e w7 ⟨rfl,b7⟩
  have HW7:=Hh (HW0.out.below b7)
  have HB7:=Hh b7
  have HO0:Hid (w7.ownsRow w.heap.size 5 1 (.slice none 0 0) 0 (bys' (ordS (l.take 0)))):=⟨rfl,.inl ⟨rfl,rfl⟩⟩
  clear b7 HDI HW0
  go_wp2_with fail
  go_loopw [5,6] (λx z wr=>∃i:Nat,i<=L/\z=.int .i64 (i:Int)/\Hid (wr.ownsRow w.heap.size 5 1 x i (bys' (ordS (l.take i))))/\Hid (QW wr N O M S L0 n b)/\Hid (Below w.heap.size w wr)) (λ_ z _=>L-(intOf z).toNat)
  case atStart=>exact⟨0,by omega,rfl,HO0,HW7,HB7⟩
  case round=>
   clear HO0 HW7 HB7
   obtain⟨i,hi,rfl,HO,HW,HB⟩:=hrel
   obtain⟨xa,xc,rfl⟩:=Ms.own_len HO.out
   by_cases hlt:i<L
   ·have y0:(i:Int)<L:=by omega
    have hil:i<l.length:=by rw[HLL.out];exact hlt
    obtain⟨g,o,c',e,_,_,hc⟩:=(HV.out.below HB.out (Nat.le_refl _)).cellAt hil
    rw[HLL.out] at e
    injection e with e1 _ e3
    subst e1 e3
    have hid:=isId_iff.1 (okO_id HQ.out _ (List.getElem_mem hil))
    obtain⟨x,hx⟩:∃x:Nat,l[i]=(x:Int):=⟨(l[i]).toNat,by omega⟩
    have hx16:x<16:=by omega
    rw[hx] at hc
    have hwx:IntKind.u8.wrap (x:Int)=(x:Int):=IntWalk.u8_in _ ⟨by omega,by omega⟩
    have HCE:Hid (ordS (l.take (i+1))=ordS (l.take i)++[UInt8.ofNat x]):=by
     show _=_
     unfold ordS
     rw[List.take_succ_eq_append_getElem hil,List.map_append,hx]
     rfl
    have HLN:Hid ((ordS (l.take i)).length=i):=by show _=_;rw[ordS_len,List.length_take,HLL.out];omega
    have HC1:Hid ((wr.alloc (.cells #[.int .u8 (x:Int)] 5)).ownsRow w.heap.size 5 1 (.slice xa i xc) i (bys' (ordS (l.take i)))):=ownN_ch HO.out ((Ch.refl (λ_=>False) wr).alloc _) (λ_ _ h=>h)
    have HN1:Hid (∀j u,(bys' [UInt8.ofNat x])[j]? = some u->(wr.alloc (.cells #[.int .u8 (x:Int)] 5)).cell? ((⟨wr.heap.size,0,none⟩:Addr).add j)=some u):=World.news_of_block (heap_alloc_new wr _) |> λh=>by
     have e:bys' [UInt8.ofNat x]=(#[.int .u8 (x:Int)]:Array Value).toList:=by
      show [Value.int .u8 ((UInt8.ofNat x).toNat:Int)]=_
      rw[u8_of (by omega)]
     rw[e];exact h
    have hal:Below wr.heap.size wr (wr.alloc (.cells #[.int .u8 (x:Int)] 5)):=(Below.refl _ _).alloc (Nat.le_refl _) _
    have HB3:Hid (Below w.heap.size w (wr.alloc (.cells #[.int .u8 (x:Int)] 5))):=HB.out.trans (hal.mono HB.out.size)
    have HW3:=Hh (HW.out.below hal)
    have hsw:w.heap.size<=wr.heap.size:=HB.out.size
    clear HO HB HW hal hx hid
    go_wp2_with (at_builtin;refine wpList_append_lies _ rfl _ _ 99 rfl w.heap.size 5 i0 _ 1 1 Tryz.underlying99 hi0 hz0 hz1 hz2 (by kernel_rfl) (by omega) _ i (bys' (ordS (l.take i))) rfl (by exact HC1.out) ⟨wr.heap.size,0,none⟩ 1 1 (bys' [UInt8.ofNat x]) rfl rfl (by exact HN1.out) (bys'_one _) (by omega) (by simp only[maxLen];omega) (by omega) (by simp;omega) (wr.heap.size+1) (by simp) ?_)
    intro g2 cap2 w5 hown5 hgrow5 hat5 hlt5
    have HB5:Hid (Below w.heap.size w w5):=Below.grown HB3.out hgrow5 (by simp;omega) (λk hk=>(HC1.out.lt k hk).1)
    have HW5:Hid (QW w5 N O M S L0 n b):=HW3.out.ch (Ch.of_grown (C:=λk=>w.heap.size<=k) hgrow5 (λk hk _=>(HC1.out.lt k hk).1)) (λk hk=>⟨λq=>by have:=HON.out k q;omega,by have:=HW3.out.N_le;have:=HWP.out;omega⟩)
    have HC5:Hid (w5.ownsRow w.heap.size 5 1 (.slice (some ⟨g2,0,none⟩) (i+1) cap2) (i+1) (bys' (ordS (l.take (i+1))))):=by
     rw[HCE.out]
     show World.ownsRow _ _ _ _ _ _ _
     unfold bys'
     rw[List.map_append]
     exact hown5
    clear hown5 hgrow5 hat5 hlt5 HC1 HN1 HB3 HCE HW3
    go_wp2_with fail
    go_roundw
    case rel=>exact⟨i+1,by omega,by go_num,HC5,HW5,HB5⟩
    case measure=>simp[intOf];omega
   ·have ei:i=L:=by omega
    subst ei
    have y0:¬(i:Int)<i:=by omega
    have htk:l.take i=l:=List.take_of_length_le (by rw[HLL.out];omega)
    have h9:=HO.out
    rw[htk] at h9
    clear htk HO
    rcases h9.2 with ⟨e,e2⟩|⟨g,cap,cur,e,_,_,_,_,_,_⟩
    ·injection e with e1 _ e3
     subst e1 e3
     have e0:i=0:=e2
     subst e0
     have hl0:l=[]:=List.eq_nil_of_length_eq_zero HLL.out
     subst hl0
     clear h9 e2
     have S1:Hid (wr.drew.cell? ⟨M,0,none⟩=some (fptr S)):=HW.out.drew.c0
     have HWd:=Hh (HW.out.below ((Below.refl _ _).drew))
     have HBd:Hid (Below w.heap.size w wr.drew):=HB.out.drew
     have HST:=Hh (HWd.out.setB hb (ke:=⟨#[79,114,100,101,114]⟩) (va:=⟨#[]⟩) (k:=nmO) (v:=ordS []) (by decide) (by decide) rfl rfl)
     clear HW HB
     go_wp2_with fail
     refine wp_region_pl (λ Y=>Y.cell? ⟨M,0,none⟩=some (fptr S)) ((0,0)::(1,0)::(2,0)::(3,0)::(4,0)::(5,0)::(6,1)::(7,0)::[]) (by kernel_rfl) (by kernel_rfl) ?_
     generalize wr.drew=w2 at *
     iterate 6 (apply wpP_go;rfl;rfl;exact S1.out;(rintro Y m0;go_simp;exact rfl);intro K hK;go_simp;refine hK _ ?_;clear hK K)
     apply wpP_one
     rfl
     intro K hK
     go_simp
     refine HST.out.mono ?_
     rintro e w5 ⟨rfl,hl⟩
     have HLf:=Hh hl
     have S4:Hid (w5.cell? ⟨M,0,none⟩=some (fptr S)):=by
      obtain⟨O',_,q2,q3⟩:=hl
      exact q2.c0
     refine hK _ _ S4.out ?_
     clear hK K hl S1 HST
     iterate 1 (apply wpP_go;rfl;rfl;exact S4.out;(rintro Y m0;go_simp;exact rfl);intro K hK;go_simp;refine hK _ ?_;clear hK K)
     refine wpP_done ?_
     clear S4
     go_wp2_with fail
     go_ret
     exact⟨rfl,HLf.out.after HBd.out⟩
    ·injection e with e1 _ e3
     subst e1 e3
     have HRG:=Hh (own_bys h9 (by rw[ordS_len,HLL.out]))
     have HGW:Hid (w.heap.size<=g):=(h9.lt g rfl).1
     clear h9
     have S1:Hid (wr.drew.cell? ⟨M,0,none⟩=some (fptr S)/\Rg wr.drew g 5 i (λj=>.int .u8 (((ordS l).getD j 0).toNat:Int))):=⟨HW.out.drew.c0,HRG.out⟩
     have HWd:=Hh (HW.out.below ((Below.refl _ _).drew))
     have HBd:Hid (Below w.heap.size w wr.drew):=HB.out.drew
     have HST:=Hh (HWd.out.setB hb (ke:=⟨#[79,114,100,101,114]⟩) (va:=⟨(ordS l).toArray⟩) (k:=nmO) (v:=ordS l) (by decide) (by rw[bsz];show(ordS l).toArray.toList.length<=_;rw[List.toList_toArray,ordS_len,HLL.out];omega) rfl (by show(ordS l).toArray.toList=_;rw[List.toList_toArray]))
     clear HW HB
     go_wp2_with fail
     refine wp_region_pl (λ Y=>Y.cell? ⟨M,0,none⟩=some (fptr S)/\Rg Y g 5 i (λj=>.int .u8 (((ordS l).getD j 0).toNat:Int))) ((0,0)::(1,0)::(2,0)::(3,0)::(4,0)::(5,0)::(6,1)::(7,0)::[]) (by kernel_rfl) (by kernel_rfl) ?_
     generalize wr.drew=w2 at *
     iterate 6 (apply wpP_go;rfl;rfl;exact S1.out;(rintro Y ⟨m0,r0⟩;have cv:=conv_rg (c:=xc) r0 (by rw[ordS_len,HLL.out]);go_simp;exact rfl);intro K hK;go_simp;refine hK _ ?_;clear hK K)
     apply wpP_one
     rfl
     intro K hK
     go_simp
     refine HST.out.mono ?_
     rintro e w5 ⟨rfl,hl⟩
     have HLf:=Hh hl
     have S4:Hid (w5.cell? ⟨M,0,none⟩=some (fptr S)/\Rg w5 g 5 i (λj=>.int .u8 (((ordS l).getD j 0).toNat:Int))):=by
      obtain⟨O',_,q2,q3⟩:=hl
      exact⟨q2.c0,S1.out.2.ch q3 (λq=>by have:=HON.out g q;have:=HGW.out;omega)⟩
     refine hK _ _ S4.out ?_
     clear hK K hl S1 HST
     iterate 1 (apply wpP_go;rfl;rfl;exact S4.out;(rintro Y ⟨m0,r0⟩;go_simp;exact rfl);intro K hK;go_simp;refine hK _ ?_;clear hK K)
     refine wpP_done ?_
     clear S4
     go_wp2_with fail
     go_ret
     exact⟨rfl,HLf.out.after HBd.out⟩
end
end
end Go.Proofs.YtdinbpdpalgohaaGreatDoor
