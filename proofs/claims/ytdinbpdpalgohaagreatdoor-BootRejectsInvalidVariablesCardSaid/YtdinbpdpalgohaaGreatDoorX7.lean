/- Walks and laws: MsA MsP MsB MsC MsD MsE MsH MsV. Conditions: those that each theorem names. -/
import Derived.Deep.QuietTactic
import Derived.BigQuiet
import Derived.RegionTactic
import Derived.Deep.MidRow
import Derived.Deep.DeepCutAuto
import Derived.Deep.RegionWith
import Derived.Laws.BitsAllLaws
import Derived.Laws.BitsLemmas
import Derived.ArgAppend
import Derived.Laws.IdiomStrings
import Derived.OwnWalk
import Derived.Lib.IndexBytes
import Derived.Laws.Rows
import Derived.StillTailTactics
import Derived.Deep.DrawnRows
import Derived.Test.YtdinbpdpalgohaaGreatDoorX1
set_option maxHeartbeats 4000000
set_option maxRecDepth 100000
namespace Go.Proofs.YtdinbpdpalgohaaGreatDoor
open Go.RowKit
namespace Ms
def U (x:Int):Prop:=0<=x/\x<=4294967295
def or3 (a b:Int):Int:=bits .or .u32 a b
def xo3 (a b:Int):Int:=bits .xor .u32 a b
def an3 (a b:Int):Int:=bits .and .u32 a b
def ad3 (a b:Int):Int:=(a+b)%4294967296
def rr (d m:Int)(x:Int):Int:=bits .or .u32 (x/d) (x*m%4294967296)
theorem nat_of {x:Int}(h:U x):∃n:Nat,x=n/\n<4294967296:=by
 obtain⟨n,rfl⟩:=Int.eq_ofNat_of_zero_le h.1
 exact⟨n,rfl,by have:=h.2;omega⟩
theorem or3_u {a b:Int}(ha:U a)(hb:U b):U (or3 a b):=by
 obtain⟨m,rfl,hm⟩:=nat_of ha
 obtain⟨n,rfl,hn⟩:=nat_of hb
 unfold or3;rw[u32_or_nat m n hm hn]
 have:m ||| n<2^32:=Nat.or_lt_two_pow (by omega) (by omega)
 unfold U;omega
theorem ad3_u (a b:Int):U (ad3 a b):=by unfold U ad3;omega
theorem or3_comm {a b:Int}(ha:U a)(hb:U b):or3 a b=or3 b a:=by
 obtain⟨m,rfl,hm⟩:=nat_of ha
 obtain⟨n,rfl,hn⟩:=nat_of hb
 unfold or3;rw[u32_or_nat m n hm hn,u32_or_nat n m hn hm,Nat.or_comm]
theorem rr_u {d m x:Int}(hd:1<=d)(hx:U x):U (rr d m x):=by
 refine or3_u ⟨Int.ediv_nonneg hx.1 (by omega),?_⟩ ⟨?_,?_⟩
 ·exact Int.le_trans (Int.ediv_le_self _ hx.1) hx.2
 ·omega
 ·omega
theorem rr_swap {d m x:Int}(hd:1<=d)(hx:U x):bits .or .u32 (x*m%4294967296) (x/d)=rr d m x:=by
 refine or3_comm ⟨?_,?_⟩ ⟨Int.ediv_nonneg hx.1 (by omega),?_⟩
 ·omega
 ·omega
 ·exact Int.le_trans (Int.ediv_le_self _ hx.1) hx.2
theorem rot7 (x:Int)(w:World)(hx:U x):Calls Tryz.prog 116 #[.int .u32 x,.int .i64 (-7)] w λe w'=>e=.returned (.int .u32 (rr 128 33554432 x))/\w=w':=by
 have e:bits BinOp.and IntKind.u64 (IntKind.u64.wrap (-7)) 31=25:=by kernel_rfl
 have HX:=Hh (rr_swap (d:=128) (m:=33554432) (by omega) hx)
 obtain⟨h0,h1⟩:=hx
 go_enter Tryz.func116,Tryz.ntmps116
 go_wp2
 go_ret
 exact⟨ret_int HX.out,rfl⟩
theorem ref7 (x:Int)(w:World)(hx:U x):Calls Tryz.prog 152 #[.int .u32 x,.int .u64 7] w λe w'=>e=.returned (.int .u32 (rr 128 33554432 x))/\w=w':=by
 obtain⟨h0,h1⟩:=hx
 go_enter Tryz.func152,Tryz.ntmps152
 go_wp2
 go_ret
 exact⟨rfl,rfl⟩
theorem rot18 (x:Int)(w:World)(hx:U x):Calls Tryz.prog 116 #[.int .u32 x,.int .i64 (-18)] w λe w'=>e=.returned (.int .u32 (rr 262144 16384 x))/\w=w':=by
 have e:bits BinOp.and IntKind.u64 (IntKind.u64.wrap (-18)) 31=14:=by kernel_rfl
 have HX:=Hh (rr_swap (d:=262144) (m:=16384) (by omega) hx)
 obtain⟨h0,h1⟩:=hx
 go_enter Tryz.func116,Tryz.ntmps116
 go_wp2
 go_ret
 exact⟨ret_int HX.out,rfl⟩
theorem ref18 (x:Int)(w:World)(hx:U x):Calls Tryz.prog 152 #[.int .u32 x,.int .u64 18] w λe w'=>e=.returned (.int .u32 (rr 262144 16384 x))/\w=w':=by
 obtain⟨h0,h1⟩:=hx
 go_enter Tryz.func152,Tryz.ntmps152
 go_wp2
 go_ret
 exact⟨rfl,rfl⟩
theorem rot17 (x:Int)(w:World)(hx:U x):Calls Tryz.prog 116 #[.int .u32 x,.int .i64 (-17)] w λe w'=>e=.returned (.int .u32 (rr 131072 32768 x))/\w=w':=by
 have e:bits BinOp.and IntKind.u64 (IntKind.u64.wrap (-17)) 31=15:=by kernel_rfl
 have HX:=Hh (rr_swap (d:=131072) (m:=32768) (by omega) hx)
 obtain⟨h0,h1⟩:=hx
 go_enter Tryz.func116,Tryz.ntmps116
 go_wp2
 go_ret
 exact⟨ret_int HX.out,rfl⟩
theorem ref17 (x:Int)(w:World)(hx:U x):Calls Tryz.prog 152 #[.int .u32 x,.int .u64 17] w λe w'=>e=.returned (.int .u32 (rr 131072 32768 x))/\w=w':=by
 obtain⟨h0,h1⟩:=hx
 go_enter Tryz.func152,Tryz.ntmps152
 go_wp2
 go_ret
 exact⟨rfl,rfl⟩
theorem rot19 (x:Int)(w:World)(hx:U x):Calls Tryz.prog 116 #[.int .u32 x,.int .i64 (-19)] w λe w'=>e=.returned (.int .u32 (rr 524288 8192 x))/\w=w':=by
 have e:bits BinOp.and IntKind.u64 (IntKind.u64.wrap (-19)) 31=13:=by kernel_rfl
 have HX:=Hh (rr_swap (d:=524288) (m:=8192) (by omega) hx)
 obtain⟨h0,h1⟩:=hx
 go_enter Tryz.func116,Tryz.ntmps116
 go_wp2
 go_ret
 exact⟨ret_int HX.out,rfl⟩
theorem ref19 (x:Int)(w:World)(hx:U x):Calls Tryz.prog 152 #[.int .u32 x,.int .u64 19] w λe w'=>e=.returned (.int .u32 (rr 524288 8192 x))/\w=w':=by
 obtain⟨h0,h1⟩:=hx
 go_enter Tryz.func152,Tryz.ntmps152
 go_wp2
 go_ret
 exact⟨rfl,rfl⟩
theorem rot6 (x:Int)(w:World)(hx:U x):Calls Tryz.prog 116 #[.int .u32 x,.int .i64 (-6)] w λe w'=>e=.returned (.int .u32 (rr 64 67108864 x))/\w=w':=by
 have e:bits BinOp.and IntKind.u64 (IntKind.u64.wrap (-6)) 31=26:=by kernel_rfl
 have HX:=Hh (rr_swap (d:=64) (m:=67108864) (by omega) hx)
 obtain⟨h0,h1⟩:=hx
 go_enter Tryz.func116,Tryz.ntmps116
 go_wp2
 go_ret
 exact⟨ret_int HX.out,rfl⟩
theorem ref6 (x:Int)(w:World)(hx:U x):Calls Tryz.prog 152 #[.int .u32 x,.int .u64 6] w λe w'=>e=.returned (.int .u32 (rr 64 67108864 x))/\w=w':=by
 obtain⟨h0,h1⟩:=hx
 go_enter Tryz.func152,Tryz.ntmps152
 go_wp2
 go_ret
 exact⟨rfl,rfl⟩
theorem rot11 (x:Int)(w:World)(hx:U x):Calls Tryz.prog 116 #[.int .u32 x,.int .i64 (-11)] w λe w'=>e=.returned (.int .u32 (rr 2048 2097152 x))/\w=w':=by
 have e:bits BinOp.and IntKind.u64 (IntKind.u64.wrap (-11)) 31=21:=by kernel_rfl
 have HX:=Hh (rr_swap (d:=2048) (m:=2097152) (by omega) hx)
 obtain⟨h0,h1⟩:=hx
 go_enter Tryz.func116,Tryz.ntmps116
 go_wp2
 go_ret
 exact⟨ret_int HX.out,rfl⟩
theorem ref11 (x:Int)(w:World)(hx:U x):Calls Tryz.prog 152 #[.int .u32 x,.int .u64 11] w λe w'=>e=.returned (.int .u32 (rr 2048 2097152 x))/\w=w':=by
 obtain⟨h0,h1⟩:=hx
 go_enter Tryz.func152,Tryz.ntmps152
 go_wp2
 go_ret
 exact⟨rfl,rfl⟩
theorem rot25 (x:Int)(w:World)(hx:U x):Calls Tryz.prog 116 #[.int .u32 x,.int .i64 (-25)] w λe w'=>e=.returned (.int .u32 (rr 33554432 128 x))/\w=w':=by
 have e:bits BinOp.and IntKind.u64 (IntKind.u64.wrap (-25)) 31=7:=by kernel_rfl
 have HX:=Hh (rr_swap (d:=33554432) (m:=128) (by omega) hx)
 obtain⟨h0,h1⟩:=hx
 go_enter Tryz.func116,Tryz.ntmps116
 go_wp2
 go_ret
 exact⟨ret_int HX.out,rfl⟩
theorem ref25 (x:Int)(w:World)(hx:U x):Calls Tryz.prog 152 #[.int .u32 x,.int .u64 25] w λe w'=>e=.returned (.int .u32 (rr 33554432 128 x))/\w=w':=by
 obtain⟨h0,h1⟩:=hx
 go_enter Tryz.func152,Tryz.ntmps152
 go_wp2
 go_ret
 exact⟨rfl,rfl⟩
theorem rot2 (x:Int)(w:World)(hx:U x):Calls Tryz.prog 116 #[.int .u32 x,.int .i64 (-2)] w λe w'=>e=.returned (.int .u32 (rr 4 1073741824 x))/\w=w':=by
 have e:bits BinOp.and IntKind.u64 (IntKind.u64.wrap (-2)) 31=30:=by kernel_rfl
 have HX:=Hh (rr_swap (d:=4) (m:=1073741824) (by omega) hx)
 obtain⟨h0,h1⟩:=hx
 go_enter Tryz.func116,Tryz.ntmps116
 go_wp2
 go_ret
 exact⟨ret_int HX.out,rfl⟩
theorem ref2 (x:Int)(w:World)(hx:U x):Calls Tryz.prog 152 #[.int .u32 x,.int .u64 2] w λe w'=>e=.returned (.int .u32 (rr 4 1073741824 x))/\w=w':=by
 obtain⟨h0,h1⟩:=hx
 go_enter Tryz.func152,Tryz.ntmps152
 go_wp2
 go_ret
 exact⟨rfl,rfl⟩
theorem rot13 (x:Int)(w:World)(hx:U x):Calls Tryz.prog 116 #[.int .u32 x,.int .i64 (-13)] w λe w'=>e=.returned (.int .u32 (rr 8192 524288 x))/\w=w':=by
 have e:bits BinOp.and IntKind.u64 (IntKind.u64.wrap (-13)) 31=19:=by kernel_rfl
 have HX:=Hh (rr_swap (d:=8192) (m:=524288) (by omega) hx)
 obtain⟨h0,h1⟩:=hx
 go_enter Tryz.func116,Tryz.ntmps116
 go_wp2
 go_ret
 exact⟨ret_int HX.out,rfl⟩
theorem ref13 (x:Int)(w:World)(hx:U x):Calls Tryz.prog 152 #[.int .u32 x,.int .u64 13] w λe w'=>e=.returned (.int .u32 (rr 8192 524288 x))/\w=w':=by
 obtain⟨h0,h1⟩:=hx
 go_enter Tryz.func152,Tryz.ntmps152
 go_wp2
 go_ret
 exact⟨rfl,rfl⟩
theorem rot22 (x:Int)(w:World)(hx:U x):Calls Tryz.prog 116 #[.int .u32 x,.int .i64 (-22)] w λe w'=>e=.returned (.int .u32 (rr 4194304 1024 x))/\w=w':=by
 have e:bits BinOp.and IntKind.u64 (IntKind.u64.wrap (-22)) 31=10:=by kernel_rfl
 have HX:=Hh (rr_swap (d:=4194304) (m:=1024) (by omega) hx)
 obtain⟨h0,h1⟩:=hx
 go_enter Tryz.func116,Tryz.ntmps116
 go_wp2
 go_ret
 exact⟨ret_int HX.out,rfl⟩
theorem ref22 (x:Int)(w:World)(hx:U x):Calls Tryz.prog 152 #[.int .u32 x,.int .u64 22] w λe w'=>e=.returned (.int .u32 (rr 4194304 1024 x))/\w=w':=by
 obtain⟨h0,h1⟩:=hx
 go_enter Tryz.func152,Tryz.ntmps152
 go_wp2
 go_ret
 exact⟨rfl,rfl⟩
end Ms
namespace Ms
def bt (s:List UInt8)(i:Nat):Int:=((s.getD i 0).toNat:Int)
theorem bt_bd (s:List UInt8)(i:Nat):0<=bt s i/\bt s i<=255:=by
 unfold bt;have:=(s.getD i 0).toNat_lt;omega
def wd (s:List UInt8)(k:Nat):Int:=or3 (or3 (or3 (bt s (4*k)*16777216) (bt s (4*k+1)*65536)) (bt s (4*k+2)*256)) (bt s (4*k+3))
theorem wd_u (s:List UInt8)(k:Nat):U (wd s k):=by
 have h0:=bt_bd s (4*k)
 have h1:=bt_bd s (4*k+1)
 have h2:=bt_bd s (4*k+2)
 have h3:=bt_bd s (4*k+3)
 exact or3_u (or3_u (or3_u ⟨by omega,by omega⟩ ⟨by omega,by omega⟩) ⟨by omega,by omega⟩) ⟨by omega,by omega⟩
def sg0 (x:Int):Int:=xo3 (xo3 (rr 128 33554432 x) (rr 262144 16384 x)) (x/8)
def sg1 (x:Int):Int:=xo3 (xo3 (rr 131072 32768 x) (rr 524288 8192 x)) (x/1024)
def nx (a b c d:Int):Int:=ad3 (ad3 (ad3 a (sg0 b)) c) (sg1 d)
def sched (s:List UInt8):Nat->List Int
 | 0=>[]
 | n+1=>sched s n++[if n<16 then wd s n else nx ((sched s n).getD (n-16) 0) ((sched s n).getD (n-15) 0) ((sched s n).getD (n-7) 0) ((sched s n).getD (n-2) 0)]
theorem sched_len (s:List UInt8)(n:Nat):(sched s n).length=n:=by
 induction n with
 | zero=>rfl
 | succ n ih=>simp[sched,ih]
def sw (s:List UInt8)(i:Nat):Int:=(sched s 64).getD i 0
theorem sched_more (s:List UInt8)(n m i:Nat)(hi:i<n):(sched s (n+m)).getD i 0=(sched s n).getD i 0:=by
 induction m with
 | zero=>rfl
 | succ m ih=>
  show(sched s (n+m)++_).getD i 0=_
  rw[List.getD_eq_getElem?_getD,List.getElem?_append_left (by rw[sched_len];omega),<-List.getD_eq_getElem?_getD,ih]
theorem sched_at (s:List UInt8)(n i:Nat)(hi:i<n)(hn:n<=64):(sched s n).getD i 0=sw s i:=by
 have:=sched_more s n (64-n) i hi
 rw[show n+(64-n)=64 by omega] at this
 exact this.symm
theorem sw_last (s:List UInt8)(n:Nat)(hn:n<64):sw s n=if n<16 then wd s n else nx (sw s (n-16)) (sw s (n-15)) (sw s (n-7)) (sw s (n-2)):=by
 rw[<-sched_at s (n+1) n (by omega) (by omega)]
 show(sched s n++[_]).getD n 0=_
 rw[List.getD_eq_getElem?_getD,List.getElem?_append_right (by rw[sched_len];omega),sched_len]
 simp only[Nat.sub_self,List.getElem?_cons_zero,Option.getD_some]
 by_cases h:n<16
 ·rw[if_pos h,if_pos h]
 ·rw[if_neg h,if_neg h,sched_at s n _ (by omega) (by omega),sched_at s n _ (by omega) (by omega),sched_at s n _ (by omega) (by omega),sched_at s n _ (by omega) (by omega)]
theorem sw_u (s:List UInt8)(n:Nat)(hn:n<64):U (sw s n):=by
 rw[sw_last s n hn];split
 ·exact wd_u s n
 ·exact ad3_u _ _
structure S8 where
 a:Int
 b:Int
 c:Int
 d:Int
 e:Int
 f:Int
 g:Int
 h:Int
def S8.u (x:S8):Prop:=U x.a/\U x.b/\U x.c/\U x.d/\U x.e/\U x.f/\U x.g/\U x.h
def S8.get (x:S8):Nat->Int
 | 0=>x.a
 | 1=>x.b
 | 2=>x.c
 | 3=>x.d
 | 4=>x.e
 | 5=>x.f
 | 6=>x.g
 | _=>x.h
def bs1 (e:Int):Int:=xo3 (xo3 (rr 64 67108864 e) (rr 2048 2097152 e)) (rr 33554432 128 e)
def bs0 (a:Int):Int:=xo3 (xo3 (rr 4 1073741824 a) (rr 8192 524288 a)) (rr 4194304 1024 a)
def chc (e f g:Int):Int:=xo3 (an3 e f) (an3 (xo3 4294967295 e) g)
def maj (a b c:Int):Int:=xo3 (xo3 (an3 a b) (an3 a c)) (an3 b c)
def t1 (k w:Int)(x:S8):Int:=ad3 (ad3 (ad3 (ad3 x.h (bs1 x.e)) (chc x.e x.f x.g)) k) w
def t2 (x:S8):Int:=ad3 (bs0 x.a) (maj x.a x.b x.c)
def stp (k w:Int)(x:S8):S8:=⟨ad3 (t1 k w x) (t2 x),x.a,x.b,x.c,ad3 x.d (t1 k w x),x.e,x.f,x.g⟩
theorem stp_u {k w:Int}{x:S8}(h:x.u):(stp k w x).u:=⟨ad3_u _ _,h.1,h.2.1,h.2.2.1,ad3_u _ _,h.2.2.2.2.1,h.2.2.2.2.2.1,h.2.2.2.2.2.2.1⟩
def rnds (K W:Nat->Int)(x:S8):Nat->S8
 | 0=>x
 | n+1=>stp (K n) (W n) (rnds K W x n)
theorem rnds_u {K W:Nat->Int}{x:S8}(h:x.u)(n:Nat):(rnds K W x n).u:=by
 induction n with
 | zero=>exact h
 | succ n ih=>exact stp_u ih
def rcs:List Int:=[1116352408,1899447441,3049323471,3921009573,961987163,1508970993,2453635748,2870763221,3624381080,310598401,607225278,1426881987,1925078388,2162078206,2614888103,3248222580,3835390401,4022224774,264347078,604807628,770255983,1249150122,1555081692,1996064986,2554220882,2821834349,2952996808,3210313671,3336571891,3584528711,113926993,338241895,666307205,773529912,1294757372,1396182291,1695183700,1986661051,2177026350,2456956037,2730485921,2820302411,3259730800,3345764771,3516065817,3600352804,4094571909,275423344,430227734,506948616,659060556,883997877,958139571,1322822218,1537002063,1747873779,1955562222,2024104815,2227730452,2361852424,2428436474,2756734187,3204031479,3329325298]
def rc (i:Nat):Int:=rcs.getD i 0
theorem rcs_u:∀x∈rcs,U x:=by
 have h:(rcs.all λx=>decide (0<=x)&&decide (x<=4294967295))=true:=by decide
 intro x hx
 have:=List.all_eq_true.1 h x hx
 simpa[U] using this
theorem rc_u (i:Nat):U (rc i):=by
 unfold rc
 rw[List.getD_eq_getElem?_getD]
 rcases h:rcs[i]? with _|x
 ·exact⟨by simp,by simp⟩
 ·exact rcs_u x (List.mem_of_getElem? h)
def S8.of (h:Nat->Int):S8:=⟨h 0,h 1,h 2,h 3,h 4,h 5,h 6,h 7⟩
def blk (h:Nat->Int)(s:List UInt8)(i:Nat):Int:=ad3 (h i) ((rnds rc (sw s) (S8.of h) 64).get i)
end Ms
namespace Ms
def uc (f:Nat->Int)(i:Nat):Value:=.int .u32 (f i)
theorem uc_upd (f:Nat->Int)(k:Nat)(v:Int):upd (uc f) k (.int .u32 v)=uc (upd f k v):=by
 funext j
 by_cases e:j=k
 ·subst e;rw[upd_hit];unfold uc;rw[upd_hit]
 ·rw[upd_miss _ _ e];unfold uc;rw[upd_miss _ _ e]
theorem byte_at (s:ByteArray)(i:Nat)(h:i<s.size):((s[i].toNat:Nat):Int)=bt s.data.toList i:=by
 unfold bt
 rw[List.getD_eq_getElem?_getD,List.getElem?_eq_getElem (by simpa using h)]
 rfl
theorem wd_eq (s:ByteArray)(k:Nat)(h0:4*k<s.size)(h1:4*k+1<s.size)(h2:4*k+2<s.size)(h3:4*k+3<s.size) :
  bits BinOp.or IntKind.u32 (bits BinOp.or IntKind.u32 (bits BinOp.or IntKind.u32 (((s[4*k].toNat:Nat):Int)%4294967296*16777216%4294967296)
   (((s[4*k+1].toNat:Nat):Int)%4294967296*65536%4294967296)) (((s[4*k+2].toNat:Nat):Int)%4294967296*256%4294967296)) (((s[4*k+3].toNat:Nat):Int)%4294967296)=wd s.data.toList k:=by
 rw[byte_at s _ h0,byte_at s _ h1,byte_at s _ h2,byte_at s _ h3]
 have b0:=bt_bd s.data.toList (4*k)
 have b1:=bt_bd s.data.toList (4*k+1)
 have b2:=bt_bd s.data.toList (4*k+2)
 have b3:=bt_bd s.data.toList (4*k+3)
 unfold wd or3
 congr 1
 ·congr 1
  ·congr 1<;>omega
  ·omega
 ·omega
theorem nx_eq (a b c d:Int):(a+bits BinOp.xor IntKind.u32 (bits BinOp.xor IntKind.u32 (rr 128 33554432 b) (rr 262144 16384 b)) (b/8)+c +
  bits BinOp.xor IntKind.u32 (bits BinOp.xor IntKind.u32 (rr 131072 32768 d) (rr 524288 8192 d)) (d/1024))%4294967296=nx a b c d:=by
 show(a+sg0 b+c+sg1 d)%4294967296=nx a b c d
 unfold nx ad3
 omega
theorem t1_eq (rk wk:Int)(x:S8):(x.h+bits BinOp.xor IntKind.u32 (bits BinOp.xor IntKind.u32 (rr 64 67108864 x.e) (rr 2048 2097152 x.e)) (rr 33554432 128 x.e) +
  bits BinOp.xor IntKind.u32 (bits BinOp.and IntKind.u32 x.e x.f) (bits BinOp.and IntKind.u32 (bits BinOp.xor IntKind.u32 IntKind.u32.max x.e) x.g)+rk+wk)%4294967296=t1 rk wk x:=by
 show(x.h+bs1 x.e+chc x.e x.f x.g+rk+wk)%4294967296=t1 rk wk x
 unfold t1 ad3
 omega
theorem t2_eq (x:S8):(bits BinOp.xor IntKind.u32 (bits BinOp.xor IntKind.u32 (rr 4 1073741824 x.a) (rr 8192 524288 x.a)) (rr 4194304 1024 x.a) +
  bits BinOp.xor IntKind.u32 (bits BinOp.xor IntKind.u32 (bits BinOp.and IntKind.u32 x.a x.b) (bits BinOp.and IntKind.u32 x.a x.c)) (bits BinOp.and IntKind.u32 x.b x.c))%4294967296=t2 x:=rfl
def pt (hv:Nat->Int)(x:S8)(j q:Nat):Int:=if q<j then ad3 (hv q) (x.get q) else hv q
theorem pt_hi (hv:Nat->Int)(x:S8)(j q:Nat)(h:j<=q):pt hv x j q=hv q:=if_neg (by omega)
theorem pt_lo (hv:Nat->Int)(x:S8)(j q:Nat)(h:q<j):pt hv x j q=ad3 (hv q) (x.get q):=if_pos h
theorem pt_step (hv:Nat->Int)(x:S8)(j:Nat):upd (pt hv x j) j (ad3 (hv j) (x.get j))=pt hv x (j+1):=by
 funext q
 by_cases e:q=j
 ·subst e;rw[upd_hit,pt_lo _ _ _ _ (by omega)]
 ·rw[upd_miss _ _ e]
  by_cases h:q<j
  ·rw[pt_lo _ _ _ _ h,pt_lo _ _ _ _ (by omega)]
  ·rw[pt_hi _ _ _ _ (by omega),pt_hi _ _ _ _ (by omega)]
theorem idx8 (x:S8):∀(j:Nat),j<8->∀W,(Instr.index 111 (.agg #[.int .u32 x.a,.int .u32 x.b,.int .u32 x.c,.int .u32 x.d,.int .u32 x.e,.int .u32 x.f,.int .u32 x.g,.int .u32 x.h]) (.int .i64 (j:Int))).run Tryz.prog W=.ok (.int .u32 (x.get j)) W:=by
 intro j hj
 match j,hj with
 | 0,_=>exact λ_=>by kernel_rfl
 | 1,_=>exact λ_=>by kernel_rfl
 | 2,_=>exact λ_=>by kernel_rfl
 | 3,_=>exact λ_=>by kernel_rfl
 | 4,_=>exact λ_=>by kernel_rfl
 | 5,_=>exact λ_=>by kernel_rfl
 | 6,_=>exact λ_=>by kernel_rfl
 | 7,_=>exact λ_=>by kernel_rfl
def Rnd (w:World):Prop:=∀i,i<64->w.cell? ⟨0,i,none⟩=some (.int .u32 (rc i))
theorem Rnd.below {w w':World}{B:Nat}(h:Rnd w)(hb:Below B w w')(hB:0<B):Rnd w':=λi hi=>(hb.cell (p:=⟨0,i,none⟩) hB).trans (h i hi)
theorem mix_any (B:Nat)(hv:Nat->Int)(s:ByteArray)(w:World)(hs:s.size=64)(hst:Row w B 111 8 (uc hv))(hu:∀i,i<8->U (hv i))(hr:Rnd w)(h0:0<w.heap.size) :
  Calls Tryz.prog 54 #[.pointer (some ⟨B,0,none⟩),.string s] w λe w'=>e=.returned (.tuple #[])/\Row w' B 111 8 (uc (blk hv s.data.toList))/\Ch (·=B) w w':=by
 have HS:=Hh hst
 have HZ:=Hh hs
 have HU:=Hh hu
 have HR:=Hh hr
 have hz1:s.size<=64:=by omega
 have hz2:64<=s.size:=by omega
 have hB:B<w.heap.size:=hst.lt
 clear hst hs hu hr
 go_enter Tryz.func54,Tryz.ntmps54
 go_wp2
 go_loopw [28] (λi wr=>∃(k:Nat) (f:Nat->Int),k<=16/\i=.int .i64 k/\Hid (Row wr w.heap.size 184 64 (uc f))/\Hid (∀j,j<k->f j=sw s.data.toList j)/\Below w.heap.size w wr) (λi _=>16-(intOf i).toNat)
 case atStart=>
  refine⟨0,λ_=>0,by omega,rfl,?_,λj hj=>by omega,(Below.refl _ _).alloc (Nat.le_refl _) _⟩
  exact Row.ofList w 184 _ _ 64 (by kernel_rfl)
 case round=>
  obtain⟨k,f,hk,rfl,hrow,hf,hbel⟩:=hrel
  have hsz:=hrow.out.lt
  by_cases hlt:k<16
  ·have k1:(k:Int)<16:=by omega
   have fr:=Row.frozen hrow.out k
   have ce:=Row.cell hrow.out (show k<64 by omega)
   unfold uc at ce
   have i0:(0:Int)<=4*k/\(4:Int)*k<s.size:=by omega
   have i1:(0:Int)<=4*k+1/\(4:Int)*k+1<s.size:=by omega
   have i2:(0:Int)<=4*k+2/\(4:Int)*k+2<s.size:=by omega
   have i3:(0:Int)<=4*k+3/\(4:Int)*k+3<s.size:=by omega
   have w0:IntKind.i64.wrap (4*(k:Int))=4*k:=IntWalk.i64_in _ (by omega)
   have w1:IntKind.i64.wrap (4*(k:Int)+1)=4*k+1:=IntWalk.i64_in _ (by omega)
   have w2:IntKind.i64.wrap (4*(k:Int)+2)=4*k+2:=IntWalk.i64_in _ (by omega)
   have w3:IntKind.i64.wrap (4*(k:Int)+3)=4*k+3:=IntWalk.i64_in _ (by omega)
   go_wp2
   go_region
   go_wp2
   go_roundw
   case rel=>
    rw[wd_eq s k (by omega) (by omega) (by omega) (by omega)]
    refine⟨k+1,upd f k (wd s.data.toList k),by omega,by go_num,?_,λj hj=>?_,(hbel.setCell (Nat.le_refl _) _).drew⟩
    ·have:=Row.set hrow.out (i:=k) (by omega) (.int .u32 (wd s.data.toList k))
     rw[uc_upd] at this
     exact this
    ·by_cases e:j=k
     ·subst e;rw[upd_hit,sw_last _ _ (by omega),if_pos hlt]
     ·rw[upd_miss _ _ e];exact hf.out j (by omega)
   case measure=>simp[intOf];omega
  ·have k1:¬(k:Int)<16:=by omega
   obtain rfl:k=16:=by omega
   go_wp2_with fail
   obtain⟨wo,rfl⟩:∃wo:World,wo=wr:=⟨_,rfl⟩
   go_loopw [6] (λi wr=>∃(k:Nat) (f:Nat->Int),16<=k/\k<=64/\i=.int .i64 k/\Hid (Row wr w.heap.size 184 64 (uc f))/\Hid (∀j,j<k->f j=sw s.data.toList j)/\Below w.heap.size w wr) (λi _=>64-(intOf i).toNat)
   case atStart=>exact⟨16,f,by omega,by omega,rfl,hrow,hf,hbel⟩
   case round=>
    clear hrow hf hbel hsz
    obtain⟨k,f,hk16,hk,rfl,hrow,hf,hbel⟩:=hrel
    have hsz:=hrow.out.lt
    by_cases hlt2:k<64
    ·have k2:(k:Int)<64:=by omega
     have c15:=Row.cell hrow.out (show k-15<64 by omega)
     have c2:=Row.cell hrow.out (show k-2<64 by omega)
     have c16:=Row.cell hrow.out (show k-16<64 by omega)
     have c7:=Row.cell hrow.out (show k-7<64 by omega)
     have ck:=Row.cell hrow.out (show k<64 by omega)
     have fr:=Row.frozen hrow.out k
     unfold uc at c15 c2 c16 c7 ck
     rw[hf.out _ (by omega)] at c15 c2 c16 c7
     have u15:=sw_u s.data.toList (k-15) (by omega)
     have u2:=sw_u s.data.toList (k-2) (by omega)
     have u16:=sw_u s.data.toList (k-16) (by omega)
     have u7:=sw_u s.data.toList (k-7) (by omega)
     have e15:IntKind.i64.wrap ((k:Int)-15)=(k:Int)-15:=IntWalk.i64_in _ (by omega)
     have e2:IntKind.i64.wrap ((k:Int)-2)=(k:Int)-2:=IntWalk.i64_in _ (by omega)
     have e16:IntKind.i64.wrap ((k:Int)-16)=(k:Int)-16:=IntWalk.i64_in _ (by omega)
     have e7:IntKind.i64.wrap ((k:Int)-7)=(k:Int)-7:=IntWalk.i64_in _ (by omega)
     have HN:=Hh (sw_last s.data.toList k hlt2)
     generalize sw s.data.toList (k-15)=x15 at c15 u15 HN
     generalize sw s.data.toList (k-2)=x2 at c2 u2 HN
     generalize sw s.data.toList (k-16)=x16 at c16 u16 HN
     generalize sw s.data.toList (k-7)=x7 at c7 u7 HN
     have U15:=Hh u15
     have U2:=Hh u2
     clear u15 u2
     go_wp2_with fail
     go_region
     go_wp2_with fail
     refine(rot7 _ _ U15.out).mono ?_
     rintro e w3 ⟨rfl,rfl⟩
     go_wp2_with fail
     refine(rot18 _ _ U15.out).mono ?_
     rintro e w3 ⟨rfl,rfl⟩
     go_wp2_with fail
     refine(rot17 _ _ U2.out).mono ?_
     rintro e w3 ⟨rfl,rfl⟩
     go_wp2_with fail
     refine(rot19 _ _ U2.out).mono ?_
     rintro e w3 ⟨rfl,rfl⟩
     go_wp2_with fail
     go_region
     go_wp2_with fail
     go_roundw
     case rel=>
      have ev:sw s.data.toList k=nx x16 x15 x7 x2:=by rw[HN.out,if_neg (by omega)]
      rw[nx_eq,<-ev]
      refine⟨k+1,upd f k (sw s.data.toList k),by omega,by omega,by go_num,?_,λj hj=>?_,(hbel.setCell (Nat.le_refl _) _).drew.drew⟩
      ·have:=Row.set hrow.out (i:=k) (by omega) (.int .u32 (sw s.data.toList k))
       rw[uc_upd] at this
       exact this
      ·by_cases e:j=k
       ·subst e;rw[upd_hit]
       ·rw[upd_miss _ _ e];exact hf.out j (by omega)
     case measure=>simp[intOf];omega
    ·have k2:¬(k:Int)<64:=by omega
     obtain rfl:k=64:=by omega
     have z0:=Row.cell (HS.out.below hbel hB) (i:=0) (by omega)
     have z1:=Row.cell (HS.out.below hbel hB) (i:=1) (by omega)
     have z2:=Row.cell (HS.out.below hbel hB) (i:=2) (by omega)
     have z3:=Row.cell (HS.out.below hbel hB) (i:=3) (by omega)
     have z4:=Row.cell (HS.out.below hbel hB) (i:=4) (by omega)
     have z5:=Row.cell (HS.out.below hbel hB) (i:=5) (by omega)
     have z6:=Row.cell (HS.out.below hbel hB) (i:=6) (by omega)
     have z7:=Row.cell (HS.out.below hbel hB) (i:=7) (by omega)
     unfold uc at z0 z1 z2 z3 z4 z5 z6 z7
     go_wp2_with fail
     go_quiet (fail)
     go_wp2_with fail
     obtain⟨wp,rfl⟩:∃wp:World,wp=wr:=⟨_,rfl⟩
     clear z0 z1 z2 z3 z4 z5 z6 z7
     have hx0:(S8.of hv).u:=⟨HU.out 0 (by omega),HU.out 1 (by omega),HU.out 2 (by omega),HU.out 3 (by omega),HU.out 4 (by omega),HU.out 5 (by omega),HU.out 6 (by omega),HU.out 7 (by omega)⟩
     have HX0:=Hh hx0
     clear hx0
     go_loopw [11,12,13,14,15,16,17,18,138] (λsa sb sc sd se sf sg sh i wr=>∃(k:Nat) (x:S8),k<=64/\i=.int .i64 k/\Hid (x=rnds rc (sw s.data.toList) (S8.of hv) k)/\sa=.int .u32 x.a/\sb=.int .u32 x.b/\sc=.int .u32 x.c/\sd=.int .u32 x.d/\se=.int .u32 x.e/\sf=.int .u32 x.f/\sg=.int .u32 x.g/\sh=.int .u32 x.h/\Hid (Row wr w.heap.size 184 64 (uc f))/\Below w.heap.size w wr) (λ_ _ _ _ _ _ _ _ i _=>64-(intOf i).toNat)
     case atStart=>exact⟨0,S8.of hv,by omega,rfl,rfl,rfl,rfl,rfl,rfl,rfl,rfl,rfl,rfl,hrow,below_drewN hbel _⟩
     case round=>
      clear hrow hbel hsz
      obtain⟨k,x,hk3,rfl,hx,rfl,rfl,rfl,rfl,rfl,rfl,rfl,rfl,hrow,hbel⟩:=hrel
      have hsz:=hrow.out.lt
      by_cases hlt3:k<64
      ·have k3:(k:Int)<64:=by omega
       have hxu:x.u:=by rw[hx.out];exact rnds_u HX0.out k
       have ck:=Row.cell hrow.out hlt3
       unfold uc at ck
       rw[hf.out k hlt3] at ck
       have cr:=HR.out.below hbel h0 k hlt3
       obtain⟨ua,ub,uc',ud,ue,uf,ug,uh⟩:=hxu
       have UA:=Hh ua
       have UE:=Hh ue
       obtain⟨ue0,ue1⟩:=ue
       have kc:=rc_u k
       have kw:=sw_u s.data.toList k hlt3
       have HST:Hid (rnds rc (sw s.data.toList) (S8.of hv) (k+1)=stp (rc k) (sw s.data.toList k) x):=(by rw[hx.out];rfl:rnds rc (sw s.data.toList) (S8.of hv) (k+1)=stp (rc k) (sw s.data.toList k) x)
       generalize rc k=rk at cr kc HST
       generalize sw s.data.toList k=wk at ck kw HST
       go_wp2_with fail
       refine(rot6 _ _ UE.out).mono ?_
       rintro e w3 ⟨rfl,rfl⟩
       go_wp2_with fail
       refine(rot11 _ _ UE.out).mono ?_
       rintro e w3 ⟨rfl,rfl⟩
       go_wp2_with fail
       refine(rot25 _ _ UE.out).mono ?_
       rintro e w3 ⟨rfl,rfl⟩
       go_wp2_with fail
       go_quiet (fail)
       go_wp2_with fail
       refine(rot2 _ _ UA.out).mono ?_
       rintro e w3 ⟨rfl,rfl⟩
       go_wp2_with fail
       refine(rot13 _ _ UA.out).mono ?_
       rintro e w3 ⟨rfl,rfl⟩
       go_wp2_with fail
       refine(rot22 _ _ UA.out).mono ?_
       rintro e w3 ⟨rfl,rfl⟩
       go_wp2_with fail
       go_roundw
       case rel=>
        rw[t1_eq,t2_eq]
        exact⟨k+1,stp rk wk x,by omega,by go_num,HST.out.symm,rfl,rfl,rfl,rfl,rfl,rfl,rfl,rfl,hrow,below_drewN hbel _⟩
       case measure=>simp[intOf];omega
      ·have k3:¬(k:Int)<64:=by omega
       obtain rfl:k=64:=by omega
       have hxu:x.u:=by rw[hx.out];exact rnds_u HX0.out 64
       have HXU:=Hh hxu
       clear hxu
       have HX8:Hid (∀(j:Nat),j<8->∀W,(Instr.index 111 (.agg #[.int .u32 x.a,.int .u32 x.b,.int .u32 x.c,.int .u32 x.d,.int .u32 x.e,.int .u32 x.f,.int .u32 x.g,.int .u32 x.h]) (.int .i64 (j:Int))).run Tryz.prog W=.ok (.int .u32 (x.get j)) W):=idx8 x
       go_wp2_with fail
       obtain⟨wq,rfl⟩:∃wq:World,wq=wr:=⟨_,rfl⟩
       go_loopw [214] (λi wr=>∃(j:Nat),j<=8/\i=.int .i64 j/\Hid (Row wr B 111 8 (uc (pt hv x j)))/\Ch (·=B) w wr) (λi _=>8-(intOf i).toNat)
       case atStart=>exact⟨0,by omega,rfl,Row.congr (HS.out.below hbel hB) (λi hi=>by unfold uc;rw[pt_hi _ _ _ _ (Nat.zero_le _)]),Ch.of_below hbel _⟩
       case round=>
        obtain⟨j,hj,rfl,hrow8,hch⟩:=hrel
        by_cases hj8:j<8
        ·have j1:(j:Int)<8:=by omega
         have hx8:=HX8.out j hj8
         have cj:=Row.cell hrow8.out hj8
         unfold uc at cj
         rw[pt_hi _ _ _ _ (Nat.le_refl _)] at cj
         have fj:=Row.frozen hrow8.out j
         go_wp2_with fail
         go_region
         go_wp2_with fail
         go_roundw
         case rel=>
          refine⟨j+1,by omega,by go_num,?_,(hch.setCell (λ_=>rfl) _).drew⟩
          have:=Row.set hrow8.out (i:=j) hj8 (.int .u32 (ad3 (hv j) (x.get j)))
          rw[uc_upd,pt_step] at this
          exact this
         case measure=>simp[intOf];omega
        ·have j1:¬(j:Int)<8:=by omega
         obtain rfl:j=8:=by omega
         go_wp2_with fail
         go_end0
         refine⟨rfl,Row.congr hrow8.out λi hi=>?_,hch⟩
         unfold uc blk
         rw[pt_lo _ _ _ _ hi,hx.out]
end Ms
namespace Ms
def SB (w:World)(base e:Nat)(v:Value)(n:Nat)(xs:List Value):Prop:=
 xs.length=n/\∃(g cap:Nat) (cur:Array Value) (fr:Nat×Nat),v=.slice (some ⟨g,0,none⟩) n cap/\base<=g/\w.heap[g]? = some (.cells cur e fr)/\n<=cap/\cap<=maxLen/\cap<=cur.size /\
  cur.toList.take n=xs/\∀i,i<cap->¬(fr.1<=i/\i<fr.2)
section
variable {w w':World}{base e n:Nat}{v:Value}{xs:List Value}
theorem SB.alloc (h:SB w base e v n xs)(o:Obj):SB (w.alloc o) base e v n xs:=by
 obtain⟨h1,g,cap,cur,fr,rfl,hbg,hh,r⟩:=h
 exact⟨h1,g,cap,cur,fr,rfl,hbg,(Below.heap_alloc w o g (heap_lt hh)).trans hh,r⟩
theorem SB.form (h:SB w base e v n xs):∃g cap,v=.slice (some ⟨g,0,none⟩) n cap/\base<=g/\g<w.heap.size/\n<=cap/\cap<=maxLen/\∀i u,xs[i]? = some u->w.cell? ⟨g,i,none⟩=some u:=by
 obtain⟨h1,g,cap,cur,fr,rfl,hbg,hh,h2,h3,h4,h5,h6⟩:=h
 refine⟨g,cap,rfl,hbg,heap_lt hh,h2,h3,λi u hu=>?_⟩
 have hi:i<n:=by have:=(List.getElem?_eq_some_iff.1 hu).1;omega
 rw[cell_of_row w g i cur e fr hh,<-Array.getElem?_toList]
 rw[<-h5,List.getElem?_take_of_lt hi] at hu
 exact hu
theorem cells_mark {w:World}{g e i:Nat}{cur:Array Value}{fr:Nat×Nat}(hh:w.heap[g]? = some (.cells cur e fr))(h:¬(fr.1<=i/\i<fr.2)):w.frozen? ⟨g,i,none⟩=false:=by
 simp[World.frozen?,hh]
 intro h1
 rcases Nat.lt_or_ge i fr.2 with h2|h2
 ·exact absurd ⟨h1,h2⟩ h
 ·exact h2
theorem SB.push {P:Program}(h:SB w base e v n xs)(t ty:TypeId)(i0:TypeInfo)(z u:Value)(bytes:Nat)(ht:P.underlying t=some (.slice e))(hi:P.info? e=some i0)(hz:i0.zero=some z)(hsize:i0.size=1)(hby:i0.bytes=bytes)(hzs:z.cells.size=1)
  (a:Addr) (c:Nat) (hu:w.cell? a=some u) (h1:u.oneCell'=true) (hb:base<=w.heap.size) (h63:n+1<=maxLen) (hbytes:(n+1)*bytes<=140737488355328) :
  ∃v' w',(Builtin.append_ #[t,t] ty #[v,.slice (some a) 1 c]).run P w=.ok v' w'/\SB w' base e v' (n+1) (xs++[u])/\Ch (λb=>v.ownBlock=some b) w w':=by
 have hnews:∀j x,[u][j]? = some x->w.cell? (a.add j)=some x:=by
  intro j x hx
  have hj:j=0:=by have:=(List.getElem?_eq_some_iff.1 hx).1;simpa using this
  subst hj
  simp at hx
  subst hx
  simpa[Addr.add] using hu
 have hF:=h.form
 obtain⟨hl,g,cap,cur,fr,rfl,hbg,hh,h2,h3,h4,h5,h6⟩:=h
 by_cases hroom:n+1<=cap
 ·have hr:=run_append_room_cells (P:=P) w t ty e i0 ht hi g 0 n cap a 1 c [u] (by rw[hsize];rfl) hnews (by simpa using h1) hroom
   (λj hj=>by
    have hj:j=0:=by simpa using hj
    subst hj
    rw[hsize,cell_of_row w g _ cur e fr hh]
    simp;omega)
   (λj hj=>by
    have hj:j=0:=by simpa using hj
    subst hj
    rw[hsize]
    exact cells_mark hh (h6 _ (by omega)))
  rw[hsize] at hr
  have ew:w.setCells g (0+n*1) [u]=w.setCell ⟨g,n,none⟩ u:=by
   rw[Nat.mul_one,Nat.zero_add];rfl
  rw[ew] at hr
  refine⟨_,_,hr,⟨by simp[hl],g,cap,cur.setIfInBounds n u,fr,rfl,hbg,?_,by omega,h3,by simpa using h4,?_,h6⟩,(Ch.refl (λb=>(Value.slice (some ⟨g,0,none⟩) n cap).ownBlock=some b) w).setCell (p:=⟨g,n,none⟩) (λ_=>rfl) u⟩
  ·simp[World.setCell,Array.getElem?_modify,hh]
  ·rw[<-h5]
   have hn:n<cur.toList.length:=by simp;omega
   rw[Array.toList_setIfInBounds,List.take_succ_eq_append_getElem (by simpa using hn),List.take_set_of_le (Nat.le_refl _)]
   simp
 ·obtain⟨g',cap',e',_,_,_,_,hcells⟩:=hF
  obtain⟨v',w',hr,ho,hg⟩:=run_append_arg_grows (P:=P) w t ty e i0 z 1 bytes ht hi hz hsize hby hzs (by omega) ⟨g,0,none⟩ n cap xs (by omega)
   (λj x hx=>by
    injection e' with e1 e2
    injection e1 with e1
    have eg:g=g':=congrArg Addr.block e1
    rw[Addr.add_mid,Nat.zero_add,eg];exact hcells j x hx) a 1 c [u] rfl hnews (by omega) h63 hbytes
  refine⟨v',w',hr,?_,Ch.of_grown hg (λk hk _=>by cases hk)⟩
  obtain⟨ho1,⟨_,h0⟩|⟨g2,cap2,cur2,hv2,hb2,hh2,hn2,hm2,hs2,ht2⟩⟩:=ho
  ·omega
  ·exact⟨by simpa using ho1,g2,cap2,cur2,(0,0),hv2,by omega,hh2,hn2,hm2,by omega,by simpa using ht2,λi _ hx=>by omega⟩
theorem wpList_push {P:Program}{ops:Array Oper}{rest:List Oper}{o:Oper}{a:Act}{Q:Exit->Act->World->Prop}(hgd:o.guard=none)(s x:Operand)(t:TypeId)
  (ho:o.op=.call { callee:=.builtin .append,args:=#[s,x],argTypes:=#[t,t] })
  (i0:TypeInfo) (z u:Value) (bytes:Nat) (ht:P.underlying t=some (.slice e)) (hi:P.info? e=some i0) (hz:i0.zero=some z) (hsize:i0.size=1) (hby:i0.bytes=bytes) (hzs:z.cells.size=1)
  (hs:a.eval s=v) (h:SB w base e v n xs) (ad:Addr) (c:Nat) (hx:a.eval x=.slice (some ad) 1 c) (hu:w.cell? ad=some u) (h1:u.oneCell'=true) (hb:base<=w.heap.size) (h63:n+1<=maxLen) (hbytes:(n+1)*bytes<=140737488355328)
  (hK:∀v' w',SB w' base e v' (n+1) (xs++[u])->Ch (λb=>v.ownBlock=some b) w w'->wpList P ops Q rest (a.put o.dst v') w'):wpList P ops Q (o::rest) a w:=by
 refine wpList_plain hgd λ K hK'=>?_
 obtain⟨v',w',hrun,r1,r2⟩:=h.push (P:=P) t o.type i0 z u bytes ht hi hz hsize hby hzs ad c hu h1 hb h63 hbytes
 unfold Oper.wp
 simp[execOp,ho,resolve,invoke,builtin,hs,hx,hrun,Result.andThen]
 exact hK' _ _ (hK v' w' r1 r2)
end
end Ms
namespace Ms
def iv:Nat->Int
 | 0=>1779033703
 | 1=>3144134277
 | 2=>1013904242
 | 3=>2773480762
 | 4=>1359893119
 | 5=>2600822924
 | 6=>528734635
 | _=>1541459225
def bls (l:List UInt8)(h:Nat->Int):Nat->Nat->Int
 | 0=>h
 | n+1=>blk (bls l h n) ((l.drop (64*n)).take 64)
def byv (l:List UInt8):List Value:=l.map λb=>Value.int .u8 (b.toNat:Int)
theorem iv_u (i:Nat):U (iv i):=by
 unfold iv;split<;>exact⟨by omega,by omega⟩
theorem bls_u (l:List UInt8)(n i:Nat):U (bls l iv n i):=by
 cases n with
 | zero=>exact iv_u i
 | succ n=>exact ad3_u _ _
theorem bls_u' (l:List UInt8){h:Nat->Int}(hh:∀i,U (h i))(n i:Nat):U (bls l h n i):=by
 cases n with
 | zero=>exact hh i
 | succ n=>exact ad3_u _ _
def arr (N:Nat)(v:Nat->Value):Array Value:=((List.range N).map v).toArray
theorem arr_size (N:Nat)(v:Nat->Value):(arr N v).size=N:=by simp[arr]
theorem arr_at (N:Nat)(v:Nat->Value){i:Nat}(h:i<N):(arr N v)[i]? = some (v i):=by simp[arr,h]
theorem _root_.Go.Proofs.YtdinbpdpalgohaaGreatDoor.Row.arr {w:World}{B t N:Nat}{v:Nat->Value}(h:Row w B t N v):w.heap[B]? = some (.cells (Ms.arr N v) t (0,0)):=by
 obtain⟨cs,hh,hs,hc⟩:=h
 rw[hh]
 congr 2
 apply Array.ext
 ·rw[hs,arr_size]
 ·intro i h1 h2
  have:=hc i (by omega)
  have h3:=arr_at N v (show i<N by omega)
  rw[Array.getElem?_eq_getElem h1] at this
  rw[Array.getElem?_eq_getElem h2] at h3
  injection this with this
  injection h3 with h3
  rw[this,h3]
theorem size_eq (t:ByteArray):t.size=t.data.toList.length:=by rw[Array.length_toList];rfl
theorem ext_take (t:ByteArray):(t.extract 0 64).data.toList=t.data.toList.take 64:=by
 rw[Lib.extract_data];rfl
theorem ext_drop (t:ByteArray):(t.extract 64 t.size).data.toList=t.data.toList.drop 64:=Lib.extract_to_end t 64
theorem ext_take_size (t:ByteArray)(h:64<=t.size):(t.extract 0 64).size=64:=by
 rw[size_eq,ext_take,List.length_take,<-size_eq];omega
theorem ext_drop_size (t:ByteArray):(t.extract 64 t.size).size=t.size-64:=by
 rw[size_eq,ext_drop,List.length_drop,<-size_eq]
theorem Row.ofListAt (w:World)(B t:Nat)(hB:B=w.heap.size)(cs:Array Value)(v:Nat->Value)(N:Nat)(h:cs.toList=(List.range N).map v):Row (w.alloc (.cells cs t)) B t N v:=by
 subst hB;exact Row.ofList w t cs v N h
def lenb (L:Nat)(q:Nat):List UInt8:=(List.range q).map λi=>UInt8.ofNat (L/2^(56-8*i))
theorem lenb_val (L q:Nat):((L:Int)*8/2^(56-8*q)%256)=(((UInt8.ofNat (L*8/2^(56-8*q))).toNat:Nat):Int):=by
 rw[UInt8.toNat_ofNat']
 have e:((L:Int)*8/2^(56-8*q))=((L*8/2^(56-8*q):Nat):Int):=by
  rw[Int.natCast_ediv,Int.natCast_mul,Int.natCast_pow];rfl
 rw[e];omega
theorem lenb_succ (L q:Nat):lenb (L*8) q++[UInt8.ofNat (L*8/2^(56-8*q))]=lenb (L*8) (q+1):=by
 unfold lenb;rw[List.range_succ,List.map_append];rfl
def sliceLen:Value->Nat
 | .slice _ n _=>n
 | _=>0
def strLen:Value->Nat
 | .string t=>t.size
 | _=>0
theorem byv_row (t:ByteArray)(cap:Nat)(h:t.size<=cap):(bytesRow t cap).size=cap/\(bytesRow t cap).toList.take t.size=byv t.data.toList:=by
 constructor
 ·simp[bytesRow];have:t.data.size=t.size:=rfl;omega
 ·unfold bytesRow byv
  rw[Array.toList_append,List.take_append_of_le_length (by simp),List.take_of_length_le (by simp)]
  simp
theorem sb_bytes (W:World)(g base cap:Nat)(t:ByteArray)(hg:base<=g)(h1:t.size<=cap)(h2:cap<=maxLen)(hh:W.heap[g]? = some (.cells (bytesRow t cap) 5 ((bytesRow t cap).size,(bytesRow t cap).size+1))) :
  SB W base 5 (.slice (some ⟨g,0,none⟩) t.size cap) t.size (byv t.data.toList):=by
 obtain⟨e1,e2⟩:=byv_row t cap h1
 rw[e1] at hh
 exact⟨by unfold byv;rw[List.length_map,<-size_eq],g,cap,_,_,rfl,hg,hh,h1,h2,by omega,e2,λi hi hx=>by simp at hx;omega⟩
theorem Tryz.info5:(Tryz.prog.info? 5).map (λi=>(i.zero,i.size,i.bytes))=some (some (.int .u8 0),1,1):=by kernel_rfl
theorem byv_snoc (l:List UInt8)(b:UInt8):byv l++[.int .u8 (b.toNat:Int)]=byv (l++[b]):=by simp[byv]
def zb (_:Nat):Value:=.int .u8 0
theorem Tryz.info110:(Tryz.prog.info? 110).map (λi=>(i.zero,i.size,i.bytes))=some (some (.int .u32 0),1,4):=by kernel_rfl
def dgb (H:Nat->Int)(i:Nat):Int:=H (i/4)/2^(24-8*(i%4))%256
def dgt (H:Nat->Int)(q i:Nat):Value:=if i<4*q then .int .u8 (dgb H i) else zb i
theorem dgt_hi (H:Nat->Int)(q i:Nat)(h:4*q<=i):dgt H q i=zb i:=if_neg (by omega)
theorem dgt_lo (H:Nat->Int)(q i:Nat)(h:i<4*q):dgt H q i=.int .u8 (dgb H i):=if_pos h
theorem dgb_at (H:Nat->Int)(q j:Nat)(hj:j<4):dgb H (4*q+j)=H q/2^(24-8*j)%256:=by
 unfold dgb;rw[show(4*q+j)/4=q by omega,show(4*q+j)%4=j by omega]
theorem dgt_row {w:World}{B q:Nat}{H:Nat->Int}(h:Row w B 31 32 (dgt H q))(hq:q<8)(hu:U (H q)) :
  Row ((((w.setCell ⟨B,4*q,none⟩ (.int .u8 (H q/16777216))).setCell ⟨B,4*q+1,none⟩ (.int .u8 (H q/65536%256))).setCell ⟨B,4*q+2,none⟩ (.int .u8 (H q/256%256))).setCell ⟨B,4*q+3,none⟩ (.int .u8 (H q%256))) B 31 32 (dgt H (q+1)):=by
 refine Row.congr (Row.set (Row.set (Row.set (Row.set h (i:=4*q) (by omega) _) (i:=4*q+1) (by omega) _) (i:=4*q+2) (by omega) _) (i:=4*q+3) (by omega) _) λi hi=>?_
 obtain⟨hu0,hu1⟩:=hu
 by_cases e3:i=4*q+3
 ·subst e3;rw[upd_hit,dgt_lo _ _ _ (by omega),dgb_at _ _ 3 (by omega)];simp
 rw[upd_miss _ _ e3]
 by_cases e2:i=4*q+2
 ·subst e2;rw[upd_hit,dgt_lo _ _ _ (by omega),dgb_at _ _ 2 (by omega)];rfl
 rw[upd_miss _ _ e2]
 by_cases e1:i=4*q+1
 ·subst e1;rw[upd_hit,dgt_lo _ _ _ (by omega),dgb_at _ _ 1 (by omega)];rfl
 rw[upd_miss _ _ e1]
 by_cases e0:i=4*q
 ·subst e0;rw[upd_hit,dgt_lo _ _ _ (by omega)]
  have:=dgb_at H q 0 (by omega)
  rw[Nat.add_zero] at this
  rw[this]
  show Value.int .u8 (H q/16777216)=.int .u8 (H q/16777216%256)
  congr 1;omega
 rw[upd_miss _ _ e0]
 by_cases h4:i<4*q
 ·rw[dgt_lo _ _ _ h4,dgt_lo _ _ _ (by omega)]
 ·rw[dgt_hi _ _ _ (by omega),dgt_hi _ _ _ (by omega)]
theorem Row.setAll {B t N:Nat}:∀(vs:List Value) (o:Nat) (w:World) (v:Nat->Value),Row w B t N v->o+vs.length<=N->Row (w.setCells B o vs) B t N (λi=>if o<=i/\i<o+vs.length then vs.getD (i-o) (v i) else v i)
 | [],o,_,v,h,_=>Row.congr h (λi _=>by rw[if_neg (by simp)])
 | u::r,o,_,v,h,hl=>by
  have hl':o+(r.length+1)<=N:=hl
  refine Row.congr (Row.setAll r (o+1) _ _ (Row.set h (i:=o) (by omega) u) (by omega)) λi hi=>?_
  simp only[List.length_cons]
  by_cases e:i=o
  ·subst e
   rw[if_neg (by omega),upd_hit,if_pos (by omega),Nat.sub_self];rfl
  ·rw[upd_miss _ _ e]
   by_cases h1:o+1<=i/\i<o+1+r.length
   ·rw[if_pos h1,if_pos (by omega),show i-o=(i-(o+1))+1 by omega];rfl
   ·rw[if_neg h1,if_neg (by omega)]
theorem Row.setWhole {w:World}{B t N:Nat}{v u:Nat->Value}(h:Row w B t N v):Row (w.setCells B 0 (Ms.arr N u).toList) B t N u:=by
 refine Row.congr (Row.setAll _ 0 w v h (by simp[Ms.arr])) λi hi=>?_
 rw[if_pos (by simpa[Ms.arr] using hi)]
 simp[Ms.arr,hi]
theorem Below.setAll {B b:Nat}{a:World}(hb:B<=b):∀(vs:List Value) (o:Nat) (w:World),Below B a w->Below B a (w.setCells b o vs)
 | [],_,_,h=>h
 | u::r,o,_,h=>Below.setAll hb r (o+1) _ (h.setCell (p:=⟨b,o,none⟩) hb u)
theorem _root_.Go.Proofs.YtdinbpdpalgohaaGreatDoor.Row.there {w:World}{B t N:Nat}{v:Nat->Value}(h:Row w B t N v):w.there B 0 N:=λj hj=>⟨by rw[Nat.zero_add,Row.cell h hj];rfl,Row.frozen h _⟩
theorem sb_ne {w:World}{base e n B t N:Nat}{v:Value}{xs:List Value}{f:Nat->Value}(h:SB w base e v n xs)(hr:Row w B t N f)(hne:e≠t):v.ownBlock≠some B:=by
 obtain⟨_,g,cap,cur,fr,rfl,_,hh,_⟩:=h
 intro he
 have:g=B:=by simpa[Value.ownBlock] using he
 subst this
 obtain⟨cs,hc,_⟩:=hr
 rw[hh] at hc
 injection hc with hc
 injection hc with _ ht
 exact hne ht
structure St (w0 wr:World)(H:Nat->Int)(v:Value)(n:Nat)(l:List UInt8):Prop where
 sb:SB wr w0.heap.size 5 v n (byv l)
 r0:Row wr w0.heap.size 31 32 zb
 r1:Row wr (w0.heap.size+1) 111 8 (uc H)
 bel:Below w0.heap.size w0 wr
theorem St.next {w0 wr w1:World}{H:Nat->Int}{v v':Value}{n:Nat}{l:List UInt8}(h:St w0 wr H v n l)(o:Obj)(b:UInt8)(hs:SB w1 w0.heap.size 5 v' (n+1) (byv l++[.int .u8 (b.toNat:Int)]))
  (hc:Ch (λk=>v.ownBlock=some k) (wr.alloc o) w1):St w0 w1 H v' (n+1) (l++[b]):=by
 refine⟨by rw[<-byv_snoc];exact hs,(h.r0.alloc o).ch hc (sb_ne (h.sb.alloc o) (h.r0.alloc o) (by decide)),(h.r1.alloc o).ch hc (sb_ne (h.sb.alloc o) (h.r1.alloc o) (by decide)),?_⟩
 refine Below.thenCh (h.bel.alloc h.bel.size o) hc (by have:=h.bel.size;simp;omega) λi hi=>?_
 obtain⟨_,g,cap,_,_,rfl,hb,_⟩:=h.sb
 have:g=i:=by simpa[Value.ownBlock] using hi
 omega
theorem St.toStr {w0 wr:World}{H:Nat->Int}{g n cap:Nat}{l:List UInt8}(h:St w0 wr H (.slice (some ⟨g,0,none⟩) n cap) n l) :
  (convert 99 9 (.slice (some ⟨g,0,none⟩) n cap)).run Tryz.prog wr=.ok (.string ⟨l.toArray⟩) wr:=by
 obtain⟨g',cap',e,_,_,_,_,hc⟩:=h.sb.form
 injection e with e1 e2 e3
 injection e1 with e1
 have eg:g=g':=congrArg Addr.block e1
 have hn:l.length=n:=by have:=h.sb.1;unfold byv at this;simpa using this
 subst eg
 have:=run_convert_bytes_back (P:=Tryz.prog) wr 99 9 5 ⟨g,0,none⟩ cap l Tryz.underlying99 Tryz.underlying5 Tryz.underlying9 (λj hj=>by
  rw[Addr.add_mid,Nat.zero_add]
  exact hc j _ (by unfold byv;simp[hj]))
 rw[hn] at this
 exact this
theorem St.form {w0 wr:World}{H:Nat->Int}{v:Value}{n:Nat}{l:List UInt8}(h:St w0 wr H v n l):∃g cap,v=.slice (some ⟨g,0,none⟩) n cap:=by
 obtain⟨_,g,cap,_,_,rfl,_⟩:=h.sb
 exact⟨g,cap,rfl⟩
theorem bls_front (l p:List UInt8)(h:Nat->Int)(k:Nat)(hk:64*k<=l.length):bls (l++p) h k=bls l h k:=by
 induction k with
 | zero=>rfl
 | succ k ih=>
  unfold bls
  rw[ih (by omega),List.drop_append_of_le_length (by omega),List.take_append_of_le_length (by rw[List.length_drop];omega)]
theorem bls_add (l:List UInt8)(h:Nat->Int)(k r:Nat):bls l h (k+r)=bls (l.drop (64*k)) (bls l h k) r:=by
 induction r with
 | zero=>rfl
 | succ r ih=>
  show blk (bls l h (k+r)) _=blk _ _
  rw[ih,List.drop_drop,show 64*k+64*r=64*(k+r) by omega]
  rfl
def padb (n:Nat):List UInt8:=[128]++List.replicate ((119-n%64)%64) 0++lenb (n*8) 8
def sumH (l:List UInt8):Nat->Int:=bls (l++padb l.length) iv ((l++padb l.length).length/64)
def sumD (l:List UInt8):Nat->Int:=dgb (sumH l)
def b8 (D:Nat->Int)(i:Nat):Value:=.int .u8 (D i)
theorem sum_final (l t m:List UInt8)(k j q r N:Nat)(ht:t=l.drop (64*k))(hk:64*k+t.length=l.length)(h64:t.length<64)(hj:j=(119-t.length)%64)(hq:q=8)(hm:m=t++[128]++List.replicate j 0++lenb (l.length*8) q)
  (hr:r=N) (hN:m.length=64*N):bls m (bls l iv k) r=sumH l:=by
 have e1:l.length%64=t.length:=by omega
 have hm':m=(l++padb l.length).drop (64*k):=by
  rw[List.drop_append_of_le_length (by omega),<-ht,hm,padb,e1,<-hj,hq];simp
 have hlen:(l++padb l.length).length=64*(k+N):=by
  have:m.length=(l++padb l.length).length-64*k:=by rw[hm',List.length_drop]
  have h2:l.length<=(l++padb l.length).length:=by simp
  omega
 unfold sumH
 rw[hlen,show 64*(k+N)/64=k+r by omega,bls_add,bls_front _ _ _ _ (by omega),<-hm']
theorem sum_any (s:ByteArray)(w:World)(hs:s.size<=1073741824)(hr:Rnd w)(h0:0<w.heap.size) :
  Calls Tryz.prog 14 #[.string s] w λe w'=>e=.returned (.agg (arr 32 (b8 (sumD s.data.toList))))/\Below w.heap.size w w':=by
 have HR:=Hh hr
 clear hr
 go_enter Tryz.func14,Tryz.ntmps14
 go_wp2_with fail
 go_loopw [0] (λx wr=>∃(k:Nat) (t:ByteArray),x=.string t/\Hid (t.data.toList=s.data.toList.drop (64*k))/\64*k+t.size<=s.size/\s.size<=64*k+t.size/\Hid (Row wr w.heap.size 31 32 zb)/\Hid (Row wr (w.heap.size+1) 111 8 (uc (bls s.data.toList iv k)))/\Below w.heap.size w wr) (λx _=>strLen x)
 case atStart=>
  refine⟨0,s,rfl,by simp[Hid],by omega,by omega,?_,?_,((Below.refl _ _).alloc (Nat.le_refl _) _).alloc (by simp) _⟩
  ·exact Row.alloc (Row.ofList w 31 _ _ 32 (by kernel_rfl)) _
  ·exact Row.ofListAt _ _ _ (by simp) _ _ 8 (by kernel_rfl)
 case round=>
  obtain⟨k,t,rfl,ht,hz1,hz2,hR0,hR1,hbel⟩:=hrel
  by_cases h64:64<=t.size
  ·have HM:=Hh (mix_any (w.heap.size+1) (bls s.data.toList iv k) (t.extract 0 64) wr (ext_take_size t h64) hR1.out (λi _=>bls_u _ _ _) (HR.out.below hbel h0) (by have:=hbel.size;omega))
   have hds:=ext_drop_size t
   have HDS:=Hh hds
   clear hds
   go_wp2_with fail
   refine HM.out.mono ?_
   rintro e w1 ⟨rfl,hR1',hc1⟩
   have R1':=Hh hR1'
   have R0':=Hh (hR0.out.ch hc1 (by omega))
   have b1:Below w.heap.size w w1:=Below.thenCh hbel hc1 hbel.size (by intro i hi;omega)
   clear hR1' hc1 HM
   go_wp2_with fail
   go_roundw
   case rel=>
    refine⟨k+1,_,rfl,?_,?_,?_,R0',?_,b1⟩
    ·show(t.extract 64 t.size).data.toList=_
     rw[ext_drop,ht.out,List.drop_drop]
     congr 1
    ·rw[HDS.out];omega
    ·rw[HDS.out];omega
    ·have:=R1'.out
     rw[ext_take,ht.out] at this
     exact this
   case measure=>show(t.extract 64 t.size).size<t.size;rw[HDS.out];omega
  ·have hcv:=λ W=>run_bytes_of_string (P:=Tryz.prog) W 9 99 5 t Tryz.underlying9 Tryz.underlying99 Tryz.underlying5
   obtain⟨i0,hi,hy0,hy1,hy2⟩:=info_parts Tryz.info5
   have hg1:=grownCap_ge wr t.size 0 5
   have hg2:=grownCap_le_maxLen wr t.size 0 5 (by unfold maxLen;omega)
   generalize hcap:grownCap wr t.size 0 5=cap at hcv hg1 hg2
   have HCV:=Hh hcv
   clear hcv
   have hcv:=HCV.out wr
   rw[hcap] at hcv
   clear hcap HCV
   have HSB:Hid (SB ((wr.alloc (.cells (bytesRow t cap) 5 ((bytesRow t cap).size,(bytesRow t cap).size+1))).alloc (.cells #[.int .u8 128] 5)).drew w.heap.size 5 (.slice (some ⟨wr.heap.size,0,none⟩) t.size cap) t.size (byv t.data.toList)):=
    SB.alloc (sb_bytes (wr.alloc (.cells (bytesRow t cap) 5 ((bytesRow t cap).size,(bytesRow t cap).size+1))) wr.heap.size w.heap.size cap t hbel.size hg1 hg2 (heap_alloc_new wr _)) _
   go_wp2_with (at_builtin;refine wpList_push rfl _ _ 99 rfl i0 (.int .u8 0) (.int .u8 128) 1 Tryz.underlying99 hi hy0 hy1 hy2 rfl rfl (by exact HSB.out) ⟨wr.heap.size+1,0,none⟩ 1 rfl ?hu rfl ?hb ?h63 ?hby ?_)
   case hu=>simp[go_sem]
   case hb=>have:=hbel.size;simp;omega
   case h63=>unfold maxLen;omega
   case hby=>omega
   intro v1 w1 hs1 hc1
   have hst0:Hid (St w w1 (bls s.data.toList iv k) v1 (t.size+1) (t.data.toList++[128])):=by
    refine⟨?_,?_,?_,?_⟩
    ·rw[<-byv_snoc];exact hs1
    ·refine Row.ch (w:=((wr.alloc (.cells (bytesRow t cap) 5 ((bytesRow t cap).size,(bytesRow t cap).size+1))).alloc (.cells #[.int .u8 128] 5)).drew) ((hR0.out.alloc _).alloc _) hc1 ?_
     have:=hR1.out.lt
     simp[Value.ownBlock];omega
    ·refine Row.ch (w:=((wr.alloc (.cells (bytesRow t cap) 5 ((bytesRow t cap).size,(bytesRow t cap).size+1))).alloc (.cells #[.int .u8 128] 5)).drew) ((hR1.out.alloc _).alloc _) hc1 ?_
     have:=hR1.out.lt
     simp[Value.ownBlock];omega
    ·refine Below.thenCh (((hbel.alloc hbel.size _).alloc (by have:=hbel.size;simp;omega) _).drew) hc1 (by have:=hbel.size;simp;omega) λi hi=>?_
     have:wr.heap.size=i:=by simpa[Value.ownBlock] using hi
     have:=hbel.size
     omega
   clear hs1 hc1 HSB hcv
   obtain⟨g,cap1,hv1⟩:=hst0.out.form
   rw[hv1]
   rw[hv1] at hst0
   clear hv1 v1
   obtain⟨z,hz⟩:∃z:Nat,z=(119-t.size)%64:=⟨_,rfl⟩
   have HZZ:=Hh hz
   clear hz
   have ht64:t.size<64:=by omega
   go_wp2_with fail
   obtain⟨wo,rfl⟩:∃wo:World,wo=wr:=⟨_,rfl⟩
   go_loopw [5] (λx wr=>∃(j g cap:Nat) (l:List UInt8),j<=z/\x=.slice (some ⟨g,0,none⟩) (t.size+1+j) cap/\Hid (l=t.data.toList++[128]++List.replicate j 0)/\Hid (St w wr (bls s.data.toList iv k) (.slice (some ⟨g,0,none⟩) (t.size+1+j) cap) (t.size+1+j) l)) (λx _=>t.size+1+z-sliceLen x)
   case atStart=>exact⟨0,g,cap1,t.data.toList++[128],by omega,rfl,(by simp:t.data.toList++[128]=t.data.toList++[128]++List.replicate 0 0),hst0⟩
   case round=>
    obtain⟨j,g,cap2,l,hj,rfl,hl,hst⟩:=hrel
    clear hst0
    have hz63:z<=63:=by have:=HZZ.out;omega
    by_cases hjz:j=z
    ·have e56:(((t.size:Int)+1+j)%64!=56)=false:=by
      have:=HZZ.out
      simp;omega
     have HJ:=Hh hjz
     clear hjz
     go_wp2_with fail
     obtain⟨wp,rfl⟩:∃wp:World,wp=wr:=⟨_,rfl⟩
     go_loopw [5,6] (λx y wr=>∃(q g cap:Nat) (m:List UInt8),q<=8/\x=.slice (some ⟨g,0,none⟩) (t.size+1+j+q) cap/\y=.int .i64 (56-8*(q:Int))/\Hid (m=l++lenb (s.size*8) q)/\Hid (St w wr (bls s.data.toList iv k) (.slice (some ⟨g,0,none⟩) (t.size+1+j+q) cap) (t.size+1+j+q) m)) (λ_ y _=>(intOf y+8).toNat)
     case atStart=>exact⟨0,g,cap2,l,by omega,rfl,rfl,(by simp[lenb]:l=l++lenb (s.size*8) 0),hst⟩
     case round=>
      clear hst
      obtain⟨q,g,cap3,m,hq,rfl,rfl,hm,hst⟩:=hrel
      by_cases hq8:q<8
      ·have y0:(0:Int)<=56-8*(q:Int):=by omega
       have y1:56-8*(q:Int)<=56:=by omega
       have HA:=Hh (SB.alloc hst.out.sb (.cells #[.int .u8 ((s.size:Int)*8/2^(56-8*q)%256)] 5))
       have hbs:=hst.out.bel.size
       go_wp2_with (at_builtin;refine wpList_push rfl _ _ 99 rfl i0 (.int .u8 0) (.int .u8 ((s.size:Int)*8/2^(56-8*q)%256)) 1 Tryz.underlying99 hi hy0 hy1 hy2 rfl rfl (by exact HA.out) ⟨wr.heap.size,0,none⟩ 1 rfl ?hu rfl ?hb ?h63 ?hby ?_)
       case hu=>simp[go_sem]
       case hb=>simp;omega
       case h63=>unfold maxLen;omega
       case hby=>omega
       intro v2 w2 hs2 hc2
       rw[lenb_val] at hs2
       have hst2:=Hh (hst.out.next (.cells #[.int .u8 ((s.size:Int)*8/2^(56-8*q)%256)] 5) (UInt8.ofNat (s.size*8/2^(56-8*q))) hs2 hc2)
       clear hs2 hc2 HA
       obtain⟨g2,cap4,hv2⟩:=hst2.out.form
       rw[hv2]
       rw[hv2] at hst2
       clear hv2 v2
       go_wp2_with fail
       go_roundw
       case rel=>exact⟨q+1,g2,cap4,m++[UInt8.ofNat (s.size*8/2^(56-8*q))],by omega,rfl,by go_num,(by rw[hm.out,List.append_assoc,lenb_succ]:m++[UInt8.ofNat (s.size*8/2^(56-8*q))]=l++lenb (s.size*8) (q+1)),hst2⟩
       case measure=>simp[intOf];omega
      ·have hq8':8<=q:=by omega
       have hcb:=hst.out.toStr
       go_wp2_with fail
       obtain⟨wv,rfl⟩:∃wv:World,wv=wr:=⟨_,rfl⟩
       have hml:Hid (m.length=t.size+1+j+q):=by have:=hst.out.sb.1;unfold byv at this;simpa[Hid] using this
       obtain⟨N,hN⟩:∃N:Nat,m.length=64*N:=by
        have h1:=hml.out
        have h2:=HZZ.out
        have h3:=HJ.out
        exact⟨(t.size+1+j+q)/64,by omega⟩
       have HN:=Hh hN
       clear hN
       go_loopw [7] (λx wr=>∃(r:Nat) (y:ByteArray),x=.string y/\Hid (y.data.toList=m.drop (64*r))/\Hid (64*r+y.size=m.length)/\Hid (Row wr w.heap.size 31 32 zb)/\Hid (Row wr (w.heap.size+1) 111 8 (uc (bls m (bls s.data.toList iv k) r)))/\Below w.heap.size w wr) (λx _=>strLen x)
       case atStart=>exact⟨0,⟨m.toArray⟩,rfl,(by simp:(⟨m.toArray⟩:ByteArray).data.toList=m.drop (64*0)),(by simp[ByteArray.size]:64*0+(⟨m.toArray⟩:ByteArray).size=m.length),hst.out.r0,hst.out.r1,hst.out.bel⟩
       case round=>
        clear hst hcb
        obtain⟨r,y,rfl,hy,hys,hR0,hR1,hbel⟩:=hrel
        by_cases hye:y.size=0
        ·have hE:(!y.toList.isEmpty)=false:=by
          rw[ByteArray.toList_eq]
          have:y.data.toList.length=0:=by rw[<-size_eq];exact hye
          rw[List.eq_nil_of_length_eq_zero this];rfl
         have hrN:Hid (r=N):=by have h1:=hys.out;have h2:=HN.out;show r=N;omega
         have hA1:=Hh (Row.arr (hR1.out.alloc (.cells (arr 32 zb) 31)))
         clear hye
         go_wp2_with (refine wpList_load_row rfl 111 _ rfl (w.heap.size+1) rfl 111 (arr 8 (uc (bls m (bls s.data.toList iv k) r))) (0,0) _ (by exact hA1.out) Tryz.underlying111 rfl (by kernel_rfl) ?_)
         obtain⟨HF,hHF⟩:∃HF:Nat->Int,HF=bls m (bls s.data.toList iv k) r:=⟨_,rfl⟩
         rw[<-hHF]
         have HHF:=Hh hHF
         have HFu:Hid (∀i,U (HF i)):=by
          rw[hHF];exact λi=>bls_u' _ (bls_u _ _) _ _
         clear hHF
         obtain⟨i62,hj,hj0,hj1,hj2⟩:=info_parts Tryz.info110
         have HXX:=Hh (λ(q:Nat) (hq:q<8) (W:World)=>run_index_array (P:=Tryz.prog) 111 110 8 _ i62 (arr 8 (uc HF)) q _ Tryz.underlying111 Tryz.underlying110 rfl hj hj1 hq (arr_at 8 (uc HF) hq) W)
         have hRd:Hid (Row (wr.alloc (.cells (arr 32 zb) 31)) wr.heap.size 31 32 (dgt HF 0)):=Row.congr (Row.ofList wr 31 _ zb 32 rfl) (λi hi=>(dgt_hi HF 0 i (by omega)).symm)
         clear hj hj0 hj1 hj2 hA1
         have hR0a:=Hh (hR0.out.alloc (.cells (arr 32 zb) 31))
         have hba:=hbel.alloc hbel.size (.cells (arr 32 zb) 31)
         have hlt0:w.heap.size<wr.heap.size:=hR0.out.lt
         have hne0:w.heap.size<=wr.heap.size:=by omega
         have hne:w.heap.size≠wr.heap.size:=by omega
         obtain⟨wz,rfl⟩:∃wz:World,wz=wr:=⟨_,rfl⟩
         go_loopw [56] (λy wr=>∃(q:Nat),q<=8/\y=.int .i64 q/\Hid (Row wr w.heap.size 31 32 zb)/\Hid (Row wr wz.heap.size 31 32 (dgt HF q))/\Below w.heap.size w wr) (λy _=>8-(intOf y).toNat)
         case atStart=>exact⟨0,by omega,rfl,hR0a,hRd,hba⟩
         case round=>
          clear hR0a hRd hba
          obtain⟨q5,hq5,rfl,hQ0,hQd,hbq⟩:=hrel
          by_cases hq58:q5<8
          ·have hxx:∀W,(Instr.index 111 (.agg (arr 8 (uc HF))) (.int .i64 (q5:Int))).run Tryz.prog W=.ok (.int .u32 (HF q5)) W:=HXX.out q5 hq58
           have y1:(q5:Int)<8:=by omega
           obtain⟨hu0,hu1⟩:=HFu.out q5
           have d0:=Row.cell hQd.out (i:=4*q5) (by omega)
           have d1:=Row.cell hQd.out (i:=4*q5+1) (by omega)
           have d2:=Row.cell hQd.out (i:=4*q5+2) (by omega)
           have d3:=Row.cell hQd.out (i:=4*q5+3) (by omega)
           rw[dgt_hi _ _ _ (by omega)] at d0 d1 d2 d3
           unfold zb at d0 d1 d2 d3
           have f0:=Row.frozen hQd.out (4*q5)
           have f1:=Row.frozen hQd.out (4*q5+1)
           have f2:=Row.frozen hQd.out (4*q5+2)
           have f3:=Row.frozen hQd.out (4*q5+3)
           go_wp2_with fail
           go_roundw
           case rel=>
            refine⟨q5+1,by omega,by go_num,?_,dgt_row hQd.out hq58 (HFu.out q5),(((hbq.setCell hne0 _).setCell hne0 _).setCell hne0 _).setCell hne0 _⟩
            exact(((hQ0.out.far hne _).far hne _).far hne _).far hne _
           case measure=>simp[intOf];omega
          ·have y1:¬(q5:Int)<8:=by omega
           have hQd8:Hid (Row wr wz.heap.size 31 32 (dgt HF 8)):=by rw[show q5=8 by omega] at hQd;exact hQd
           have hAd:=Hh hQd8.out.arr
           have hTh:=Hh (Row.there hQ0.out)
           go_wp2_with (first|(refine wpList_load_row rfl 31 _ rfl wz.heap.size rfl 31 (arr 32 (dgt HF 8)) (0,0) _ (by exact hAd.out) Tryz.underlying31 rfl (by kernel_rfl) ?_)|(refine wpList_store_mid rfl 31 _ _ rfl w.heap.size 0 (arr 32 (dgt HF 8)) rfl rfl (by exact hTh.out) (by kernel_rfl) (by kernel_rfl) ?_))
           have hrow:=Row.setWhole (u:=dgt HF 8) hQ0.out
           have hfin:Hid (arr 32 (dgt HF 8)=arr 32 (b8 (sumD s.data.toList))):=by
            have e:HF=sumH s.data.toList:=by
             rw[HHF.out]
             exact sum_final s.data.toList t.data.toList m k j q r N ht.out (by rw[<-size_eq,<-size_eq];omega) (by rw[<-size_eq];omega) (by rw[HJ.out,HZZ.out,size_eq]) (by omega) (by rw[hm.out,hl.out,size_eq]) hrN.out HN.out
            show arr 32 (dgt HF 8)=arr 32 (b8 (sumD s.data.toList))
            unfold arr
            congr 1
            apply List.map_congr_left
            intro i hi
            rw[dgt_lo _ _ _ (by have:=List.mem_range.1 hi;omega),e];rfl
           refine bodyPost_ret (v:=.agg (arr 32 (dgt HF 8))) (results_cell_row rfl _ _ w.heap.size 31 (arr 32 (dgt HF 8)) (0,0) _ rfl hrow.arr Tryz.underlying31 rfl (by kernel_rfl)) rfl ⟨?_,Below.setAll (Nat.le_refl _) _ _ _ hbq⟩
           rw[hfin.out]
        ·have hy64:64<=y.size:=by have h1:=hys.out;have h2:=HN.out;omega
         have hE:(!y.toList.isEmpty)=true:=by
          rw[ByteArray.toList_eq]
          rcases h:y.data.toList with _|⟨a,b⟩
          ·have:=size_eq y;rw[h] at this;simp only[List.length_nil] at this;omega
          ·rfl
         have HM:=Hh (mix_any (w.heap.size+1) (bls m (bls s.data.toList iv k) r) (y.extract 0 64) wr (ext_take_size y hy64) hR1.out (λi _=>bls_u' _ (bls_u _ _) _ _) (HR.out.below hbel h0) (by have:=hbel.size;omega))
         have HDS:=Hh (ext_drop_size y)
         go_wp2_with fail
         refine HM.out.mono ?_
         rintro e w2 ⟨rfl,hR1',hc1⟩
         have R1':=Hh hR1'
         have R0':=Hh (hR0.out.ch hc1 (by omega))
         have b1:Below w.heap.size w w2:=Below.thenCh hbel hc1 hbel.size (by intro i hi;omega)
         clear hR1' hc1 HM
         go_wp2_with fail
         go_roundw
         case rel=>
          refine⟨r+1,_,rfl,?_,?_,R0',?_,b1⟩
          ·show(y.extract 64 y.size).data.toList=_
           rw[ext_drop,hy.out,List.drop_drop]
           congr 1
          ·have h1:=hys.out
           show 64*(r+1)+(y.extract 64 y.size).size=m.length
           rw[HDS.out];omega
          ·have:=R1'.out
           rw[ext_take,hy.out] at this
           exact this
         case measure=>show(y.extract 64 y.size).size<y.size;rw[HDS.out];omega
    ·have e56:(((t.size:Int)+1+j)%64!=56)=true:=by
      have:=HZZ.out
      simp;omega
     have HA:=Hh (SB.alloc hst.out.sb (.cells #[.int .u8 0] 5))
     have hbs:=hst.out.bel.size
     go_wp2_with (at_builtin;refine wpList_push rfl _ _ 99 rfl i0 (.int .u8 0) (.int .u8 0) 1 Tryz.underlying99 hi hy0 hy1 hy2 rfl rfl (by exact HA.out) ⟨wr.heap.size,0,none⟩ 1 rfl ?hu rfl ?hb ?h63 ?hby ?_)
     case hu=>simp[go_sem]
     case hb=>simp;omega
     case h63=>unfold maxLen;omega
     case hby=>omega
     intro v2 w2 hs2 hc2
     have hst2:=Hh (hst.out.next (.cells #[.int .u8 0] 5) 0 hs2 hc2)
     clear hs2 hc2 HA
     obtain⟨g2,cap3,hv2⟩:=hst2.out.form
     rw[hv2]
     rw[hv2] at hst2
     clear hv2 v2
     go_wp2_with fail
     go_roundw
     case rel=>exact⟨j+1,g2,cap3,l++[0],by omega,rfl,(by rw[hl.out,List.append_assoc,<-List.replicate_succ']:l++[0]=t.data.toList++[128]++List.replicate (j+1) 0),hst2⟩
     case measure=>simp[sliceLen];omega
end Ms
namespace Ms
def dl (D:Nat->Int):List UInt8:=(List.range 32).map λi=>UInt8.ofNat (D i).toNat
def Byt (D:Nat->Int):Prop:=∀i,0<=D i/\D i<=255
theorem dl_len (D:Nat->Int):(dl D).length=32:=by simp[dl]
theorem dl_at {D:Nat->Int}(h:Byt D)(j:Nat)(hj:j<(dl D).length):(((dl D)[j].toNat:Nat):Int)=D j:=by
 have:=h j
 simp only[dl,List.getElem_map,List.getElem_range,UInt8.toNat_ofNat']
 omega
theorem sumD_byt (l:List UInt8):Byt (sumD l):=λi=>by unfold sumD dgb;omega
theorem cat_data (a b:List UInt8):(({ data:=a.toArray }++{ data:=b.toArray }:ByteArray)).data.toList=a++b:=by
 show(ByteArray.append _ _).data.toList=_
 simp[ByteArray.append]
theorem dig_str {W:World}{B t:Nat}{D:Nat->Int}(hD:Byt D)(h:Row W B t 32 (b8 D)):(convert 99 9 (.slice (some ⟨B,0,none⟩) 32 32)).run Tryz.prog W=.ok (.string ⟨(dl D).toArray⟩) W:=by
 have:=run_convert_bytes_back (P:=Tryz.prog) W 99 9 5 ⟨B,0,none⟩ 32 (dl D) Tryz.underlying99 Tryz.underlying5 Tryz.underlying9 (λj hj=>by
  rw[Addr.add_mid,Nat.zero_add,dl_at hD j hj]
  exact Row.cell h (by rw[dl_len] at hj;omega))
 rw[dl_len] at this
 exact this
theorem extend_any (A D:Nat->Int)(w:World)(hA:Byt A)(hD:Byt D)(hr:Rnd w)(h0:0<w.heap.size) :
  Calls Tryz.prog 114 #[.agg (arr 32 (b8 A)),.agg (arr 32 (b8 D))] w λe w'=>e=.returned (.agg (arr 32 (b8 (sumD (dl A++dl D)))))/\Below w.heap.size w w':=by
 go_enter Tryz.func114,Tryz.ntmps114
 go_wp2_with fail
 have hz:(#[Value.int .u8 0,.int .u8 0,.int .u8 0,.int .u8 0,.int .u8 0,.int .u8 0,.int .u8 0,.int .u8 0,.int .u8 0,.int .u8 0,.int .u8 0,.int .u8 0,.int .u8 0,.int .u8 0,.int .u8 0,.int .u8 0,.int .u8 0,.int .u8 0,.int .u8 0,.int .u8 0,.int .u8 0,.int .u8 0,.int .u8 0,.int .u8 0,.int .u8 0,.int .u8 0,.int .u8 0,.int .u8 0,.int .u8 0,.int .u8 0,.int .u8 0,.int .u8 0]:Array Value)=arr 32 zb:=by kernel_rfl
 rw[hz]
 clear hz
 have a1:Row (w.alloc (.cells (arr 32 (b8 A)) 31)) w.heap.size 31 32 (b8 A):=Row.ofList w 31 _ _ 32 rfl
 have a2:Row ((w.alloc (.cells (arr 32 (b8 A)) 31)).alloc (.cells (arr 32 (b8 D)) 31)) (w.heap.size+1) 31 32 (b8 D):=Row.ofListAt _ _ 31 (by simp) _ _ 32 rfl
 have a3:Row (((w.alloc (.cells (arr 32 (b8 A)) 31)).alloc (.cells (arr 32 (b8 D)) 31)).alloc (.cells (arr 32 zb) 31)) (w.heap.size+1+1) 31 32 zb:=Row.ofListAt _ _ 31 (by simp) _ _ 32 rfl
 have b1:=(a1.alloc (.cells (arr 32 (b8 D)) 31)).alloc (.cells (arr 32 zb) 31)
 have b2:=a2.alloc (.cells (arr 32 zb) 31)
 have hb:Below w.heap.size w (((w.alloc (.cells (arr 32 (b8 A)) 31)).alloc (.cells (arr 32 (b8 D)) 31)).alloc (.cells (arr 32 zb) 31)):=(((Below.refl _ _).alloc (Nat.le_refl _) _).alloc (by simp) _).alloc (by simp;omega) _
 clear a1 a2
 generalize ((w.alloc (.cells (arr 32 (b8 A)) 31)).alloc (.cells (arr 32 (b8 D)) 31)).alloc (.cells (arr 32 zb) 31)=W at a3 b1 b2 hb ⊢
 have c1:=dig_str hA b1.drew
 have c2:=dig_str hD b2.drew
 have hln:¬9223372036854775807<(dl A).length+(dl D).length:=by rw[dl_len,dl_len];omega
 have HR:=Hh (hr.below (hb.drew) h0)
 have hbW:=hb.size
 go_still_tail 5,(by kernel_rfl)
 obtain⟨S,hS⟩:∃S:ByteArray,S=({ data:=(dl A).toArray }++{ data:=(dl D).toArray }:ByteArray):=⟨_,rfl⟩
 have HSd:Hid (S.data.toList=dl A++dl D):=by rw[hS];exact cat_data _ _
 have hSz:S.size<=1073741824:=by rw[size_eq,HSd.out,List.length_append,dl_len,dl_len];omega
 rw[<-hS]
 clear hS c1 c2
 have A3:=Hh a3.drew
 have HB:=Hh hb.drew
 clear a3 b1 b2 hb hr
 change wpList _ _ _ _ _ W.drew
 generalize W.drew=V at A3 HR HB ⊢
 go_wp2_with fail
 refine(sum_any S V hSz HR.out (by have:=HB.out.size;omega)).mono ?_
 rintro e V2 ⟨rfl,hb2⟩
 rw[HSd.out]
 have A4:=Hh (A3.out.below hb2 A3.out.lt)
 have hT:=Hh (Row.there A4.out)
 have HB2:=Hh (bthen HB.out hb2)
 clear hb2
 go_wp2_with (refine wpList_store_mid rfl 31 _ _ rfl (w.heap.size+1+1) 0 (arr 32 (b8 (sumD (dl A++dl D)))) rfl rfl (by exact hT.out) (by kernel_rfl) (by kernel_rfl) ?_)
 have hrow:=Row.setWhole (u:=b8 (sumD (dl A++dl D))) A4.out
 exact bodyPost_ret (v:=.agg (arr 32 (b8 (sumD (dl A++dl D))))) (results_cell_row rfl _ _ (w.heap.size+1+1) 31 (arr 32 (b8 (sumD (dl A++dl D)))) (0,0) _ rfl hrow.arr Tryz.underlying31 rfl (by kernel_rfl)) rfl ⟨rfl,Below.setAll (by omega) _ _ _ HB2.out⟩
end Ms
namespace Ms
theorem or_add {a b i:Nat}(h:b<2^i):a*2^i ||| b=a*2^i+b:=by
 rw[<-Nat.shiftLeft_eq,Nat.shiftLeft_add_eq_or_of_lt h]
theorem wd_add (s:List UInt8)(k:Nat):wd s k=(bt s (4*k)*16777216+bt s (4*k+1)*65536+bt s (4*k+2)*256+bt s (4*k+3))%4294967296:=by
 unfold wd or3 bt
 have l0:=(s.getD (4*k) 0).toNat_lt
 have l1:=(s.getD (4*k+1) 0).toNat_lt
 have l2:=(s.getD (4*k+2) 0).toNat_lt
 have l3:=(s.getD (4*k+3) 0).toNat_lt
 generalize (s.getD (4*k) 0).toNat=a at *
 generalize (s.getD (4*k+1) 0).toNat=b at *
 generalize (s.getD (4*k+2) 0).toNat=c at *
 generalize (s.getD (4*k+3) 0).toNat=d at *
 have e1:(a:Int)*16777216=((a*16777216:Nat):Int):=by omega
 have e2:(b:Int)*65536=((b*65536:Nat):Int):=by omega
 have e3:(c:Int)*256=((c*256:Nat):Int):=by omega
 rw[e1,e2,e3,u32_or_nat _ _ (by omega) (by omega)]
 have o1:a*16777216 ||| b*65536=a*16777216+b*65536:=or_add (i:=24) (by omega)
 rw[o1,u32_or_nat _ _ (by omega) (by omega)]
 have o2:(a*16777216+b*65536) ||| c*256=a*16777216+b*65536+c*256:=by
  have:=or_add (a:=a*256+b) (b:=c*256) (i:=16) (by omega)
  rw[show(a*256+b)*2^16=a*16777216+b*65536 by omega] at this
  exact this
 rw[o2,u32_or_nat _ _ (by omega) (by omega)]
 have o3:(a*16777216+b*65536+c*256) ||| d=a*16777216+b*65536+c*256+d:=by
  have:=or_add (a:=a*65536+b*256+c) (b:=d) (i:=8) (by omega)
  rw[show(a*65536+b*256+c)*2^8=a*16777216+b*65536+c*256 by omega] at this
  exact this
 rw[o3]
 omega
theorem wdr_eq (s:ByteArray)(k:Nat)(h0:4*k<s.size)(h1:4*k+1<s.size)(h2:4*k+2<s.size)(h3:4*k+3<s.size) :
  ((((s[4*k].toNat:Nat):Int)%4294967296*16777216%4294967296)+(((s[4*k+1].toNat:Nat):Int)%4294967296*65536%4294967296)+(((s[4*k+2].toNat:Nat):Int)%4294967296*256%4294967296)+(((s[4*k+3].toNat:Nat):Int)%4294967296))%4294967296=wd s.data.toList k:=by
 rw[byte_at s _ h0,byte_at s _ h1,byte_at s _ h2,byte_at s _ h3,wd_add]
 have b0:=bt_bd s.data.toList (4*k)
 have b1:=bt_bd s.data.toList (4*k+1)
 have b2:=bt_bd s.data.toList (4*k+2)
 have b3:=bt_bd s.data.toList (4*k+3)
 omega
theorem stl {f:FuncId}{args:Array Value}{w:World}{v:Value}(h:Calls Tryz.prog f args w λe w'=>e=.returned v/\w=w'):Calls Tryz.prog f args w λe w'=>e=.returned v/\w'=w:=h.mono λ_ _ ⟨a,b⟩=>⟨a,b.symm⟩
theorem wpList_run {P:Program}{ops:Array Oper}{rest:List Oper}{o:Oper}{a:Act}{w:World}{Q:Exit->Act->World->Prop}(hg:o.guard=none)(v:Value)(w':World)
  (h:(execOp a.eval o).run P w=.ok (.value v) w') (hK:wpList P ops Q rest (a.put o.dst v) w'):wpList P ops Q (o::rest) a w:=
 wpList_plain hg λ K hk=>by unfold Oper.wp;rw[h];exact hk _ _ hK
theorem words_any (w:World):Calls Tryz.prog 151 #[] w λe w'=>e=.returned (.agg (arr 64 (uc rc)))/\Below w.heap.size w w':=by
 have hT:(w.alloc (.cells (arr 64 (uc λ_=>0)) 184)).there w.heap.size 0 64:=(Row.ofList w 184 _ _ 64 rfl).there
 have hrow:=Row.setWhole (u:=uc rc) (Row.ofList w 184 (arr 64 (uc λ_=>0)) (uc λ_=>0) 64 rfl)
 have HT:=Hh hT
 have HRow:=Hh hrow
 clear hT hrow
 go_enter Tryz.func151,Tryz.ntmps151
 iterate 3 go_step
 refine wpList_run (by rfl) (.pointer (some ⟨w.heap.size,0,none⟩)) (w.alloc (.cells (arr 64 (uc λ_=>0)) 184)) (by kernel_rfl) ?_
 go_wp2_with (first|(refine wpList_run (by rfl) (.agg (arr 64 (uc rc))) _ (by kernel_rfl) ?_)|(refine wpList_store_mid rfl 184 _ _ rfl w.heap.size 0 (arr 64 (uc rc)) rfl rfl (by exact HT.out) (by kernel_rfl) (by kernel_rfl) ?_))
 exact bodyPost_ret (v:=.agg (arr 64 (uc rc))) (results_cell_row rfl _ _ w.heap.size 184 (arr 64 (uc rc)) (0,0) _ rfl HRow.out.arr Tryz.underlying184 rfl (by kernel_rfl)) rfl ⟨rfl,Below.setAll (Nat.le_refl _) _ _ _ ((Below.refl _ _).alloc (Nat.le_refl _) _)⟩
end Ms
namespace Ms
open Classical in
noncomputable def ldN (n:Nat)(w:World)(v:Value):Option (Array Value):=match v with
 | .pointer (some ⟨b,o,none⟩)=>if ∃cs:Array Value,cs.size=n/\w.rangeAt b o cs.toList then some (arr n λj=>(w.cell? ⟨b,o+j,none⟩).getD undef) else none
 | _=>none
theorem ldN_of {n:Nat}{w:World}{b o:Nat}{cs:Array Value}(h:w.rangeAt b o cs.toList)(hs:cs.size=n):ldN n w (.pointer (some ⟨b,o,none⟩))=some cs:=by
 have h1:∃cs:Array Value,cs.size=n/\w.rangeAt b o cs.toList:=⟨cs,hs,h⟩
 simp only[ldN]
 rw[if_pos h1]
 congr 1
 apply Array.ext
 ·simp[arr,hs]
 ·intro i h1 h2
  have:=h i cs[i] (by simp[h2])
  simp[arr,this]
theorem load_n (T n:Nat)(dd:TypeDesc)(hu:Tryz.prog.underlying T=some dd)(hd:dd.isRow=true)(hi:(Tryz.prog.info? T).map (·.size)=some n)
  (ρ:Operand->Value) (d:Option Tmp) (x:Operand) (ty:TypeId) (p:String) (af:Array Edge) (g:Option (Nat×Bool)) (w:World) :
  Sem.run Tryz.prog (execOp ρ { dst:=d,op:=.load T x,type:=ty,pos:=p,after:=af,guard:=g }) w =
   match ldN n w (ρ x) with
   | some cs=>.ok (.value (.agg cs)) w
   | none=>Sem.run Tryz.prog (Instr.loadAt T (ρ x) >>= λv=>pure (Next.value v)) w:=by
 show Sem.run Tryz.prog (Instr.loadAt T (ρ x) >>= λv=>pure (Next.value v)) w=_
 generalize ρ x=X
 split
 ·next cs h=>
  have h':=h
  unfold ldN at h'
  split at h'
  ·split at h'
   ·next b o hc=>
    obtain⟨cs2,hs,hr⟩:=hc
    rw[ldN_of hr hs] at h
    injection h with h
    subst h
    rw[Sem.run_bind,run_loadAt_mid w b o T cs2.toList _ hr hu hd (by rw[Array.length_toList,hs];exact hi)]
    simp[Result.andThen]
   ·cases h'
  ·cases h'
 ·rfl
open Classical in
noncomputable def stN (n:Nat)(w:World)(x y:Value):Option (Nat×Nat×Array Value):=match x,y with
 | .pointer (some ⟨b,o,none⟩),.agg cs=>if cs.size=n/\w.there b o n/\cs.all (·.oneCell')=true then some (b,o,cs) else none
 | _,_=>none
theorem stN_of {n:Nat}{w:World}{b o:Nat}{cs:Array Value}(hs:cs.size=n)(ht:w.there b o n)(h1:cs.all (·.oneCell')=true):stN n w (.pointer (some ⟨b,o,none⟩)) (.agg cs)=some (b,o,cs):=if_pos ⟨hs,ht,h1⟩
theorem store_n (T n:Nat)(hi:(Tryz.prog.info? T).map (·.size)=some n)(ρ:Operand->Value)(d:Option Tmp)(x y:Operand)(ty:TypeId)(p:String)(af:Array Edge)(g:Option (Nat×Bool))(w:World) :
  Sem.run Tryz.prog (execOp ρ { dst:=d,op:=.store T x y,type:=ty,pos:=p,after:=af,guard:=g }) w =
   match stN n w (ρ x) (ρ y) with
   | some (b,o,cs)=>.ok .skip (w.setCells b o cs.toList)
   | none=>Sem.run Tryz.prog (Instr.storeAt T (ρ x) (ρ y) >>= λ_=>pure Next.skip) w:=by
 show Sem.run Tryz.prog (Instr.storeAt T (ρ x) (ρ y) >>= λ_=>pure Next.skip) w=_
 generalize ρ x=X,ρ y=Y
 split
 ·next b o cs h=>
  unfold stN at h
  split at h
  ·split at h
   ·next b' o' cs' hc=>
    injection h with h
    injection h with h1 h2
    injection h2 with h2 h3
    subst h1 h2 h3
    rw[Sem.run_bind,run_storeAt_mid w _ _ T _ (by rw[hc.1];exact hc.2.1) (by rw[hc.1];exact hi) hc.2.2]
    rfl
   ·cases h
  ·cases h
 ·rfl
theorem all_one (n:Nat)(f:Nat->Value)(h:∀i,(f i).oneCell'=true):(arr n f).all (·.oneCell')=true:=by
 unfold arr
 apply all_oneCell_toArray
 intro v hv
 obtain⟨i,_,rfl⟩:=List.mem_map.1 hv
 exact h i
theorem stN_new (n t:Nat)(w:World)(f g:Nat->Value)(h:∀i,(g i).oneCell'=true):stN n (w.alloc (.cells (arr n f) t)) (.pointer (some ⟨w.heap.size,0,none⟩)) (.agg (arr n g))=some (w.heap.size,0,arr n g):=
 stN_of (by simp[arr]) ((Row.ofList w t (arr n f) f n rfl).there) (all_one n g h)
theorem stN_b8 (t:Nat)(w:World)(f:Nat->Value)(D:Nat->Int):stN 32 (w.alloc (.cells (arr 32 f) t)) (.pointer (some ⟨w.heap.size,0,none⟩)) (.agg (arr 32 (b8 D)))=some (w.heap.size,0,arr 32 (b8 D)):=stN_new _ _ _ _ _ (λ_=>rfl)
theorem stN_uc (n t:Nat)(w:World)(f:Nat->Value)(D:Nat->Int):stN n (w.alloc (.cells (arr n f) t)) (.pointer (some ⟨w.heap.size,0,none⟩)) (.agg (arr n (uc D)))=some (w.heap.size,0,arr n (uc D)):=stN_new _ _ _ _ _ (λ_=>rfl)
theorem setCells_heap (b:Nat):∀(vs:List Value) (o:Nat) (w:World),∃h,w.setCells b o vs={ w with heap:=h }/\h.size=w.heap.size/\∀k,k≠b->h[k]? = w.heap[k]?
 | [],_,w=>⟨w.heap,rfl,rfl,λ_ _=>rfl⟩
 | u::r,o,w=>by
  obtain⟨h,e,hs,hk⟩:=setCells_heap b r (o+1) (w.setCell ⟨b,o,none⟩ u)
  refine⟨h,e,?_,λk hkb=>?_⟩
  ·rw[hs];simp[World.setCell]
  ·rw[hk k hkb,Below.heap_setCell w ⟨b,o,none⟩ u k hkb]
theorem set_new (n t:Nat)(w:World)(f g:Nat->Value):(w.alloc (.cells (arr n f) t)).setCells w.heap.size 0 (arr n g).toList=w.alloc (.cells (arr n g) t):=by
 obtain⟨h,e,hs,hk⟩:=setCells_heap w.heap.size (arr n g).toList 0 (w.alloc (.cells (arr n f) t))
 have hr:=(Row.setWhole (u:=g) (Row.ofList w t (arr n f) f n rfl)).arr
 rw[e] at hr ⊢
 have:h=(w.alloc (.cells (arr n g) t)).heap:=by
  apply Array.ext_getElem?
  intro k
  by_cases hkb:k=w.heap.size
  ·subst hkb
   rw[heap_alloc_new w _]
   exact hr
  ·rw[hk k hkb]
   rcases Nat.lt_or_ge k w.heap.size with hl|hl
   ·rw[Below.heap_alloc w _ k hl,Below.heap_alloc w _ k hl]
   ·rw[Array.getElem?_eq_none (by simp;omega),Array.getElem?_eq_none (by simp;omega)]
 rw[this]
 rfl
theorem alloc26 (ρ:Operand->Value)(d:Option Tmp)(ty:TypeId)(p:String)(af:Array Edge)(g:Option (Nat×Bool))(w:World) :
  Sem.run Tryz.prog (execOp ρ { dst:=d,op:=.alloc 31,type:=ty,pos:=p,after:=af,guard:=g }) w=.ok (.value (.pointer (some ⟨w.heap.size,0,none⟩))) (w.alloc (.cells (arr 32 zb) 31)):=by kernel_rfl
theorem alloc63 (ρ:Operand->Value)(d:Option Tmp)(ty:TypeId)(p:String)(af:Array Edge)(g:Option (Nat×Bool))(w:World) :
  Sem.run Tryz.prog (execOp ρ { dst:=d,op:=.alloc 111,type:=ty,pos:=p,after:=af,guard:=g }) w=.ok (.value (.pointer (some ⟨w.heap.size,0,none⟩))) (w.alloc (.cells (arr 8 (uc λ_=>0)) 111)):=by kernel_rfl
theorem alloc77 (ρ:Operand->Value)(d:Option Tmp)(ty:TypeId)(p:String)(af:Array Edge)(g:Option (Nat×Bool))(w:World) :
  Sem.run Tryz.prog (execOp ρ { dst:=d,op:=.alloc 184,type:=ty,pos:=p,after:=af,guard:=g }) w=.ok (.value (.pointer (some ⟨w.heap.size,0,none⟩))) (w.alloc (.cells (arr 64 (uc λ_=>0)) 184)):=by kernel_rfl
theorem load26n (ρ:Operand->Value)(d:Option Tmp)(x:Operand)(ty:TypeId)(p:String)(af:Array Edge)(g:Option (Nat×Bool))(w:World) :
  Sem.run Tryz.prog (execOp ρ { dst:=d,op:=.load 31 x,type:=ty,pos:=p,after:=af,guard:=g }) w =
   match ldN 32 w (ρ x) with
   | some cs=>.ok (.value (.agg cs)) w
   | none=>Sem.run Tryz.prog (Instr.loadAt 31 (ρ x) >>= λv=>pure (Next.value v)) w:=load_n 31 32 _ Tryz.underlying31 rfl (by kernel_rfl) ρ d x ty p af g w
theorem store26n (ρ:Operand->Value)(d:Option Tmp)(x y:Operand)(ty:TypeId)(p:String)(af:Array Edge)(g:Option (Nat×Bool))(w:World) :
  Sem.run Tryz.prog (execOp ρ { dst:=d,op:=.store 31 x y,type:=ty,pos:=p,after:=af,guard:=g }) w =
   match stN 32 w (ρ x) (ρ y) with
   | some (b,o,cs)=>.ok .skip (w.setCells b o cs.toList)
   | none=>Sem.run Tryz.prog (Instr.storeAt 31 (ρ x) (ρ y) >>= λ_=>pure Next.skip) w:=store_n 31 32 (by kernel_rfl) ρ d x y ty p af g w
theorem load63n (ρ:Operand->Value)(d:Option Tmp)(x:Operand)(ty:TypeId)(p:String)(af:Array Edge)(g:Option (Nat×Bool))(w:World) :
  Sem.run Tryz.prog (execOp ρ { dst:=d,op:=.load 111 x,type:=ty,pos:=p,after:=af,guard:=g }) w =
   match ldN 8 w (ρ x) with
   | some cs=>.ok (.value (.agg cs)) w
   | none=>Sem.run Tryz.prog (Instr.loadAt 111 (ρ x) >>= λv=>pure (Next.value v)) w:=load_n 111 8 _ Tryz.underlying111 rfl (by kernel_rfl) ρ d x ty p af g w
theorem store63n (ρ:Operand->Value)(d:Option Tmp)(x y:Operand)(ty:TypeId)(p:String)(af:Array Edge)(g:Option (Nat×Bool))(w:World) :
  Sem.run Tryz.prog (execOp ρ { dst:=d,op:=.store 111 x y,type:=ty,pos:=p,after:=af,guard:=g }) w =
   match stN 8 w (ρ x) (ρ y) with
   | some (b,o,cs)=>.ok .skip (w.setCells b o cs.toList)
   | none=>Sem.run Tryz.prog (Instr.storeAt 111 (ρ x) (ρ y) >>= λ_=>pure Next.skip) w:=store_n 111 8 (by kernel_rfl) ρ d x y ty p af g w
theorem store77n (ρ:Operand->Value)(d:Option Tmp)(x y:Operand)(ty:TypeId)(p:String)(af:Array Edge)(g:Option (Nat×Bool))(w:World) :
  Sem.run Tryz.prog (execOp ρ { dst:=d,op:=.store 184 x y,type:=ty,pos:=p,after:=af,guard:=g }) w =
   match stN 64 w (ρ x) (ρ y) with
   | some (b,o,cs)=>.ok .skip (w.setCells b o cs.toList)
   | none=>Sem.run Tryz.prog (Instr.storeAt 184 (ρ x) (ρ y) >>= λ_=>pure Next.skip) w:=store_n 184 64 (by kernel_rfl) ρ d x y ty p af g w
end Ms
end Go.Proofs.YtdinbpdpalgohaaGreatDoor
