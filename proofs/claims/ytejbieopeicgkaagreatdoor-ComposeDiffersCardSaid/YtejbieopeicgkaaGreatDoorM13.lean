/- Parts of the proof, one after the other: The checker's reference: nodes walked. The checker's reference walked: Check, Sets, Holds. The checker's reference walked: Holds. The reference of products walked: Worlds. The reference of products walked: value. The reference of products walked: Update. The reference of products walked: At, SamePairs; the laws ProductUpdates and ProductAt. Events that differ, in the reference's way: Differ walked. The example of the laws of compositions walked. The law ComposeOrder walked. Events that differ: what Differ of the program is answered, and events as arguments. The law ComposeDiffers walked. -/
import Derived.Test.YtejbieopeicgkaaGreatDoorM12
set_option maxRecDepth 100000
set_option maxHeartbeats 4000000
namespace Go.Proofs.YtejbieopeicgkaaGreatDoor
open Go Go.Dv
theorem le_u64 {v:Int} {q:Nat} (h:v=(q:Int)):PLe (.int .u64 v) (u64 q):=by subst h;exact .refl _
def booN (n:Nat) (op:Int) (x y:Nat):Nat :=
 bif op==1 then 2^n-1 else bif op==4 then notN n x else bif op==5 then x&&&y else bif op==6 then x |||y else bif op==7 then notN n x |||y else bif op==8 then notN n (x ^^^ y) else 0
theorem rc_Boolean (n:Nat) (op:Int) (a b:Nat) (hn:n<=64) (ha:a<2^n) (hb:b<2^n):PureFn Tryz.prog 226 [.int .i64 op,u64 a,u64 b,u64 (2^n-1)] (u64 (booN n op a b)):=by
 refine PureFn.intro mixed (fn:=Tryz.f226) rfl rfl rfl fun M w0 => ?_
 have h64:=z0j hn;have ha64:a<2^64:=by omega
 have hb64:b<2^64:=by omega
 unfold booN
 cases f1:(op==1) with
 |true =>
  (try conv=>whnf);repeat' (first|(apply And.intro<;>try conv=>whnf)|(intro h;first|with_reducible exact tf (by assumption) h|try conv=>whnf))
  exact .refl _
 |false =>
 cases f4:(op==4) with
 |true =>
  (try conv=>whnf);repeat' (first|(apply And.intro<;>try conv=>whnf)|(intro h;first|with_reducible exact tf h (by assumption)|with_reducible exact tf (by assumption) h|try conv=>whnf))
  exact le_u64 (andNotU_all hn)
 |false =>
 cases f5:(op==5) with
 |true =>
  (try conv=>whnf);repeat' (first|(apply And.intro<;>try conv=>whnf)|(intro h;first|with_reducible exact tf h (by assumption)|with_reducible exact tf (by assumption) h|try conv=>whnf))
  exact le_u64 (andU_nat ha64 hb64)
 |false =>
 cases f6:(op==6) with
 |true =>
  (try conv=>whnf);repeat' (first|(apply And.intro<;>try conv=>whnf)|(intro h;first|with_reducible exact tf h (by assumption)|with_reducible exact tf (by assumption) h|try conv=>whnf))
  exact le_u64 (orU_nat ha64 hb64)
 |false =>
 cases f7:(op==7) with
 |true =>
  (try conv=>whnf);repeat' (first|(apply And.intro<;>try conv=>whnf)|(intro h;first|with_reducible exact tf h (by assumption)|with_reducible exact tf (by assumption) h|try conv=>whnf))
  refine le_u64 ?_
  show orU (z0z ((2^n-1:Nat):Int) (a:Nat)) (b:Nat)=_
  rw[andNotU_all hn];exact orU_nat (Nat.lt_of_lt_of_le (notN_lt n a) h64) hb64
 |false =>
 cases f8:(op==8) with
 |true =>
  (try conv=>whnf);repeat' (first|(apply And.intro<;>try conv=>whnf)|(intro h;first|with_reducible exact tf h (by assumption)|with_reducible exact tf (by assumption) h|try conv=>whnf))
  refine le_u64 ?_
  show z0z ((2^n-1:Nat):Int) (xorU (a:Nat) (b:Nat))=_
  rw[xorU_nat ha64 hb64];exact andNotU_all hn
 |false =>
  (try conv=>whnf);repeat' (first|(apply And.intro<;>try conv=>whnf)|(intro h;first|with_reducible exact tf h (by assumption)|try conv=>whnf))
  exact .refl _
def cellsNd (op i e g x y:Int):List DV:=[.pv (.int .i64 op),.pv (.int .i64 i),.pv (.int .i64 e),.pv (.int .i64 g),.pv (.int .i64 x),.pv (.int .i64 y)]
theorem rc_One (m:Mo) (n:Nat) (hM:OkM m n) (x:Nd) (k:Int) (hk:OkNd x k) (hq:fitQ m x.op x.i x.e x.g=true) (a b:Nat) (ha:a<2^n) (hb:b<2^n):PureFn Tryz.prog 203 [m.pv,x.pv,u64 a,u64 b] (u64 (vlN m n x.op x.i x.g a b)):=by
 obtain⟨op,i,e,g,xx,yy⟩:=x;refine PureFn.introC [2] mixed (fn:=Tryz.f203) rfl rfl rfl fun M w0 => ?_
 have hn1:=hM.n1;have hn:=hM.n64;have h64:=z0j hn;have hag:=hM.ag;have ha64:a<2^64:=by omega
 have hb64:b<2^64:=by omega
 have hmn:=hM.nn;have hAll:=rm_All n hn;rw[show i64 n=.int .i64 m.n by rw[hmn];rfl] at hAll;have hBo:=rc_Boolean n op a b hn ha hb
 try conv=>whnf
 refine⟨Unit,fun _=>[(2,.pv (u64 a)),(3,.pv (u64 b)),(4,.ref 0 0),(5,.ref 1 0),(9,.pv (u64 (2^n-1)))],fun _=>2,fun _=>[(0,.var (q0e m)),(1,.var (cellsNd op i e g xx yy))],?_,?_⟩
 ·(try conv=>whnf);repeat' (first|(refine PureFn.dy hAll rfl ?_;try conv=>whnf)|fail)
  exact⟨(),(by exact Wk.s rfl)⟩
 rintro⟨⟩;have hop:op=1\/op=2\/op=3\/op=4\/op=5\/op=6\/op=7\/op=8\/op=9\/op=10\/op=11\/op=12\/op=13:=by have:=hk.op.1;have:=fitQ_13 hq;simp only at *;omega
 rcases hop with rfl|rfl|rfl|rfl|rfl|rfl|rfl|rfl|rfl|rfl|rfl|rfl|rfl
 ·skip
  have f1:((1:Int)==1)=true:=rfl;have f2:((1:Int)==2)=false:=rfl;have f3:((1:Int)==3)=false:=rfl;have f4:((1:Int)==4)=false:=rfl;have f5:((1:Int)==5)=false:=rfl;have f6:((1:Int)==6)=false:=rfl;have f7:((1:Int)==7)=false:=rfl;have f8:((1:Int)==8)=false:=rfl;have f9:((1:Int)==9)=false:=rfl;have f10:((1:Int)==10)=false:=rfl;have f11:((1:Int)==11)=false:=rfl;have f12:((1:Int)==12)=false:=rfl;have f13:((1:Int)==13)=false:=rfl;have fle:decide ((1:Int)<=8)=true:=rfl
  (try conv=>whnf);repeat' (first|(apply And.intro<;>try conv=>whnf)|(intro h;first|with_reducible exact tf h (by assumption)|with_reducible exact tf (by assumption) h|try conv=>whnf)|(refine PureFn.dy hBo rfl ?_;try conv=>whnf)|fail)
  exact .refl _
 ·skip
  have f1:((2:Int)==1)=false:=rfl;have f2:((2:Int)==2)=true:=rfl;have f3:((2:Int)==3)=false:=rfl;have f4:((2:Int)==4)=false:=rfl;have f5:((2:Int)==5)=false:=rfl;have f6:((2:Int)==6)=false:=rfl;have f7:((2:Int)==7)=false:=rfl;have f8:((2:Int)==8)=false:=rfl;have f9:((2:Int)==9)=false:=rfl;have f10:((2:Int)==10)=false:=rfl;have f11:((2:Int)==11)=false:=rfl;have f12:((2:Int)==12)=false:=rfl;have f13:((2:Int)==13)=false:=rfl;have fle:decide ((2:Int)<=8)=true:=rfl
  (try conv=>whnf);repeat' (first|(apply And.intro<;>try conv=>whnf)|(intro h;first|with_reducible exact tf h (by assumption)|with_reducible exact tf (by assumption) h|try conv=>whnf)|(refine PureFn.dy hBo rfl ?_;try conv=>whnf)|fail)
  exact .refl _
 ·skip
  have f1:((3:Int)==1)=false:=rfl;have f2:((3:Int)==2)=false:=rfl;have f3:((3:Int)==3)=true:=rfl;have f4:((3:Int)==4)=false:=rfl;have f5:((3:Int)==5)=false:=rfl;have f6:((3:Int)==6)=false:=rfl;have f7:((3:Int)==7)=false:=rfl;have f8:((3:Int)==8)=false:=rfl;have f9:((3:Int)==9)=false:=rfl;have f10:((3:Int)==10)=false:=rfl;have f11:((3:Int)==11)=false:=rfl;have f12:((3:Int)==12)=false:=rfl;have f13:((3:Int)==13)=false:=rfl;have fle:decide ((3:Int)<=8)=true:=rfl;have hi:=(hk.fact rfl).1;simp only at hi;obtain⟨j,rfl⟩:∃ j:Nat,i=j:=⟨i.toNat,by omega⟩
  have h9:decide ((j:Int)>=(m.val.length:Int))=false:=by
   have h:(!decide ((j:Int)>=(m.val.length:Int)))=true:=hq;simpa using h
  have h8:=of_decide_eq_false h9;have hm:m.val[j]? = some (m.val.getD j 0):=q0f (by omega)
  (try conv=>whnf);repeat' (first|(apply And.intro<;>try conv=>whnf)|(intro h;first|with_reducible exact tf (by assumption) h|try conv=>whnf)|(apply q0i;rfl)|(refine⟨_,_,rfl,q0a (by with_reducible assumption),rfl,?_⟩;try conv=>whnf)|fail)
  exact .refl _
 ·skip
  have f1:((4:Int)==1)=false:=rfl;have f2:((4:Int)==2)=false:=rfl;have f3:((4:Int)==3)=false:=rfl;have f4:((4:Int)==4)=true:=rfl;have f5:((4:Int)==5)=false:=rfl;have f6:((4:Int)==6)=false:=rfl;have f7:((4:Int)==7)=false:=rfl;have f8:((4:Int)==8)=false:=rfl;have f9:((4:Int)==9)=false:=rfl;have f10:((4:Int)==10)=false:=rfl;have f11:((4:Int)==11)=false:=rfl;have f12:((4:Int)==12)=false:=rfl;have f13:((4:Int)==13)=false:=rfl;have fle:decide ((4:Int)<=8)=true:=rfl
  (try conv=>whnf);repeat' (first|(apply And.intro<;>try conv=>whnf)|(intro h;first|with_reducible exact tf h (by assumption)|with_reducible exact tf (by assumption) h|try conv=>whnf)|(refine PureFn.dy hBo rfl ?_;try conv=>whnf)|fail)
  exact .refl _
 ·skip
  have f1:((5:Int)==1)=false:=rfl;have f2:((5:Int)==2)=false:=rfl;have f3:((5:Int)==3)=false:=rfl;have f4:((5:Int)==4)=false:=rfl;have f5:((5:Int)==5)=true:=rfl;have f6:((5:Int)==6)=false:=rfl;have f7:((5:Int)==7)=false:=rfl;have f8:((5:Int)==8)=false:=rfl;have f9:((5:Int)==9)=false:=rfl;have f10:((5:Int)==10)=false:=rfl;have f11:((5:Int)==11)=false:=rfl;have f12:((5:Int)==12)=false:=rfl;have f13:((5:Int)==13)=false:=rfl;have fle:decide ((5:Int)<=8)=true:=rfl
  (try conv=>whnf);repeat' (first|(apply And.intro<;>try conv=>whnf)|(intro h;first|with_reducible exact tf h (by assumption)|with_reducible exact tf (by assumption) h|try conv=>whnf)|(refine PureFn.dy hBo rfl ?_;try conv=>whnf)|fail)
  exact .refl _
 ·skip
  have f1:((6:Int)==1)=false:=rfl;have f2:((6:Int)==2)=false:=rfl;have f3:((6:Int)==3)=false:=rfl;have f4:((6:Int)==4)=false:=rfl;have f5:((6:Int)==5)=false:=rfl;have f6:((6:Int)==6)=true:=rfl;have f7:((6:Int)==7)=false:=rfl;have f8:((6:Int)==8)=false:=rfl;have f9:((6:Int)==9)=false:=rfl;have f10:((6:Int)==10)=false:=rfl;have f11:((6:Int)==11)=false:=rfl;have f12:((6:Int)==12)=false:=rfl;have f13:((6:Int)==13)=false:=rfl;have fle:decide ((6:Int)<=8)=true:=rfl
  (try conv=>whnf);repeat' (first|(apply And.intro<;>try conv=>whnf)|(intro h;first|with_reducible exact tf h (by assumption)|with_reducible exact tf (by assumption) h|try conv=>whnf)|(refine PureFn.dy hBo rfl ?_;try conv=>whnf)|fail)
  exact .refl _
 ·skip
  have f1:((7:Int)==1)=false:=rfl;have f2:((7:Int)==2)=false:=rfl;have f3:((7:Int)==3)=false:=rfl;have f4:((7:Int)==4)=false:=rfl;have f5:((7:Int)==5)=false:=rfl;have f6:((7:Int)==6)=false:=rfl;have f7:((7:Int)==7)=true:=rfl;have f8:((7:Int)==8)=false:=rfl;have f9:((7:Int)==9)=false:=rfl;have f10:((7:Int)==10)=false:=rfl;have f11:((7:Int)==11)=false:=rfl;have f12:((7:Int)==12)=false:=rfl;have f13:((7:Int)==13)=false:=rfl;have fle:decide ((7:Int)<=8)=true:=rfl
  (try conv=>whnf);repeat' (first|(apply And.intro<;>try conv=>whnf)|(intro h;first|with_reducible exact tf h (by assumption)|with_reducible exact tf (by assumption) h|try conv=>whnf)|(refine PureFn.dy hBo rfl ?_;try conv=>whnf)|fail)
  exact .refl _
 ·skip
  have f1:((8:Int)==1)=false:=rfl;have f2:((8:Int)==2)=false:=rfl;have f3:((8:Int)==3)=false:=rfl;have f4:((8:Int)==4)=false:=rfl;have f5:((8:Int)==5)=false:=rfl;have f6:((8:Int)==6)=false:=rfl;have f7:((8:Int)==7)=false:=rfl;have f8:((8:Int)==8)=true:=rfl;have f9:((8:Int)==9)=false:=rfl;have f10:((8:Int)==10)=false:=rfl;have f11:((8:Int)==11)=false:=rfl;have f12:((8:Int)==12)=false:=rfl;have f13:((8:Int)==13)=false:=rfl;have fle:decide ((8:Int)<=8)=true:=rfl
  (try conv=>whnf);repeat' (first|(apply And.intro<;>try conv=>whnf)|(intro h;first|with_reducible exact tf h (by assumption)|with_reducible exact tf (by assumption) h|try conv=>whnf)|(refine PureFn.dy hBo rfl ?_;try conv=>whnf)|fail)
  exact .refl _
 ·skip
  have f1:((9:Int)==1)=false:=rfl;have f2:((9:Int)==2)=false:=rfl;have f3:((9:Int)==3)=false:=rfl;have f4:((9:Int)==4)=false:=rfl;have f5:((9:Int)==5)=false:=rfl;have f6:((9:Int)==6)=false:=rfl;have f7:((9:Int)==7)=false:=rfl;have f8:((9:Int)==8)=false:=rfl;have f9:((9:Int)==9)=true:=rfl;have f10:((9:Int)==10)=false:=rfl;have f11:((9:Int)==11)=false:=rfl;have f12:((9:Int)==12)=false:=rfl;have f13:((9:Int)==13)=false:=rfl;have fle:decide ((9:Int)<=8)=false:=rfl;have hi:=(hk.agent rfl).1;simp only at hi;obtain⟨j,rfl⟩:∃ j:Nat,i=j:=⟨i.toNat,by omega⟩
  have h9:decide ((j:Int)>=(m.rel.length:Int))=false:=by
   have h:(!decide ((j:Int)>=(m.rel.length:Int)))=true:=hq;simpa using h
  have h8:=of_decide_eq_false h9;have hm:m.rel[j]? = some (m.rel.getD j []):=q0f (by omega);have hrm:=List.mem_iff_getElem?.2 ⟨j,hm⟩;have hB:=rc_Box n (m.rel.getD j []) a hn (hM.rows _ hrm) (hM.fit.2 _ hrm);rw[show i64 n=.int .i64 m.n by rw[hmn];rfl] at hB
  (try conv=>whnf);repeat' (first|(apply And.intro<;>try conv=>whnf)|(intro h;first|with_reducible exact tf h (by assumption)|with_reducible exact tf (by assumption) h|try conv=>whnf)|(apply q0i;rfl)|(refine q0w (by kernel_rfl) ?_;try conv=>whnf)|(refine⟨_,_,rfl,q0a (by with_reducible assumption),rfl,?_⟩;try conv=>whnf)|(refine⟨_,(by (conv=>whnf);exact hB),rfl,?_⟩;try conv=>whnf)|fail)
  exact .refl _
 ·skip
  have f1:((10:Int)==1)=false:=rfl;have f2:((10:Int)==2)=false:=rfl;have f3:((10:Int)==3)=false:=rfl;have f4:((10:Int)==4)=false:=rfl;have f5:((10:Int)==5)=false:=rfl;have f6:((10:Int)==6)=false:=rfl;have f7:((10:Int)==7)=false:=rfl;have f8:((10:Int)==8)=false:=rfl;have f9:((10:Int)==9)=false:=rfl;have f10:((10:Int)==10)=true:=rfl;have f11:((10:Int)==11)=false:=rfl;have f12:((10:Int)==12)=false:=rfl;have f13:((10:Int)==13)=false:=rfl;have fle:decide ((10:Int)<=8)=false:=rfl;have hi:=(hk.agent rfl).1;simp only at hi;obtain⟨j,rfl⟩:∃ j:Nat,i=j:=⟨i.toNat,by omega⟩
  have h9:decide ((j:Int)>=(m.rel.length:Int))=false:=by
   have h:(!decide ((j:Int)>=(m.rel.length:Int)))=true:=hq;simpa using h
  have h8:=of_decide_eq_false h9;have hm:m.rel[j]? = some (m.rel.getD j []):=q0f (by omega);have hrm:=List.mem_iff_getElem?.2 ⟨j,hm⟩;have hB:=rc_Box n (m.rel.getD j []) (notN n a) hn (hM.rows _ hrm) (hM.fit.2 _ hrm);rw[show i64 n=.int .i64 m.n by rw[hmn];rfl,show u64 (notN n a)=.int .u64 (z0z ((2^n-1:Nat):Int) (a:Nat)) by rw[andNotU_all hn];rfl] at hB
  (try conv=>whnf);repeat' (first|(apply And.intro<;>try conv=>whnf)|(intro h;first|with_reducible exact tf h (by assumption)|with_reducible exact tf (by assumption) h|try conv=>whnf)|(apply q0i;rfl)|(refine q0w (by kernel_rfl) ?_;try conv=>whnf)|(refine⟨_,_,rfl,q0a (by with_reducible assumption),rfl,?_⟩;try conv=>whnf)|(refine⟨_,(by (conv=>whnf);exact hB),rfl,?_⟩;try conv=>whnf)|fail)
  exact le_u64 (andNotU_all hn)
 ·skip
  have f1:((11:Int)==1)=false:=rfl;have f2:((11:Int)==2)=false:=rfl;have f3:((11:Int)==3)=false:=rfl;have f4:((11:Int)==4)=false:=rfl;have f5:((11:Int)==5)=false:=rfl;have f6:((11:Int)==6)=false:=rfl;have f7:((11:Int)==7)=false:=rfl;have f8:((11:Int)==8)=false:=rfl;have f9:((11:Int)==9)=false:=rfl;have f10:((11:Int)==10)=false:=rfl;have f11:((11:Int)==11)=true:=rfl;have f12:((11:Int)==12)=false:=rfl;have f13:((11:Int)==13)=false:=rfl;have fle:decide ((11:Int)<=8)=false:=rfl;have hg1:=(hk.group rfl).1;simp only at hg1
  have h9:decide (g>=shl64 1 (m.rel.length:Int))=false:=by
   have h:(!decide (g>=shl64 1 (m.rel.length:Int)))=true:=hq;simpa using h
  have h8:=of_decide_eq_false h9;have hG:=rm_Group m n hM g;obtain⟨hgl,hgb⟩:=grp_facts (op:=orF) (first:=0) hM (fun _ _ hx hy=>Nat.or_lt_two_pow hx hy) (Nat.two_pow_pos n) hg1 (by omega);have hv:vlN m n 11 i g a b=boxN n (grpM orF m g 0) a:=rfl;rw[hv];clear hv;generalize grpM orF m g 0=G at hG hgl hgb |-;have hB:=rc_Box n G a hn hgl (fun s hs=>Nat.lt_of_lt_of_le (hgb s hs) h64);rw[show i64 n=.int .i64 m.n by rw[hmn];rfl] at hB
  (try conv=>whnf);repeat' (first|(apply And.intro<;>try conv=>whnf)|(intro h;first|with_reducible exact tf h (by assumption)|with_reducible exact tf (by assumption) h|try conv=>whnf)|(refine q0w (by kernel_rfl) ?_;try conv=>whnf)|(refine⟨_,(by (conv=>whnf);exact hG),rfl,?_⟩;try conv=>whnf)|(refine⟨_,(by (conv=>whnf);exact hB),rfl,?_⟩;try conv=>whnf)|fail)
  exact .refl _
 ·skip
  have f1:((12:Int)==1)=false:=rfl;have f2:((12:Int)==2)=false:=rfl;have f3:((12:Int)==3)=false:=rfl;have f4:((12:Int)==4)=false:=rfl;have f5:((12:Int)==5)=false:=rfl;have f6:((12:Int)==6)=false:=rfl;have f7:((12:Int)==7)=false:=rfl;have f8:((12:Int)==8)=false:=rfl;have f9:((12:Int)==9)=false:=rfl;have f10:((12:Int)==10)=false:=rfl;have f11:((12:Int)==11)=false:=rfl;have f12:((12:Int)==12)=true:=rfl;have f13:((12:Int)==13)=false:=rfl;have fle:decide ((12:Int)<=8)=false:=rfl;have hg1:=(hk.group rfl).1;simp only at hg1
  have h9:decide (g>=shl64 1 (m.rel.length:Int))=false:=by
   have h:(!decide (g>=shl64 1 (m.rel.length:Int)))=true:=hq;simpa using h
  have h8:=of_decide_eq_false h9;have hG:=rm_Meet m n hM g;obtain⟨hgl,hgb⟩:=grp_facts (op:=andF) (first:=(2^n-1)) hM (fun _ _ hx _=>Nat.lt_of_le_of_lt Nat.and_le_left hx) (by have:=Nat.two_pow_pos n;omega) hg1 (by omega);have hv:vlN m n 12 i g a b=boxN n (grpM andF m g (2^n-1)) a:=rfl;rw[hv];clear hv;generalize grpM andF m g (2^n-1)=G at hG hgl hgb |-;have hB:=rc_Box n G a hn hgl (fun s hs=>Nat.lt_of_lt_of_le (hgb s hs) h64);rw[show i64 n=.int .i64 m.n by rw[hmn];rfl] at hB
  (try conv=>whnf);repeat' (first|(apply And.intro<;>try conv=>whnf)|(intro h;first|with_reducible exact tf h (by assumption)|with_reducible exact tf (by assumption) h|try conv=>whnf)|(refine q0w (by kernel_rfl) ?_;try conv=>whnf)|(refine⟨_,(by (conv=>whnf);exact hG),rfl,?_⟩;try conv=>whnf)|(refine⟨_,(by (conv=>whnf);exact hB),rfl,?_⟩;try conv=>whnf)|fail)
  exact .refl _
 ·skip
  have f1:((13:Int)==1)=false:=rfl;have f2:((13:Int)==2)=false:=rfl;have f3:((13:Int)==3)=false:=rfl;have f4:((13:Int)==4)=false:=rfl;have f5:((13:Int)==5)=false:=rfl;have f6:((13:Int)==6)=false:=rfl;have f7:((13:Int)==7)=false:=rfl;have f8:((13:Int)==8)=false:=rfl;have f9:((13:Int)==9)=false:=rfl;have f10:((13:Int)==10)=false:=rfl;have f11:((13:Int)==11)=false:=rfl;have f12:((13:Int)==12)=false:=rfl;have f13:((13:Int)==13)=true:=rfl;have fle:decide ((13:Int)<=8)=false:=rfl;have hg1:=(hk.group rfl).1;simp only at hg1
  have h9:decide (g>=shl64 1 (m.rel.length:Int))=false:=by
   have h:(!decide (g>=shl64 1 (m.rel.length:Int)))=true:=hq;simpa using h
  have h8:=of_decide_eq_false h9;have hG:=rm_Group m n hM g;obtain⟨hgl,hgb⟩:=grp_facts (op:=orF) (first:=0) hM (fun _ _ hx hy=>Nat.or_lt_two_pow hx hy) (Nat.two_pow_pos n) hg1 (by omega);have hv:vlN m n 13 i g a b=comN n (grpM orF m g 0) a b:=rfl;rw[hv];clear hv;generalize grpM orF m g 0=G at hG hgl hgb |-;have hB:=rc_common n G a b hn hgl hgb ha64;rw[show i64 n=.int .i64 m.n by rw[hmn];rfl] at hB
  (try conv=>whnf);repeat' (first|(apply And.intro<;>try conv=>whnf)|(intro h;first|with_reducible exact tf h (by assumption)|try conv=>whnf)|(refine q0w (by kernel_rfl) ?_;try conv=>whnf)|(refine⟨_,(by (conv=>whnf);exact hG),rfl,?_⟩;try conv=>whnf)|(refine⟨_,(by (conv=>whnf);exact hB),rfl,?_⟩;try conv=>whnf)|fail)
  exact .refl _
theorem rc_Check (m:Mo) (f:List Nd) (hf:FitM m):PureFn Tryz.prog 170 [m.pv,fpv f,.int .i64 15] (.int .i64 (reqI m f)):=by
 refine PureFn.introC [2,5] mixed (fn:=Tryz.f170) rfl rfl rfl fun M w0 => ?_
 have hC:=rm_Check m hf;have h1:=ref_Check f;have h2:=ref_Frags f;have h3:=ref_Fits f ((m.rel.map q0b).length:Nat) ((m.val.map u64).length:Nat);rw[reqI,z0i,show (m.rel.length:Int)=((m.rel.map q0b).length:Nat) by simp,show (m.val.length:Int)=((m.val.map u64).length:Nat) by simp];generalize moI m=c at hC;generalize z0b f=d at h1;generalize fits f ((m.rel.map q0b).length:Nat) ((m.val.map u64).length:Nat)=b at h3
 try conv=>whnf
 refine⟨Unit,fun _=>[(1,.pv (fpv f)),(2,.pv (.int .i64 15)),(3,.ref 0 0),(7,.pv (.int .i64 c))],fun _=>1,fun _=>HM m,?_,?_⟩
 ·(try conv=>whnf);repeat' (first|(refine PureFn.dy hC rfl ?_;try conv=>whnf)|fail)
  exact⟨(),(by exact Wk.s rfl)⟩
 rintro⟨⟩
 (try conv=>whnf);repeat' (first|((first|apply And.intro|intro h)<;>try conv=>whnf))
 ·rw[show (c != 0)=true from h];exact .refl _
 refine⟨Unit,fun _=>[(1,.pv (fpv f)),(2,.pv (.int .i64 15)),(3,.ref 0 0),(7,.pv (.int .i64 d))],fun _=>1,fun _=>HM m,?_,?_⟩
 ·(try conv=>whnf);repeat' (first|(refine PureFn.dy h1 rfl ?_;try conv=>whnf)|fail)
  exact⟨(),(by exact Wk.s rfl)⟩
 rintro⟨⟩;rw[show (c != 0)=false from h]
 (try conv=>whnf);repeat' (first|((first|apply And.intro|intro h)<;>try conv=>whnf)|(refine PureFn.dy h2 rfl ?_;try conv=>whnf)|(refine PureFn.dy h3 rfl ?_;try conv=>whnf)|fail)
 ·rw[show (d != 0)=true from h];exact .refl _
 ·rename_i hd;rw[show (d != 0)=false from hd,show (z0v (y0e f:Nat) 15 != 0)=true from h];exact .refl _
 ·rename_i hd hn;rw[show (d != 0)=false from hd,show (z0v (y0e f:Nat) 15 != 0)=false from hn,h];exact .refl _
 ·rename_i hd hn;rw[show (d != 0)=false from hd,show (z0v (y0e f:Nat) 15 != 0)=false from hn,h];exact .refl _
theorem rc_fits (m:Mo) (f:List Nd) (i:Nat) (hs:z0i (m.rel.length:Int) (m.val.length:Int) (sub f i)=0):PureFn Tryz.prog 200 [m.pv,fpv f,i64 i] (.bool true):=by
 refine PureFn.introC [2] mixed (fn:=Tryz.f200) rfl rfl rfl fun M w0 => ?_
 have h1:=ref_Sub f i;have h2:=ref_Frags (sub f i);have h3:=ref_Fits (sub f i) ((m.rel.map q0b).length:Nat) ((m.val.map u64).length:Nat);obtain⟨_,hs1,hs2⟩:=statI_ok hs;rw[show (m.rel.length:Int)=((m.rel.map q0b).length:Nat) by simp,show (m.val.length:Int)=((m.val.map u64).length:Nat) by simp] at hs2;rw[hs2] at h3;generalize sub f i=g at h1 h2 h3 hs1
 try conv=>whnf
 refine⟨Unit,fun _=>[(3,.ref 0 0),(7,.pv (fpv g))],fun _=>1,fun _=>HM m,?_,?_⟩
 ·(try conv=>whnf);repeat' (first|(refine PureFn.dy h1 rfl ?_;try conv=>whnf)|fail)
  exact⟨(),(by exact Wk.s rfl)⟩
 rintro⟨⟩
 (try conv=>whnf);repeat' (first|((first|apply And.intro|intro h)<;>try conv=>whnf)|apply True.intro|(apply WhenQ.mk;(try conv=>whnf);rotate_left;(try conv=>whnf);rotate_right)|with_reducible assumption|(refine PureFn.dy h2 rfl ?_;try conv=>whnf)|(refine PureFn.dy h3 rfl ?_;try conv=>whnf)|fail)
 refine z0n ?_
 show (bif z0v (y0e g:Nat) 15==0 then true else false)=true
 rw[show z0v (y0e g:Nat) 15=0 by simpa using hs1];rfl
theorem rc_Sets_bad (m:Mo) (f:List Nd) (hf:FitM m) (h0:(reqI m f != 0)=true):PureFn Tryz.prog 168 [m.pv,fpv f] (.tup [.nil,.int .i64 (reqI m f)]):=by
 refine PureFn.introC [2] mixed (fn:=Tryz.f168) rfl rfl rfl fun M w0 => ?_
 have hC:=rc_Check m f hf;generalize reqI m f=c at h0 hC
 try conv=>whnf
 refine⟨Unit,fun _=>[(6,.pv (.int .i64 c))],fun _=>1,fun _=>HM m,?_,?_⟩
 ·(try conv=>whnf);repeat' (first|(refine PureFn.dy hC rfl ?_;try conv=>whnf)|fail)
  exact⟨(),(by exact Wk.s rfl)⟩
 rintro⟨⟩
 (try conv=>whnf);repeat' (first|(apply And.intro<;>try conv=>whnf)|(intro h;first|with_reducible exact tf (by assumption) h|try conv=>whnf))
 all_goals exact .refl _
theorem setsR_lt {m:Mo} {n:Nat} (hM:OkM m n) (f:List Nd):∀ v,v∈setsR m n f->v<2^n:=by
 have key:∀ (l:List Nd) (acc:List Nat),(∀ v,v∈acc->v<2^n)->∀ v,v∈l.foldl (fun acc x=>acc++[nodeR m n acc x]) acc->v<2^n:=by
  intro l
  induction l with
  |nil=>intro acc h;exact h
  |cons x r ih =>
   intro acc h;refine ih _ fun v hv => ?_
   rcases List.mem_append.1 hv with hv|hv
   ·exact h v hv
   ·rw[List.mem_singleton.1 hv]
    have hg:∀ j,acc.getD j 0<2^n:=fun j=>by
     rw[List.getD_eq_getElem?_getD]
     cases hq:acc[j]? with
     |none=>exact Nat.two_pow_pos n
     |some w=>exact h w (List.mem_iff_getElem?.2 ⟨j,hq⟩)
    exact vlN_lt hM.vbits (bif_lt (hg _) (Nat.two_pow_pos n)) (bif_lt (hg _) (Nat.two_pow_pos n))
 exact key f [] (by simp)
theorem rc_Sets (m:Mo) (n:Nat) (hM:OkM m n) (f:List Nd) (h0:reqI m f=0) (hok:Okl f) (hfl:f.length<=200) (hsub:∀ i,i<f.length->z0i (m.rel.length:Int) (m.val.length:Int) (sub f i)=0) (hq:∀ x,x∈f->fitQ m x.op x.i x.e x.g=true) :
  PureFn Tryz.prog 168 [m.pv,fpv f] (.tup [.sl ((setsR m n f).map u64),.int .i64 0]):=by
 refine PureFn.introC [2,11,13,15] mixed (fn:=Tryz.f168) rfl rfl rfl fun M w0 => ?_
 have hC:=rc_Check m f hM.fit;rw[h0] at hC;have hfl2:((f.map Nd.pv).length:Int)=(f.length:Int):=by simp
 try conv=>whnf
 refine⟨Unit,fun _=>[(1,.pv (fpv f)),(2,.ref 0 0),(6,.pv (.int .i64 0))],fun _=>1,fun _=>HM m,?_,?_⟩
 ·(try conv=>whnf);repeat' (first|(refine PureFn.dy hC rfl ?_;try conv=>whnf)|fail)
  exact⟨(),(by exact Wk.s rfl)⟩
 rintro⟨⟩
 (try conv=>whnf);repeat' (first|((first|apply And.intro|intro h)<;>try conv=>whnf))
 ·exact absurd (show (!((0:Int)==0))=true from h) (by decide)
 refine⟨{ i:Nat // i<=f.length },fun i=>[(1,.pv (fpv f)),(2,.ref 0 0),(7,.buf 1 ((setsR m n (f.take i.1)).map u64).length),(8,.pv (i64 i.1))],fun _=>2,fun i=>[(0,.var (q0e m)),(1,.arr 1 ((setsR m n (f.take i.1)).map u64))],fun i=>f.length-i.1,⟨⟨0,Nat.zero_le _⟩,(by refine Wk.of ?_ ?_ rfl rfl rfl<;>repeat' (first|exact trivial|exact WkD.same _|exact WkO.same _ _ rfl|exact WkD.new' rfl rfl rfl|exact WkO.new _ _ rfl|exact rfl|refine⟨?_,?_⟩|fail))⟩,?_⟩;intro i;have hi:=i.2;have hAl:=setsR_len (m:=m) (n:=n) (f:=f) i.1 hi;have hlt:=setsR_lt hM (f.take i.1);have hAb:∀ j,(setsR m n (f.take i.1)).getD j 0<2^n:=fun j=>getD_lt (Nat.two_pow_pos n) hlt
 have hAm:((setsR m n (f.take i.1)).map u64).length=i.1:=by rw[List.length_map,hAl]
 (try conv=>whnf);repeat' (first|((first|apply And.intro|intro h)<;>try conv=>whnf)|(apply bleI;rfl))
 ·have hi':i.1<f.length:=by simpa using q0j h
  have hfi:=rc_fits m f i.1 (hsub i.1 hi');have hx:f[i.1]? = some f[i.1]:=List.getElem?_eq_getElem hi';have hk:=hok i.1 _ hx;have hqx:=hq _ (List.getElem_mem hi');have hA3:=setsR_take (m:=m) (n:=n) hi';have hUX:=ref_UsesX f[i.1].op;have hUY:=ref_UsesY f[i.1].op
  (try conv=>whnf);repeat' (first|(apply And.intro<;>try conv=>whnf)|(intro h;first|with_reducible exact nt0 h|try conv=>whnf)|(refine PureFn.dy hfi rfl ?_;try conv=>whnf)|fail)
  refine⟨Unit,fun _=>[(1,.pv (fpv f)),(2,.ref 0 0),(7,.buf 1 ((setsR m n (f.take i.1)).map u64).length),(8,.pv (i64 i.1)),(9,.pv (u64 (0))),(10,.pv (u64 (0)))],fun _=>2,fun _=>[(0,.var (q0e m)),(1,.arr 1 ((setsR m n (f.take i.1)).map u64))],?_,?_⟩
  ·try conv=>whnf
   exact⟨(),(by exact Wk.s rfl)⟩
  rintro⟨⟩;refine⟨Unit,fun _=>[(1,.pv (fpv f)),(2,.ref 0 0),(7,.buf 1 ((setsR m n (f.take i.1)).map u64).length),(8,.pv (i64 i.1)),(9,.pv (u64 ((bif q0n f[i.1].op then (setsR m n (f.take i.1)).getD f[i.1].x.toNat 0 else 0)))),(10,.pv (u64 (0)))],fun _=>2,fun _=>[(0,.var (q0e m)),(1,.arr 1 ((setsR m n (f.take i.1)).map u64))],?_,?_⟩
  ·(try conv=>whnf);repeat' (first|((first|apply And.intro|intro h)<;>try conv=>whnf)|(apply q0i;rfl)|(refine⟨_,_,rfl,q0a (by with_reducible assumption),rfl,?_⟩;try conv=>whnf)|(refine PureFn.dy hUX rfl ?_;try conv=>whnf)|fail)
   ·have hkx:=hk.x h;have hj:f[i.1].x.toNat<(setsR m n (f.take i.1)).length:=by omega
    refine⟨f[i.1].x.toNat,by omega,by rw[List.length_map];exact hj,?_⟩
    (try conv=>whnf);repeat' (first|(apply And.intro<;>try conv=>whnf))
    refine⟨_,q0a (g:=u64) (q0f hj (d:=0)),?_⟩
    try conv=>whnf
    rw[show q0n f[i.1].op=true from h];exact⟨(),(by exact Wk.s rfl)⟩
   ·rw[show q0n f[i.1].op=false from h];exact⟨(),(by exact Wk.s rfl)⟩
  rintro⟨⟩;refine⟨Unit,fun _=>[(1,.pv (fpv f)),(2,.ref 0 0),(7,.buf 1 ((setsR m n (f.take i.1)).map u64).length),(8,.pv (i64 i.1)),(9,.pv (u64 ((bif q0n f[i.1].op then (setsR m n (f.take i.1)).getD f[i.1].x.toNat 0 else 0)))),(10,.pv (u64 ((bif q0o f[i.1].op then (setsR m n (f.take i.1)).getD f[i.1].y.toNat 0 else 0))))],fun _=>2,fun _=>[(0,.var (q0e m)),(1,.arr 1 ((setsR m n (f.take i.1)).map u64))],?_,?_⟩
  ·(try conv=>whnf);repeat' (first|((first|apply And.intro|intro h)<;>try conv=>whnf)|(apply q0i;rfl)|(refine⟨_,_,rfl,q0a (by with_reducible assumption),rfl,?_⟩;try conv=>whnf)|(refine PureFn.dy hUY rfl ?_;try conv=>whnf)|fail)
   ·have hkx:=hk.y h;have hj:f[i.1].y.toNat<(setsR m n (f.take i.1)).length:=by omega
    refine⟨f[i.1].y.toNat,by omega,by rw[List.length_map];exact hj,?_⟩
    (try conv=>whnf);repeat' (first|(apply And.intro<;>try conv=>whnf))
    refine⟨_,q0a (g:=u64) (q0f hj (d:=0)),?_⟩
    try conv=>whnf
    rw[show q0o f[i.1].op=true from h];exact⟨(),(by exact Wk.s rfl)⟩
   ·rw[show q0o f[i.1].op=false from h];exact⟨(),(by exact Wk.s rfl)⟩
  rintro⟨⟩;have hV:=rc_One m n hM f[i.1] _ hk hqx (bif q0n f[i.1].op then (setsR m n (f.take i.1)).getD f[i.1].x.toNat 0 else 0) (bif q0o f[i.1].op then (setsR m n (f.take i.1)).getD f[i.1].y.toNat 0 else 0) (bif_lt (hAb _) (Nat.two_pow_pos n)) (bif_lt (hAb _) (Nat.two_pow_pos n));have hes:(setsR m n (f.take i.1)).map u64++[u64 (vlN m n f[i.1].op f[i.1].i f[i.1].g (bif q0n f[i.1].op then (setsR m n (f.take i.1)).getD f[i.1].x.toNat 0 else 0) (bif q0o f[i.1].op then (setsR m n (f.take i.1)).getD f[i.1].y.toNat 0 else 0))]=(setsR m n (f.take (i.1+1))).map u64:=by rw[hA3,List.map_append];rfl
  try conv=>whnf
  refine⟨Plan.lin 0 12,[],by kernel_rfl,?_⟩
  (try conv=>whnf);repeat' (first|(apply And.intro<;>try conv=>whnf)|(apply q0i;rfl)|(apply q0p;rfl)|(apply szI;rfl)|(refine⟨_,_,rfl,q0a (by with_reducible assumption),rfl,?_⟩;try conv=>whnf)|(refine⟨_,(by (conv=>whnf);exact hV),rfl,?_⟩;try conv=>whnf)|fail)
  ·exact z0l (n:=200) (by omega) (by decide)
  ·refine⟨⟨i.1+1,hi'⟩,by show f.length-(i.1+1)<f.length-i.1;omega,?_⟩
   (refine Wk.of ?_ ?_ rfl rfl rfl<;>repeat' (first|exact trivial|exact WkD.same _|exact WkO.same _ _ rfl|exact WkD.eq (congrArg (fun z:List PV=>DV.buf _ z.length) hes)|exact WkO.same _ _ (congrArg (fun z=>some (DObj.arr _ z)) hes)|refine WkD.int ?_|refine⟨?_,?_⟩|(apply q0h;(focus simp;done);all_goals (try dsimp only);omega)|fail))
 ·have hi':i.1=f.length:=by have:=q0k (m:=(f.map Nd.pv).length) h (by simpa using hi);simpa using this
  rw[hi',List.take_length];exact .refl _
theorem stat_unc {A F:Nat} {f:List Nd} (h:z0i A F (q0u f)=0):z0i A F f=0:=by
 obtain⟨h1,h2⟩:=statM_iff.1 h
 have hc:z0b f=0:=by
  by_cases q:z0b f=0
  ·exact q
  ·rw[comp_none q] at h1;exact absurd h1 (by decide)
 rw[comp_comp hc] at h2;exact statM_iff.2 ⟨hc,h2⟩
theorem stat_unc' {A F:Nat} {f:List Nd} (h:z0i A F f=0):z0i A F (q0u f)=0:=by
 obtain⟨h1,h2⟩:=statM_iff.1 h;exact statM_iff.2 ⟨comp_check h1,by rw[comp_comp h1];exact h2⟩
theorem sub_ofcomp {f:List Nd} (h:z0b f=0) {i:Nat} (hi:i<(q0u f).length):sub (q0u f) i=canon (q0u f) i:=by
 rw[sub,comp_check h,decide_eq_false (by omega),decide_eq_false (by omega)];rfl
theorem rc_Holds (m:Mo) (f:List Nd) (hf:FitM m):PureFn Tryz.prog 132 [m.pv,fpv f] (.tup [u64 (holdsI m f).1,.int .i64 (holdsI m f).2]):=by
 have hK:=ref_Compact f
 by_cases h0:reqI m f=0
 ·obtain⟨⟨n,hM⟩,hst⟩:=reqI_ok h0;have hag:=hM.ag;have hch:=(statM_iff.1 hst).1;have hall:=(statM_iff.1 hst).2;have hr:reqI m (q0u f)=0:=by rw[reqI,ok_moI hM];exact stat_unc' hst
  have hS:=rc_Sets m n hM (q0u f) hr (z0h f) (comp_len f) (fun i hi=>by rw[sub_ofcomp hch hi];exact sub_stat (z0h f) hall (comp_len f) hi) (fun x hx=>by
   obtain⟨k,hk⟩:=okl_mem (z0h f) hx
   exact fitQ_of hag hk (hall x hx))
  have hL:=last_R (n:=n) hag hst;have hp:=comp_pos hch
  have hsl:(setsR m n (q0u f)).length=(q0u f).length:=by
   have:=setsR_len (m:=m) (n:=n) (f:=q0u f) (q0u f).length (Nat.le_refl _)
   rwa [List.take_length] at this
  have hcl:=comp_len f;have hres:holdsI m f=(vlT m n (root f),0):=by rw[holdsI,h0,hM.nn,Int.toNat_natCast];rfl
  rw[hres];rw[<- hsl] at hL hp hcl;generalize setsR m n (q0u f)=S at hS hL hp hcl;generalize q0u f=g at hK hS;generalize vlT m n (root f)=v at hL;have e1:((S.map u64).length:Int)=(S.length:Int):=by simp
  have hw:IntKind.wrap .i64 (((S.map u64).length:Int)-1)=((S.length-1:Nat):Int):=by rw[e1,Go.Dv.wrap_small (by omega) (by omega)];omega
  have hz:(((S.map u64).length:Int)==0)=false:=by
   have h9:¬ ((S.length:Int)=0):=by omega
   rw[e1];simpa using h9
  refine PureFn.introC [2] mixed (fn:=Tryz.f132) rfl rfl rfl fun M w0 => ?_
  try conv=>whnf
  refine⟨Unit,fun _=>[(1,.pv (fpv f)),(2,.ref 0 0),(6,.pv (.sl (S.map u64))),(7,.pv (.int .i64 0))],fun _=>1,fun _=>HM m,?_,?_⟩
  ·(try conv=>whnf);repeat' (first|(refine q0w (by kernel_rfl) ?_;try conv=>whnf)|(refine⟨_,(by (conv=>whnf);exact hK),rfl,?_⟩;try conv=>whnf)|(refine⟨_,(by (conv=>whnf);exact hS),rfl,?_⟩;try conv=>whnf)|fail)
   exact⟨(),(by exact Wk.s rfl)⟩
  rintro⟨⟩
  (try conv=>whnf);repeat' (first|((first|apply And.intro|intro h)<;>try conv=>whnf)|apply True.intro|(apply q0i;rfl)|(apply WhenQ.mk;(try conv=>whnf);rotate_left;(try conv=>whnf);rotate_right)|with_reducible assumption|(apply q0x;with_reducible assumption))
  ·exfalso;rw[hz] at h;exact absurd (show false=true from h) (by decide)
  ·refine⟨S.length-1,_,hw,q0a (g:=u64) hL,rfl,?_⟩
   try conv=>whnf
   exact .refl _
 ·have hb:(reqI m f != 0)=true:=by simpa using h0
  have hr:(reqI m (q0u f) != 0)=true:=by
   rw[bne_iff_ne];intro h;apply h0;obtain⟨⟨n,hM⟩,hst⟩:=reqI_ok h;rw[reqI,ok_moI hM];exact stat_unc hst
  have hS:=rc_Sets_bad m (q0u f) hf hr;have hC:=rc_Check m f hf;have hres:holdsI m f=(0,reqI m f):=by rw[holdsI,hb];rfl
  rw[hres];generalize reqI m (q0u f)=c at hS hr;generalize q0u f=g at hK hS;generalize reqI m f=d at hC hb;refine PureFn.introC [2] mixed (fn:=Tryz.f132) rfl rfl rfl fun M w0 => ?_
  try conv=>whnf
  refine⟨Unit,fun _=>[(1,.pv (fpv f)),(2,.ref 0 0),(6,.pv .nil),(7,.pv (.int .i64 c))],fun _=>1,fun _=>HM m,?_,?_⟩
  ·(try conv=>whnf);repeat' (first|(refine q0w (by kernel_rfl) ?_;try conv=>whnf)|(refine⟨_,(by (conv=>whnf);exact hK),rfl,?_⟩;try conv=>whnf)|(refine⟨_,(by (conv=>whnf);exact hS),rfl,?_⟩;try conv=>whnf)|fail)
   exact⟨(),(by exact Wk.s rfl)⟩
  rintro⟨⟩
  (try conv=>whnf);repeat' (first|(apply And.intro<;>try conv=>whnf)|(intro h;first|with_reducible exact tf (by assumption) h|try conv=>whnf)|apply True.intro|(apply WhenQ.mk;(try conv=>whnf);rotate_left;(try conv=>whnf);rotate_right)|with_reducible assumption|(refine PureFn.dy hC rfl ?_;try conv=>whnf)|fail)
  ·exact .refl _
  ·exfalso;rw[hr] at h;exact absurd (show true=false from h) (by decide)
theorem rp_Worlds (m:Mo) (a:Act) (hf:FitM m) (hfa:Fit a) (hl:a.rel.length<=1000) (hp:∀ l,l∈a.post->l.length<=1000):PureFn Tryz.prog 98 [m.pv,a.pv] (worldsPV (z0q m a)):=by
 refine PureFn.introC [2,5,14,24] mixed (fn:=Tryz.f98) rfl rfl rfl fun M w0 => ?_
 have hC:=rm_Check m hf;have hK:=ra_Check a (m.rel.length:Nat) (m.val.length:Nat) hfa hl hp;rw[show PV.int .i64 ((m.rel.length:Nat):Int)=.int .i64 ((m.rel.map q0b).length:Nat) by rw[List.length_map],show PV.int .i64 ((m.val.length:Nat):Int)=.int .i64 ((m.val.map u64).length:Nat) by rw[List.length_map]] at hK
 try conv=>whnf
 refine⟨Unit,fun _=>[(2,.ref 0 0),(3,.ref 1 0),(6,.pv (.int .i64 (moI m)))],fun _=>2,fun _=>HMA m a,?_,?_⟩
 ·(try conv=>whnf);repeat' (first|(refine PureFn.dy hC rfl ?_;try conv=>whnf)|fail)
  exact⟨(),(by exact Wk.s rfl)⟩
 rintro⟨⟩
 (try conv=>whnf);repeat' (first|((first|apply And.intro|intro h)<;>try conv=>whnf))
 ·have h9:moaI m a=moI m:=by rw[moaI,h];rfl
  rw[z0q,h9,h];exact le_worlds _
 have h1:=h;have hmo:moaI m a=actI a (m.rel.length:Int) (m.val.length:Int):=by rw[moaI,h1];rfl
 refine⟨Unit,fun _=>[(2,.ref 0 0),(3,.ref 1 0),(7,.pv (.int .i64 (moaI m a)))],fun _=>2,fun _=>HMA m a,?_,?_⟩
 ·rw[hmo]
  (try conv=>whnf);repeat' (first|(refine PureFn.dy hK rfl ?_;try conv=>whnf)|fail)
  exact⟨(),(by exact Wk.s rfl)⟩
 rintro⟨⟩
 (try conv=>whnf);repeat' (first|((first|apply And.intro|intro h)<;>try conv=>whnf))
 ·rw[z0q,h];exact le_worlds _
 have h2:=h;have h20:moaI m a=0:=by simpa using h2
 obtain⟨⟨n,hM⟩,hAc⟩:=moaI_ok h20;have hO:=actI_ok hAc;have hn8:=hO.n8;have hn1:=hO.n1;have hn64:=hM.n64;have hnn:=hM.nn;have hres:z0q m a=bif ((z0o m a).length:Int)==0 then ([],11) else (z0o m a,0):=by rw[z0q,show (moaI m a != 0)=false from h2];rfl
 have hpl:z0o m a=pairsW (possP m a) a.pre.length n:=by rw[z0o,hM.nn];rfl
 rw[hres,hpl];clear hres hpl
 have hH:∀ (e:Nat) (f:List Nd),a.pre[e]? = some f->PureFn Tryz.prog 132 [m.pv,fpv f] (.tup [u64 (possP m a e),.int .i64 0]):=by
  intro e f he;have h:=rc_Holds m f hf;have he1:=(List.getElem?_eq_some_iff.1 he).1;have hp:=(pre_holds h20 he1).1;have hg:a.pre.getD e []=f:=by rw[List.getD_eq_getElem?_getD,he];rfl
  rw[hg] at hp;rw[hp] at h;exact h
 generalize hpe:possP m a=p at hH |-
 have hBl:∀ w e,w<=n->e<=a.pre.length->((z0u p a.pre.length w e).map q0g).length<=600:=by
  intro w e h1 h2;rw[List.length_map,z0u,List.length_append];have:=pairsW_len p a.pre.length w;have:=pairsE_len p w e;have:=Nat.mul_le_mul h1 hn8;omega
 refine⟨Unit,fun _=>[(2,.ref 0 0),(3,.ref 1 0),(8,.pv (.sl ((List.range a.pre.length).map fun e=>u64 (p e))))],fun _=>3,fun _=>HMA m a,?_,?_⟩
 ·try conv=>whnf
  refine⟨{ e:Nat // e<=a.pre.length },fun e=>[(2,.ref 0 0),(3,.ref 1 0),(8,.buf 2 ((List.range e.1).map fun e=>u64 (p e)).length),(33,.pv (.sl (a.pre.map fpv))),(34,.pv (i64 (a.pre.map fpv).length)),(35,.pv (i64 e.1))],fun _=>3,fun e=>[(0,.var (q0e m)),(1,.var (q0c a)),(2,.arr 1 ((List.range e.1).map fun e=>u64 (p e)))],fun e=>a.pre.length-e.1,⟨⟨0,Nat.zero_le _⟩,(by refine Wk.of ?_ ?_ rfl rfl rfl<;>repeat' (first|exact trivial|exact WkD.same _|exact WkO.same _ _ rfl|exact WkD.new' rfl rfl rfl|exact WkO.new _ _ rfl|exact rfl|refine⟨?_,?_⟩|fail))⟩,?_⟩;intro e;have he:=e.2
  (try conv=>whnf);repeat' (first|((first|apply And.intro|intro h)<;>try conv=>whnf)|(apply q0i;rfl))
  ·have he':e.1<a.pre.length:=by simpa using q0j h
   have hm:a.pre[e.1]? = some a.pre[e.1]:=List.getElem?_eq_getElem he';have hHe:=hH e.1 _ hm;have hes:((List.range e.1).map fun e=>u64 (p e))++[u64 (p e.1)]=(List.range (e.1+1)).map fun e=>u64 (p e):=by rw[List.range_succ,List.map_append];rfl
   refine⟨_,_,rfl,q0a hm,rfl,?_⟩
   (try conv=>whnf);repeat' (first|(apply And.intro<;>try conv=>whnf)|(apply q0p;rfl)|(apply szI;rfl)|(refine PureFn.dy hHe rfl ?_;try conv=>whnf)|fail)
   ·exact z0l (n:=8) (by simp;omega) (by decide)
   ·refine⟨⟨e.1+1,he'⟩,by show a.pre.length-(e.1+1)<a.pre.length-e.1;omega,?_⟩
    (refine Wk.of ?_ ?_ rfl rfl rfl<;>repeat' (first|exact trivial|exact WkD.same _|exact WkO.same _ _ rfl|exact WkD.eq (congrArg (fun z:List PV=>DV.buf _ z.length) hes)|exact WkO.same _ _ (congrArg (fun z=>some (DObj.arr _ z)) hes)|refine WkD.int ?_|refine⟨?_,?_⟩|(apply q0h;(focus simp;done);all_goals (try dsimp only);omega)|fail))
  ·obtain⟨e0,he0⟩:=e;have he':e0=a.pre.length:=by have:=q0k (m:=(a.pre.map fpv).length) h (by simpa using he);simpa using this
   subst he';exact⟨(),(by refine Wk.of ?_ ?_ rfl rfl rfl<;>repeat' (first|exact trivial|exact WkD.same _|exact WkO.same _ _ rfl|exact WkD.fz _ _ _ rfl (Or.inl ⟨_,rfl⟩) rfl|refine⟨?_,?_⟩|fail))⟩
 rintro⟨⟩;refine⟨Unit,fun _=>[(13,.pv (.sl ((pairsW p a.pre.length n).map q0g)))],fun _=>4,fun _=>HMA m a,?_,?_⟩
 ·try conv=>whnf
  refine⟨{ w:Nat // w<=n },fun w=>[(2,.ref 0 0),(3,.ref 1 0),(8,.pv (.sl ((List.range a.pre.length).map fun e=>u64 (p e)))),(13,.buf 3 ((z0u p a.pre.length w.1 0).map q0g).length),(14,.pv (i64 w.1))],fun _=>4,fun w=>[(0,.var (q0e m)),(1,.var (q0c a)),(3,.arr 2 ((z0u p a.pre.length w.1 0).map q0g))],fun w=>n-w.1,⟨⟨0,Nat.zero_le _⟩,(by refine Wk.of ?_ ?_ rfl rfl rfl<;>repeat' (first|exact trivial|exact WkD.same _|exact WkO.same _ _ rfl|exact WkD.new' rfl rfl rfl|exact WkO.new _ _ rfl|exact rfl|refine⟨?_,?_⟩|fail))⟩,?_⟩;intro w;have hwn:=w.2
  (try conv=>whnf);repeat' (first|((first|apply And.intro|intro h)<;>try conv=>whnf))
  ·have hw':w.1<n:=by rw[hnn] at h;exact q0j h
   refine⟨{ e:Nat // e<=a.pre.length },fun e=>[(2,.ref 0 0),(3,.ref 1 0),(8,.pv (.sl ((List.range a.pre.length).map fun e=>u64 (p e)))),(13,.buf 3 ((z0u p a.pre.length w.1 e.1).map q0g).length),(14,.pv (i64 w.1)),(58,.pv (i64 (a.pre.map fpv).length)),(59,.pv (i64 e.1))],fun _=>4,fun e=>[(0,.var (q0e m)),(1,.var (q0c a)),(3,.arr 2 ((z0u p a.pre.length w.1 e.1).map q0g))],fun e=>a.pre.length-e.1,⟨⟨0,Nat.zero_le _⟩,(by exact Wk.s rfl)⟩,?_⟩;intro e;have he:=e.2;have hB1:=hBl w.1 e.1 hwn he;have hs:=pairsB_succ p a.pre.length w.1 e.1
   (try conv=>whnf);repeat' (first|((first|apply And.intro|intro h)<;>try conv=>whnf)|(apply q0i;rfl))
   ·have he':e.1<a.pre.length:=by simpa using q0j h
    have hHas:=rm_Has (p e.1) w.1 (by omega);refine⟨_,_,rfl,q0a (g:=fun e=>u64 (p e)) (List.getElem?_range he'),rfl,?_⟩
    (try conv=>whnf);repeat' (first|((first|apply And.intro|intro h)<;>try conv=>whnf)|(apply q0p;rfl)|(apply szI;rfl)|(refine PureFn.dy hHas rfl ?_;try conv=>whnf)|fail)
    ·exact z0l (n:=600) hB1 (by decide)
    ·have hes:(z0u p a.pre.length w.1 e.1).map q0g++[q0g (w.1,e.1)]=(z0u p a.pre.length w.1 (e.1+1)).map q0g:=by rw[hs,show (p e.1).testBit w.1=true from h,cond_true,List.map_append];rfl
     refine⟨⟨e.1+1,he'⟩,by show a.pre.length-(e.1+1)<a.pre.length-e.1;omega,?_⟩
     (refine Wk.of ?_ ?_ rfl rfl rfl<;>repeat' (first|exact trivial|exact WkD.same _|exact WkO.same _ _ rfl|exact WkD.eq (congrArg (fun z:List PV=>DV.buf _ z.length) hes)|exact WkO.same _ _ (congrArg (fun z=>some (DObj.arr _ z)) hes)|refine WkD.int ?_|refine⟨?_,?_⟩|(apply q0h;(focus simp;done);all_goals (try dsimp only);omega)|fail))
    ·have hes:(z0u p a.pre.length w.1 e.1).map q0g=(z0u p a.pre.length w.1 (e.1+1)).map q0g:=by rw[hs,show (p e.1).testBit w.1=false from h,cond_false]
     refine⟨⟨e.1+1,he'⟩,by show a.pre.length-(e.1+1)<a.pre.length-e.1;omega,?_⟩
     (refine Wk.of ?_ ?_ rfl rfl rfl<;>repeat' (first|exact trivial|exact WkD.same _|exact WkO.same _ _ rfl|exact WkD.eq (congrArg (fun z:List PV=>DV.buf _ z.length) hes)|exact WkO.same _ _ (congrArg (fun z=>some (DObj.arr _ z)) hes)|refine WkD.int ?_|refine⟨?_,?_⟩|(apply q0h;(focus simp;done);all_goals (try dsimp only);omega)|fail))
   ·have he':e.1=a.pre.length:=by have:=q0k (m:=(a.pre.map fpv).length) h (by simpa using he);simpa using this
    have ef:z0u p a.pre.length w.1 e.1=z0u p a.pre.length (w.1+1) 0:=by rw[he',pairsB_full,pairsB_zero]
    have efm:(z0u p a.pre.length w.1 e.1).map q0g=(z0u p a.pre.length (w.1+1) 0).map q0g:=by rw[ef]
    refine⟨⟨w.1+1,hw'⟩,by show n-(w.1+1)<n-w.1;omega,?_⟩
    (refine Wk.of ?_ ?_ rfl rfl rfl<;>repeat' (first|exact trivial|exact WkD.same _|exact WkO.same _ _ rfl|exact WkD.eq (congrArg (fun z:List PV=>DV.buf _ z.length) efm)|exact WkO.same _ _ (congrArg (fun z=>some (DObj.arr _ z)) efm)|refine WkD.int ?_|refine⟨?_,?_⟩|(apply q0h;(focus simp;done);all_goals (try dsimp only);omega)|fail))
  ·obtain⟨w0',hw0⟩:=w;have hw':w0'=n:=by rw[hnn] at h;exact q0k h hwn
   subst hw';have hfz:(z0u p a.pre.length w0' 0).map q0g=(pairsW p a.pre.length w0').map q0g:=by rw[pairsB_zero]
   refine⟨(),?_⟩;rw[<- hfz]
   (refine Wk.of ?_ ?_ rfl rfl rfl<;>repeat' (first|exact trivial|exact WkO.same _ _ rfl|exact WkD.fz _ _ _ rfl (Or.inl ⟨_,rfl⟩) rfl|refine⟨?_,?_⟩|fail))
 rintro⟨⟩;have hl0:(((pairsW p a.pre.length n).map q0g).length:Int)=((pairsW p a.pre.length n).length:Int):=by simp
 (try conv=>whnf);repeat' (first|((first|apply And.intro|intro h)<;>try conv=>whnf))
 ·rw[hl0] at h;rw[h];exact le_worlds _
 ·rw[hl0] at h;rw[h];exact .refl _
def bitW (i:Nat):Nat:=2^i % 2^64
theorem bitW_lt {i:Nat} (h:i<64):bitW i=2^i:=Nat.mod_eq_of_lt (Nat.pow_lt_pow_right (by decide) h)
theorem wrapU_mod (n:Nat):IntKind.wrap .u64 (n:Int)=((n % 2^64:Nat):Int):=by
 show (n:Int) % (2^64:Int)=_
 omega
theorem bitW_mul (i:Nat):IntKind.wrap .u64 ((bitW i:Nat)*2)=((bitW (i+1):Nat):Int):=by
 rw[show ((bitW i:Nat):Int)*2=((bitW i*2:Nat):Int) by omega,wrapU_mod]
 congr 1
 show 2^i % 2^64*2 % 2^64=2^(i+1) % 2^64
 rw[Nat.mod_mul_mod];exact congrArg (fun z=>z % 2^64) (Nat.pow_succ 2 i).symm
theorem mask_add {q:Nat->Bool} {i:Nat} (hi:i<64) (h:q i=true):IntKind.wrap .u64 ((z0g q i:Nat)+(bitW i:Nat))=((z0g q (i+1):Nat):Int):=by
 have h1:=maskOf_lt q i
 have h2:z0g q i |||2^i=z0g q i+2^i:=by
  have:=Nat.two_pow_add_eq_or_of_lt h1 1;rw[Nat.mul_one] at this;rw[Nat.or_comm,<- this,Nat.add_comm]
 have h3:=maskOf_lt q (i+1);have h4:2^(i+1)<=2^64:=Nat.pow_le_pow_right (by decide) hi;rw[<- mask_or h] at h3 |-;rw[h2] at h3 |-;rw[bitW_lt hi,show ((z0g q i:Nat):Int)+((2^i:Nat):Int)=((z0g q i+2^i:Nat):Int) by omega,wrapU_mod,Nat.mod_eq_of_lt (by omega)]
theorem rp_value (m:Mo) (a:Act) (l:List (Nat×Nat)) (i:Nat) (hf:FitM m) (hfa:Fit a) (hl:a.rel.length<=1000) (hp:∀ l,l∈a.post->l.length<=1000) (hma:moaI m a=0) (hi:i<m.val.length) (hl64:l.length<=64) (hmem:∀ y,y∈l->y.1<64/\y.2<a.pre.length) :
  PureFn Tryz.prog 99 [m.pv,a.pv,.sl (l.map q0g),.int .i64 (i:Nat)] (u64 (valP m a l i)):=by
 obtain⟨⟨n,hM⟩,hAc⟩:=moaI_ok hma;have hO:=actI_ok hAc;have hn8:=hO.n8;have hn64:=hM.n64;refine PureFn.introC [9] mixed (fn:=Tryz.f99) rfl rfl rfl fun M w0 => ?_
 have hlv:(vlU m a i).length=a.pre.length:=by simp[vlU]
 have hsl:∀ e,((List.range e).map fun e=>valuP m a e i).length=e:=by simp
 have hmk:z0g (fun k=>((vlU m a i).getD (l.getD k (0,0)).2 0).testBit (l.getD k (0,0)).1) l.length=valP m a l i:=maskOf_congr fun k hk=>by
  rw[vlU_get (hmem _ (List.mem_iff_getElem?.2 ⟨k,q0f hk⟩)).2]
 rw[<- hmk]
 try conv=>whnf
 refine⟨Unit,fun _=>[(2,.pv (.sl (l.map q0g))),(9,.pv (.sl ((vlU m a i).map u64)))],fun _=>3,fun _=>[],?_,?_⟩
 ·try conv=>whnf
  refine⟨{ e:Nat // e<=a.pre.length },fun e=>[(2,.pv (.sl (l.map q0g))),(3,.pv (i64 i)),(4,.ref 0 0),(5,.ref 1 0),(9,.buf 2 (((List.range e.1).map fun e=>valuP m a e i).map u64).length),(21,.pv (i64 (a.pre.map fpv).length)),(22,.pv (i64 e.1))],fun _=>3,fun e=>[(0,.var (q0e m)),(1,.var (q0c a)),(2,.arr 1 (((List.range e.1).map fun e=>valuP m a e i).map u64))],fun e=>a.pre.length-e.1,⟨⟨0,Nat.zero_le _⟩,(by refine Wk.of ?_ ?_ rfl rfl rfl<;>repeat' (first|exact trivial|exact WkD.same _|exact WkO.same _ _ rfl|exact WkD.new' rfl rfl rfl|exact WkO.new _ _ rfl|exact rfl|refine⟨?_,?_⟩|fail))⟩,?_⟩;intro e;have he:=e.2
  (try conv=>whnf);repeat' (first|((first|apply And.intro|intro h)<;>try conv=>whnf))
  ·have he':e.1<a.pre.length:=by simpa using q0j h
   have hV:=ra_Value a e.1 i hfa hl hp;have hv0:=valI_ok hma he' hi;obtain⟨g,hg⟩:∃ g,valI a e.1 i=(g,0):=⟨(valI a e.1 i).1,Prod.ext rfl hv0⟩;rw[hg] at hV;have hH:=rc_Holds m g hf;have hvp:(holdsI m g).1=valuP m a e.1 i:=by rw[valuP,hg]
   rw[hvp] at hH;have hes:((List.range e.1).map fun e=>valuP m a e i).map u64++[u64 (valuP m a e.1 i)]=((List.range (e.1+1)).map fun e=>valuP m a e i).map u64:=by rw[List.range_succ,List.map_append,List.map_append];rfl
   (try conv=>whnf);repeat' (first|(apply And.intro<;>try conv=>whnf)|(apply q0p;rfl)|(apply szI;rfl)|(refine PureFn.dy hV rfl ?_;try conv=>whnf)|(refine PureFn.dy hH rfl ?_;try conv=>whnf)|fail)
   ·exact z0l (n:=8) (by simp;omega) (by decide)
   ·refine⟨⟨e.1+1,he'⟩,by show a.pre.length-(e.1+1)<a.pre.length-e.1;omega,?_⟩
    (refine Wk.of ?_ ?_ rfl rfl rfl<;>repeat' (first|exact trivial|exact WkD.same _|exact WkO.same _ _ rfl|exact WkD.eq (congrArg (fun z:List PV=>DV.buf _ z.length) hes)|exact WkO.same _ _ (congrArg (fun z=>some (DObj.arr _ z)) hes)|refine WkD.int ?_|refine⟨?_,?_⟩|(apply q0h;(focus simp;done);all_goals (try dsimp only);omega)|fail))
  ·obtain⟨e0,he0⟩:=e;have he':e0=a.pre.length:=by have:=q0k (m:=(a.pre.map fpv).length) h (by simpa using he);simpa using this
   subst he';exact⟨(),(by refine Wk.of ?_ ?_ rfl rfl rfl<;>repeat' (first|exact trivial|exact WkD.same _|exact WkD.fz _ _ _ rfl (Or.inl ⟨_,rfl⟩) rfl|refine⟨?_,?_⟩|fail))⟩
 rintro⟨⟩;generalize vlU m a i=vs at hlv
 try conv=>whnf
 refine⟨{ k:Nat // k<=l.length },fun k=>[(9,.pv (.sl (vs.map u64))),(15,.pv (u64 (z0g (fun k=>(vs.getD (l.getD k (0,0)).2 0).testBit (l.getD k (0,0)).1) k.1))),(16,.pv (u64 (bitW k.1))),(43,.pv (.sl (l.map q0g))),(44,.pv (i64 (l.map q0g).length)),(45,.pv (i64 k.1))],fun _=>3,fun _=>[],fun k=>l.length-k.1,⟨⟨0,Nat.zero_le _⟩,(by exact Wk.s rfl)⟩,?_⟩;intro k;have hk:=k.2
 (try conv=>whnf);repeat' (first|((first|apply And.intro|intro h)<;>try conv=>whnf)|(apply q0i;rfl))
 ·have hk':k.1<l.length:=by simpa using q0j h
  obtain⟨x,hx,hxw⟩:∃ y,l[k.1]? = some y/\l.getD k.1 (0,0)=y:=⟨_,q0f hk',rfl⟩;obtain⟨hx1,hx2⟩:=hmem x (List.mem_iff_getElem?.2 ⟨k.1,hx⟩);have hvx:vs[x.2]? = some (vs.getD x.2 0):=q0f (by omega);have hHas:=rm_Has (vs.getD x.2 0) x.1 hx1;refine⟨_,_,rfl,q0a hx,rfl,?_⟩
  (try conv=>whnf);repeat' (first|((first|apply And.intro|intro h)<;>try conv=>whnf)|(apply q0i;rfl)|(refine q0w (by kernel_rfl) ?_;try conv=>whnf)|(refine⟨_,_,rfl,q0a (by with_reducible assumption),rfl,?_⟩;try conv=>whnf)|(refine⟨_,(by (conv=>whnf);exact hHas),rfl,?_⟩;try conv=>whnf)|fail)
  ·refine⟨⟨k.1+1,hk'⟩,by show l.length-(k.1+1)<l.length-k.1;omega,?_⟩
   (refine Wk.of ?_ ?_ rfl rfl rfl<;>repeat' (first|exact trivial|exact WkD.same _|refine WkD.int ?_|refine⟨?_,?_⟩|(apply q0h;(focus simp;done);all_goals (try dsimp only);omega)|fail))
   ·exact mask_add (q:=fun k=>(vs.getD (l.getD k (0,0)).2 0).testBit (l.getD k (0,0)).1) (by omega) (by show (vs.getD (l.getD k.1 (0,0)).2 0).testBit (l.getD k.1 (0,0)).1=true;rw[hxw];exact h)
   ·exact bitW_mul k.1
  ·refine⟨⟨k.1+1,hk'⟩,by show l.length-(k.1+1)<l.length-k.1;omega,?_⟩
   (refine Wk.of ?_ ?_ rfl rfl rfl<;>repeat' (first|exact trivial|exact WkD.same _|refine WkD.int ?_|refine⟨?_,?_⟩|(apply q0h;(focus simp;done);all_goals (try dsimp only);omega)|fail))
   ·exact congrArg (fun z:Nat=>(z:Int)) (mask_no (q:=fun k=>(vs.getD (l.getD k (0,0)).2 0).testBit (l.getD k (0,0)).1) (by show (vs.getD (l.getD k.1 (0,0)).2 0).testBit (l.getD k.1 (0,0)).1=false;rw[hxw];exact h))
   ·exact bitW_mul k.1
 ·have hk':k.1=l.length:=by have:=q0k (m:=(l.map q0g).length) h (by simpa using hk);simpa using this
  rw[hk'];exact .refl _
theorem rp_Update (m:Mo) (a:Act) (hf:FitM m) (hfa:Fit a) (hl:a.rel.length<=1000) (hp:∀ l,l∈a.post->l.length<=1000):PureFn Tryz.prog 45 [m.pv,a.pv] (updPV (updI m a)):=by
 refine PureFn.introC [2,12,29,31] mixed (fn:=Tryz.f45) rfl rfl rfl fun M w0 => ?_
 have hW:=rp_Worlds m a hf hfa hl hp;obtain⟨l,e,hX⟩:∃ l e,z0q m a=(l,e):=⟨_,_,rfl⟩;have hwo:=worldsI_ok (m:=m) (a:=a);rw[updI];rw[hX] at hW hwo |-;clear hX;have e9:((l.map q0g).length:Int)=(l.length:Int):=by simp
 try conv=>whnf
 refine⟨Unit,fun _=>[(2,.ref 0 0),(3,.ref 1 0),(4,.ref 2 0),(7,.pv (.sl (l.map q0g))),(8,.pv (.int .i64 e))],fun _=>3,fun _=>[(0,.var (q0e m)),(1,.var (q0c a)),(2,.var cells0)],?_,?_⟩
 ·(try conv=>whnf);repeat' (first|(refine PureFn.dy hW rfl ?_;try conv=>whnf)|fail)
  exact⟨(),(by exact Wk.s rfl)⟩
 rintro⟨⟩
 (try conv=>whnf);repeat' (first|((first|apply And.intro|intro h)<;>try conv=>whnf))
 ·rw[show (((l,e):List (Nat×Nat)×Int).2 != 0)=true from h];exact le_upd _
 ·rename_i h1;have h9:decide ((l.length:Int)>64)=true:=by rw[<- e9];exact h
  rw[show (((l,e):List (Nat×Nat)×Int).2 != 0)=false from h1,show decide ((((l,e):List (Nat×Nat)×Int).1.length:Int)>64)=true from h9];exact le_upd _
 rename_i h1;have h2:decide ((l.length:Int)>64)=false:=by rw[<- e9];exact h
 obtain⟨hma,hpl,hl1⟩:=hwo (show e=0 by simpa using h1);obtain⟨⟨n,hM⟩,hAc⟩:=moaI_ok hma;have hO:=actI_ok hAc;have hn8:=hO.n8;have hn64:=hM.n64;have hfa8:=hM.fa;have hag:=hM.ag;have hpl:l=z0o m a:=hpl
 have hmem:∀ y,y∈l->y.1<n/\y.2<a.pre.length:=fun y hy=>by
  rw[hpl,z0o,hM.nn] at hy;have:=pairsW_mem.1 hy;exact⟨this.1,this.2.1⟩
 clear hpl hl1;have hl64:l.length<=64:=by have:=of_decide_eq_false h2;omega
 have hres:(bif (((l,e):List (Nat×Nat)×Int).2 != 0) then (noMo,([]:List (Nat×Nat)),((l,e):List (Nat×Nat)×Int).2) else bif decide ((((l,e):List (Nat×Nat)×Int).1.length:Int)>64) then (noMo,[],8) else (prodM m a ((l,e):List (Nat×Nat)×Int).1,((l,e):List (Nat×Nat)×Int).1,(0:Int)))=(prodM m a l,l,0):=by
  rw[show (((l,e):List (Nat×Nat)×Int).2 != 0)=false from h1,show decide ((((l,e):List (Nat×Nat)×Int).1.length:Int)>64)=false from h2];rfl
 rw[hres];clear hres;refine⟨Unit,fun _=>[(2,.ref 0 0),(3,.ref 1 0),(4,.ref 2 0),(7,.pv (.sl (l.map q0g))),(9,.ref 3 0)],fun _=>5,fun _=>[(0,.var (q0e m)),(1,.var (q0c a)),(2,.var cells0),(3,.var [.pv (i64 (l.map q0g).length),.pv (q0b (vsU m a l m.val.length)),.pv .nil])],?_,?_⟩
 ·try conv=>whnf
  refine⟨{ i:Nat // i<=m.val.length },fun i=>[(2,.ref 0 0),(3,.ref 1 0),(4,.ref 2 0),(7,.pv (.sl (l.map q0g))),(9,.ref 3 0),(38,.pv (i64 (m.val.map u64).length)),(39,.pv (i64 i.1))],fun _=>5,fun i=>[(0,.var (q0e m)),(1,.var (q0c a)),(2,.var cells0),(3,.var [.pv (i64 (l.map q0g).length),.buf 4 ((vsU m a l i.1).map u64).length,.pv .nil]),(4,.arr 1 ((vsU m a l i.1).map u64))],fun i=>m.val.length-i.1,⟨⟨0,Nat.zero_le _⟩,(by refine Wk.of ?_ ?_ rfl rfl rfl<;>repeat' (first|exact trivial|exact WkD.same _|exact WkO.same _ _ rfl|exact WkD.new' rfl rfl rfl|exact WkO.new _ _ rfl|refine WkO.vars rfl ?_|exact rfl|refine⟨?_,?_⟩|fail))⟩,?_⟩;intro i;have hi:=i.2;have hvs:=vsU_succ m a l i.1;have hvsl:((vsU m a l i.1).map u64).length<=1000:=by simp[vsU];omega
  have er:(vsU m a l i.1).map u64++[u64 (valP m a l i.1)]=(vsU m a l (i.1+1)).map u64:=by rw[hvs,List.map_append];rfl
  (try conv=>whnf);repeat' (first|((first|apply And.intro|intro h)<;>try conv=>whnf))
  ·have hi':i.1<m.val.length:=by simpa using q0j h
   have hV:=rp_value m a l i.1 hf hfa hl hp hma hi' hl64 (fun y hy=>⟨by have:=(hmem y hy).1;omega,(hmem y hy).2⟩);refine⟨Plan.lin 0 11,[],by kernel_rfl,?_⟩
   (try conv=>whnf);repeat' (first|(apply And.intro<;>try conv=>whnf)|(apply q0p;rfl)|(apply szI;rfl)|(refine⟨_,(by (conv=>whnf);exact hV),rfl,?_⟩;try conv=>whnf)|fail)
   ·exact z0l (n:=1000) hvsl (by decide)
   ·refine⟨⟨i.1+1,hi'⟩,by show m.val.length-(i.1+1)<m.val.length-i.1;omega,?_⟩
    (refine Wk.of ?_ ?_ rfl rfl rfl<;>repeat' (first|exact trivial|exact WkD.same _|exact WkO.same _ _ rfl|exact WkD.eq (congrArg (fun z:List PV=>DV.buf _ z.length) er)|exact WkO.same _ _ (congrArg (fun z=>some (DObj.arr _ z)) er)|refine WkD.int ?_|refine WkO.vars rfl ?_|refine⟨?_,?_⟩|(apply q0h;(focus simp;done);all_goals (try dsimp only);omega)|fail))
  ·obtain⟨i0,hi0⟩:=i;have hi':i0=m.val.length:=by have:=q0k (m:=(m.val.map u64).length) h (by simpa using hi);simpa using this
   subst hi';exact⟨(),(by refine Wk.of ?_ ?_ rfl rfl rfl<;>repeat' (first|exact trivial|exact WkD.same _|exact WkO.same _ _ rfl|exact WkD.fz _ _ _ rfl (Or.inl ⟨_,rfl⟩) rfl|refine WkO.vars rfl ?_|refine⟨?_,?_⟩|fail))⟩
 rintro⟨⟩;generalize hVS:(vsU m a l m.val.length)=vs;refine⟨Unit,fun _=>[(4,.ref 2 0),(7,.pv (.sl (l.map q0g))),(9,.ref 3 0)],fun _=>5,fun _=>[(2,.var cells0),(3,.var [.pv (i64 (l.map q0g).length),.pv (q0b vs),.pv (.sl ((rsU m a l m.rel.length).map q0b))])],?_,?_⟩
 ·try conv=>whnf
  refine⟨{ i:Nat // i<=m.rel.length },fun i=>[(2,.ref 0 0),(3,.ref 1 0),(4,.ref 2 0),(7,.pv (.sl (l.map q0g))),(9,.ref 3 0),(55,.pv (i64 (m.rel.map q0b).length)),(56,.pv (i64 i.1))],fun _=>6,fun i=>[(0,.var (q0e m)),(1,.var (q0c a)),(2,.var cells0),(3,.var [.pv (i64 (l.map q0g).length),.pv (q0b vs),.buf 5 ((rsU m a l i.1).map q0b).length]),(5,.arr 1 ((rsU m a l i.1).map q0b))],fun i=>m.rel.length-i.1,⟨⟨0,Nat.zero_le _⟩,(by refine Wk.of ?_ ?_ rfl rfl rfl<;>repeat' (first|exact trivial|exact WkD.same _|exact WkO.same _ _ rfl|exact WkD.new' rfl rfl rfl|exact WkO.new _ _ rfl|refine WkO.vars rfl ?_|exact rfl|refine⟨?_,?_⟩|fail))⟩,?_⟩;intro i;have hi:=i.2
  (try conv=>whnf);repeat' (first|((first|apply And.intro|intro h)<;>try conv=>whnf))
  ·have hi':i.1<m.rel.length:=by simpa using q0j h
   obtain⟨r,hr,hrw⟩:∃ r,m.rel[i.1]? = some r/\m.rel.getD i.1 []=r:=⟨_,q0f hi',rfl⟩;have hrm:r∈m.rel:=List.mem_iff_getElem?.2 ⟨i.1,hr⟩;have hrl:=hM.rows r hrm;obtain⟨ra,hra,hraw⟩:∃ r,a.rel[i.1]? = some r/\a.rel.getD i.1 []=r:=⟨_,q0f (by have:=hO.ags;omega),rfl⟩;have hram:ra∈a.rel:=List.mem_iff_getElem?.2 ⟨i.1,hra⟩;have hral:=hO.rows ra hram;refine⟨Unit,fun _=>[(2,.ref 0 0),(3,.ref 1 0),(4,.ref 2 0),(7,.pv (.sl (l.map q0g))),(9,.ref 3 0),(11,.pv (i64 i.1)),(55,.pv (i64 (m.rel.map q0b).length)),(56,.pv (i64 i.1)),(12,.pv (.sl (l.map fun x=>u64 (rowP r ra l x))))],fun _=>6,fun _=>[(0,.var (q0e m)),(1,.var (q0c a)),(2,.var cells0),(3,.var [.pv (i64 (l.map q0g).length),.pv (q0b vs),.buf 5 ((rsU m a l i.1).map q0b).length]),(5,.arr 1 ((rsU m a l i.1).map q0b))],?_,?_⟩
   ·try conv=>whnf
    refine⟨{ k:Nat // k<=l.length },fun k=>[(2,.ref 0 0),(3,.ref 1 0),(4,.ref 2 0),(7,.pv (.sl (l.map q0g))),(9,.ref 3 0),(11,.pv (i64 i.1)),(55,.pv (i64 (m.rel.map q0b).length)),(56,.pv (i64 i.1)),(12,.buf 6 ((l.take k.1).map fun x=>u64 (rowP r ra l x)).length),(59,.pv (.sl (l.map q0g))),(60,.pv (i64 (l.map q0g).length)),(61,.pv (i64 k.1))],fun _=>7,fun k=>[(0,.var (q0e m)),(1,.var (q0c a)),(2,.var cells0),(3,.var [.pv (i64 (l.map q0g).length),.pv (q0b vs),.buf 5 ((rsU m a l i.1).map q0b).length]),(5,.arr 1 ((rsU m a l i.1).map q0b)),(6,.arr 1 ((l.take k.1).map fun x=>u64 (rowP r ra l x)))],fun k=>l.length-k.1,⟨⟨0,Nat.zero_le _⟩,(by refine Wk.of ?_ ?_ rfl rfl rfl<;>repeat' (first|exact trivial|exact WkD.same _|exact WkO.same _ _ rfl|exact WkD.new' rfl rfl rfl|exact WkO.new _ _ rfl|exact rfl|refine⟨?_,?_⟩|fail))⟩,?_⟩;intro k;have hk:=k.2;have hkl:((l.take k.1).map fun x=>u64 (rowP r ra l x)).length<=64:=by simp;omega
    (try conv=>whnf);repeat' (first|((first|apply And.intro|intro h)<;>try conv=>whnf)|(apply q0i;rfl))
    ·have hk':k.1<l.length:=by simpa using q0j h
     obtain⟨x,hx,hxw⟩:∃ y,l[k.1]? = some y/\l[k.1]=y:=⟨_,List.getElem?_eq_getElem hk',rfl⟩;have hxm:=hmem x (List.mem_iff_getElem?.2 ⟨k.1,hx⟩);have hrx:r[x.1]? = some (r.getD x.1 0):=q0f (by omega);have hrax:ra[x.2]? = some (ra.getD x.2 0):=q0f (by omega);have hes:((l.take k.1).map fun x=>u64 (rowP r ra l x))++[u64 (rowP r ra l x)]=((l.take (k.1+1)).map fun x=>u64 (rowP r ra l x)):=by rw[List.take_succ_eq_append_getElem hk',List.map_append,hxw];rfl
     refine⟨_,_,rfl,q0a hx,rfl,?_⟩
     try conv=>whnf
     refine⟨{ j:Nat // j<=l.length },fun j=>[(2,.ref 0 0),(3,.ref 1 0),(4,.ref 2 0),(7,.pv (.sl (l.map q0g))),(9,.ref 3 0),(11,.pv (i64 i.1)),(55,.pv (i64 (m.rel.map q0b).length)),(56,.pv (i64 i.1)),(12,.buf 6 ((l.take k.1).map fun x=>u64 (rowP r ra l x)).length),(14,.ref 7 0),(15,.pv (u64 (z0g (fun j=>seesP r ra x (l.getD j (0,0))) j.1))),(16,.pv (u64 (bitW j.1))),(59,.pv (.sl (l.map q0g))),(60,.pv (i64 (l.map q0g).length)),(61,.pv (i64 k.1)),(65,.pv (.sl (l.map q0g))),(66,.pv (i64 (l.map q0g).length)),(67,.pv (i64 j.1))],fun _=>8,fun j=>[(0,.var (q0e m)),(1,.var (q0c a)),(2,.var cells0),(3,.var [.pv (i64 (l.map q0g).length),.pv (q0b vs),.buf 5 ((rsU m a l i.1).map q0b).length]),(5,.arr 1 ((rsU m a l i.1).map q0b)),(6,.arr 1 ((l.take k.1).map fun x=>u64 (rowP r ra l x))),(7,.var [.pv (i64 x.1),.pv (i64 x.2)])],fun j=>l.length-j.1,⟨⟨0,Nat.zero_le _⟩,(by exact Wk.s rfl)⟩,?_⟩;intro j;have hj:=j.2
     (try conv=>whnf);repeat' (first|((first|apply And.intro|intro h)<;>try conv=>whnf)|(apply q0i;rfl)|(apply q0p;rfl)|(apply szI;rfl))
     ·have hj':j.1<l.length:=by simpa using q0j h
      obtain⟨y,hy,hyw⟩:∃ y,l[j.1]? = some y/\l.getD j.1 (0,0)=y:=⟨_,q0f hj',rfl⟩;have hym:=hmem y (List.mem_iff_getElem?.2 ⟨j.1,hy⟩);have hA1:=rm_Has (r.getD x.1 0) y.1 (by omega);have hA2:=rm_Has (ra.getD x.2 0) y.2 (by omega);have hsee:seesP r ra x (l.getD j.1 (0,0))=bif (r.getD x.1 0).testBit y.1 then (ra.getD x.2 0).testBit y.2 else false:=by rw[hyw];rfl
      refine⟨_,_,rfl,q0a hy,rfl,?_⟩
      (try conv=>whnf);repeat' (first|((first|apply And.intro|intro h)<;>try conv=>whnf)|apply True.intro|(apply q0i;rfl)|(apply WhenQ.mk;(try conv=>whnf);rotate_left;(try conv=>whnf);rotate_right)|with_reducible assumption|(refine q0w (by kernel_rfl) ?_;try conv=>whnf)|(refine⟨_,_,rfl,q0a (by with_reducible assumption),rfl,?_⟩;try conv=>whnf)|(refine⟨_,(by (conv=>whnf);exact hA1),rfl,?_⟩;try conv=>whnf)|(refine⟨_,(by (conv=>whnf);exact hA2),rfl,?_⟩;try conv=>whnf)|fail)
      ·refine⟨⟨j.1+1,hj'⟩,by show l.length-(j.1+1)<l.length-j.1;omega,?_⟩
       (refine Wk.of ?_ ?_ rfl rfl rfl<;>repeat' (first|exact trivial|exact WkD.same _|exact WkO.same _ _ rfl|refine WkD.int ?_|refine⟨?_,?_⟩|(apply q0h;(focus simp;done);all_goals (try dsimp only);omega)|fail))
       ·exact mask_add (q:=fun j=>seesP r ra x (l.getD j (0,0))) (by omega) (by show seesP r ra x (l.getD j.1 (0,0))=true;rw[hsee];exact h)
       ·exact bitW_mul j.1
      ·refine⟨⟨j.1+1,hj'⟩,by show l.length-(j.1+1)<l.length-j.1;omega,?_⟩
       (refine Wk.of ?_ ?_ rfl rfl rfl<;>repeat' (first|exact trivial|exact WkD.same _|exact WkO.same _ _ rfl|refine WkD.int ?_|refine⟨?_,?_⟩|(apply q0h;(focus simp;done);all_goals (try dsimp only);omega)|fail))
       ·exact congrArg (fun z:Nat=>(z:Int)) (mask_no (q:=fun j=>seesP r ra x (l.getD j (0,0))) (by show seesP r ra x (l.getD j.1 (0,0))=false;rw[hsee];exact h))
       ·exact bitW_mul j.1
     ·exact z0l (n:=64) hkl (by decide)
     ·obtain⟨j0,hj0⟩:=j;have hj':j0=l.length:=by have:=q0k (m:=(l.map q0g).length) h (by simpa using hj);simpa using this
      subst hj';refine⟨⟨k.1+1,hk'⟩,by show l.length-(k.1+1)<l.length-k.1;omega,?_⟩
      (refine Wk.of ?_ ?_ rfl rfl rfl<;>repeat' (first|exact trivial|exact WkD.same _|exact WkO.same _ _ rfl|exact WkD.eq (congrArg (fun z:List PV=>DV.buf _ z.length) hes)|exact WkO.same _ _ (congrArg (fun z=>some (DObj.arr _ z)) hes)|refine WkD.int ?_|refine⟨?_,?_⟩|(apply q0h;(focus simp;done);all_goals (try dsimp only);omega)|fail))
    ·obtain⟨k0,hk0⟩:=k;have hk':k0=l.length:=by have:=q0k (m:=(l.map q0g).length) h (by simpa using hk);simpa using this
     subst hk';have hz:((l.take l.length).map fun x=>u64 (rowP r ra l x))=(l.map fun x=>u64 (rowP r ra l x)):=by rw[List.take_length]
     refine⟨(),?_⟩;rw[<- hz]
     (refine Wk.of ?_ ?_ rfl rfl rfl<;>repeat' (first|exact trivial|exact WkD.same _|exact WkO.same _ _ rfl|exact WkD.fz _ _ _ rfl (Or.inl ⟨_,rfl⟩) rfl|refine⟨?_,?_⟩|fail))
   rintro⟨⟩;have hrs:=rsU_succ m a l i.1;have hrsl:((rsU m a l i.1).map q0b).length<=1000:=by simp[rsU];omega
   have er:(rsU m a l i.1).map q0b++[PV.sl (l.map fun x=>u64 (rowP r ra l x))]=(rsU m a l (i.1+1)).map q0b:=by
    rw[hrs,List.map_append,relP,hrw,hraw]
    congr 1
    show[PV.sl _]=[q0b (l.map (rowP r ra l))]
    rw[q0b,List.map_map];rfl
   (try conv=>whnf);repeat' (first|(apply And.intro<;>try conv=>whnf)|(apply q0p;rfl)|(apply szI;rfl))
   ·exact z0l (n:=1000) hrsl (by decide)
   refine⟨⟨i.1+1,hi'⟩,by show m.rel.length-(i.1+1)<m.rel.length-i.1;omega,?_⟩
   (refine Wk.of ?_ ?_ rfl rfl rfl<;>repeat' (first|exact trivial|exact WkD.same _|exact WkO.same _ _ rfl|exact WkD.eq (congrArg (fun z:List PV=>DV.buf _ z.length) er)|exact WkO.same _ _ (congrArg (fun z=>some (DObj.arr _ z)) er)|refine WkD.int ?_|refine WkO.vars rfl ?_|refine⟨?_,?_⟩|(apply q0h;(focus simp;done);all_goals (try dsimp only);omega)|fail))
  ·obtain⟨i0,hi0⟩:=i;have hi':i0=m.rel.length:=by have:=q0k (m:=(m.rel.map q0b).length) h (by simpa using hi);simpa using this
   subst hi';exact⟨(),(by refine Wk.of ?_ ?_ rfl rfl rfl<;>repeat' (first|exact trivial|exact WkD.same _|exact WkO.same _ _ rfl|exact WkD.fz _ _ _ rfl (Or.inl ⟨_,rfl⟩) rfl|refine WkO.vars rfl ?_|refine⟨?_,?_⟩|fail))⟩
 rintro⟨⟩;have hfin:updPV (prodM m a l,l,0)=.tup [.agg [i64 (l.map q0g).length,q0b vs,.sl ((rsU m a l m.rel.length).map q0b)],.sl (l.map q0g),.int .i64 0]:=by rw[<- hVS,List.length_map];rfl
 try conv=>whnf
 rw[hfin];exact .refl _
theorem rp_At (m:Mo) (w:Int) (a:Act) (e:Int) (hf:FitM m) (hfa:Fit a) (hl:a.rel.length<=1000) (hp:∀ l,l∈a.post->l.length<=1000):PureFn Tryz.prog 46 [m.pv,.int .i64 w,a.pv,.int .i64 e] (atPV (atI m w a e)):=by
 refine PureFn.introC [2,8] mixed (fn:=Tryz.f46) rfl rfl rfl fun M w0 => ?_
 have hU:=rp_Update m a hf hfa hl hp;have hlen:=updI_len m a;obtain⟨R,hR⟩:∃ R,R=atI m w a e:=⟨_,rfl⟩;rw[<- hR];rw[atI] at hR;generalize updI m a=X at hU hlen hR;obtain⟨p,l,c⟩:=X;have hlen:l.length<=64:=hlen;have hg:((p,l,c):Mo×List (Nat×Nat)×Int).2.2=c:=rfl;rw[hg] at hR;have e1:((a.pre.map fpv).length:Int)=(a.pre.length:Int):=by simp
 try conv=>whnf
 refine⟨Unit,fun _=>[(1,.pv (.int .i64 w)),(3,.pv (.int .i64 e)),(4,.ref 0 0),(6,.ref 1 0),(8,.ref 2 0),(11,.ref 3 0),(12,.pv (.sl (l.map q0g))),(13,.pv (.int .i64 c))],fun _=>4,fun _=>[(0,.var (q0e m)),(1,.var (q0c a)),(2,.var cells0),(3,.var (q0e p))],?_,?_⟩
 ·(try conv=>whnf);repeat' (first|(refine PureFn.dy hU rfl ?_;try conv=>whnf)|fail)
  exact⟨(),(by exact Wk.s rfl)⟩
 rintro⟨⟩
 (try conv=>whnf);repeat' (first|((first|apply And.intro|intro h)<;>try conv=>whnf)|apply True.intro|(apply WhenQ.mk;(try conv=>whnf);rotate_left;(try conv=>whnf);rotate_right)|with_reducible assumption|(apply q0x;with_reducible assumption))
 ·rw[hR,show (c != 0)=true from h];exact PLe.tups ⟨le_noMo,.refl _,.refl _,trivial⟩
 ·rename_i h0;rw[hR,show (c != 0)=false from h0,show badW m w=true from h];exact PLe.tups ⟨le_noMo,.refl _,.refl _,trivial⟩
 rename_i h0;have h1:=h;refine⟨{ _x:Unit // z0p a e=false },fun _=>[(1,.pv (.int .i64 w)),(3,.pv (.int .i64 e)),(8,.ref 2 0),(11,.ref 3 0),(12,.pv (.sl (l.map q0g)))],fun _=>4,fun _=>[(2,.var cells0),(3,.var (q0e p))],?_,?_⟩
 ·(try conv=>whnf);repeat' (first|((first|apply And.intro|intro h)<;>try conv=>whnf)|apply True.intro|(apply WhenQ.mk;(try conv=>whnf);rotate_left;(try conv=>whnf);rotate_right)|with_reducible assumption|(apply q0x;with_reducible assumption))
  ·have h9:z0p a e=true:=by rw[z0p,<- e1];exact h
   rw[hR,show (c != 0)=false from h0,show badW m w=false from h1,h9];exact PLe.tups ⟨le_noMo,.refl _,.refl _,trivial⟩
  ·have h9:z0p a e=false:=by rw[z0p,<- e1];exact h
   exact⟨⟨(),h9⟩,(by exact Wk.s rfl)⟩
 rintro⟨_,h2⟩;rw[show (c != 0)=false from h0,show badW m w=false from h1,h2] at hR;have hR:R=match l.findIdx? (isP w e) with|none=>(noMo,0,11)|some i=>(p,(i:Int),0):=hR
 try conv=>whnf
 refine⟨{ i:Nat // i<=l.length/\(l.take i).any (isP w e)=false },fun i=>[(1,.pv (.int .i64 w)),(3,.pv (.int .i64 e)),(8,.ref 2 0),(11,.ref 3 0),(46,.pv (.sl (l.map q0g))),(47,.pv (i64 (l.map q0g).length)),(48,.pv (i64 i.1))],fun _=>4,fun _=>[(2,.var cells0),(3,.var (q0e p))],fun i=>l.length-i.1,⟨⟨0,Nat.zero_le _,rfl⟩,(by exact Wk.s rfl)⟩,?_⟩;rintro⟨i,hi,hn⟩
 (try conv=>whnf);repeat' (first|((first|apply And.intro|intro h)<;>try conv=>whnf)|(apply q0i;rfl))
 ·have hi':i<l.length:=by simpa using q0j h
  obtain⟨y,hy,hyw⟩:∃ y,l[i]? = some y/\l[i]=y:=⟨_,List.getElem?_eq_getElem hi',rfl⟩;refine⟨_,_,rfl,q0a hy,rfl,?_⟩
  (try conv=>whnf);repeat' (first|((first|apply And.intro|intro h)<;>try conv=>whnf)|apply True.intro|(apply WhenQ.mk;(try conv=>whnf);rotate_left;(try conv=>whnf);rotate_right)|with_reducible assumption)
  ·rw[hR,find_at hy (show isP w e y=true from h) hn];exact .refl _
  ·exact⟨⟨i+1,hi',y0b hi' hn (by rw[hyw];exact h)⟩,by show l.length-(i+1)<l.length-i;omega,(by refine Wk.of ?_ ?_ rfl rfl rfl<;>repeat' (first|exact trivial|exact WkD.same _|exact WkO.same _ _ rfl|refine WkD.int ?_|refine⟨?_,?_⟩|(apply q0h;(focus simp;done);all_goals (try dsimp only);omega)|fail))⟩
 ·have hi':i=l.length:=by have:=q0k (m:=(l.map q0g).length) h (by simpa using hi);simpa using this
  subst hi';rw[List.take_length] at hn;rw[hR,find_none hn];exact PLe.tups ⟨le_noMo,.refl _,.refl _,trivial⟩
set_option maxHeartbeats 8000000
theorem fir_two {α:Type} (g:α->Int) (x y:α):firE g [x,y]=bif g x != 0 then g x else bif g y != 0 then g y else 0:=rfl
theorem at_mem {m:Mo} {a:Act} {w e:Nat} (hm:moaI m a=0) (h8:(updI m a).2.2≠8) (hw:w<m.n.toNat) (he:e<a.pre.length):((atI m w a e).2.2==0)=(possP m a e).testBit w:=by
 have key:(possP m a e).testBit w=true↔(w,e)∈z0o m a:=by rw[z0o,pairsW_mem];exact⟨fun h=>⟨hw,he,h⟩,fun h=>h.2.2⟩
 have hbw:badW m w=false:=by unfold badW;rw[decide_eq_false (by omega),decide_eq_false (by omega)];rfl
 have hbe:z0p a e=false:=by unfold z0p;rw[decide_eq_false (by omega),decide_eq_false (by omega)];rfl
 have hwo:z0q m a=bif ((z0o m a).length:Int)==0 then ([],11) else (z0o m a,0):=by rw[z0q,hm];rfl
 cases hl:(((z0o m a).length:Int)==0) with
 |true =>
  rw[hl] at hwo;have hu:(updI m a).2.2=11:=by rw[updI,hwo];rfl
  have ha:(atI m w a e).2.2=11:=by rw[atI,hu];rfl
  have hn:z0o m a=[]:=by simpa using hl
  rw[ha]
  cases hq:(possP m a e).testBit w with
  |false=>rfl
  |true=>have:=key.1 hq;rw[hn] at this;cases this
 |false =>
  rw[hl] at hwo;have hu:updI m a=bif decide (((z0o m a).length:Int)>64) then (noMo,[],8) else (prodM m a (z0o m a),z0o m a,0):=by rw[updI,hwo];rfl
  cases hd:decide (((z0o m a).length:Int)>64) with
  |true=>rw[hd] at hu;rw[hu] at h8;exact absurd rfl h8
  |false =>
   rw[hd] at hu;have hs:=List.findIdx?_isSome (xs:=z0o m a) (p:=fun q:Nat×Nat=>(bif (q.1:Int)==(w:Int) then (q.2:Int)==(e:Int) else false))
   have hm2:(z0o m a).any (fun q:Nat×Nat=>(bif (q.1:Int)==(w:Int) then (q.2:Int)==(e:Int) else false))=(possP m a e).testBit w:=by
    rw[Bool.eq_iff_iff,List.any_eq_true,key];constructor
    ·rintro⟨⟨q1,q2⟩,hq,hh⟩
     cases h1:((q1:Int)==(w:Int)) with
     |false=>rw[show (bif ((q1,q2).1:Int)==(w:Int) then ((q1,q2).2:Int)==(e:Int) else false)=false by show (bif (q1:Int)==(w:Int) then _ else _)=false;rw[h1];rfl] at hh;cases hh
     |true =>
      have h2:((q2:Int)==(e:Int))=true:=by
       have:(bif (q1:Int)==(w:Int) then ((q2:Int)==(e:Int)) else false)=true:=hh
       rwa [h1] at this
      have e1:q1=w:=by simp at h1;omega
      have e2:q2=e:=by simp at h2;omega
      rw[<- e1,<- e2];exact hq
    ·intro hq;exact⟨(w,e),hq,by simp⟩
   rw[hm2] at hs;rw[<- hs,atI,hu,hbw,hbe]
   show ((match (z0o m a).findIdx? fun q:Nat×Nat=>(bif (q.1:Int)==(w:Int) then (q.2:Int)==(e:Int) else false) with
    |none=>(noMo,(0:Int),(11:Int))
    |some i=>(prodM m a (z0o m a),(i:Int),0)).2.2==0)=_
   cases (z0o m a).findIdx? fun q:Nat×Nat=>(bif (q.1:Int)==(w:Int) then (q.2:Int)==(e:Int) else false) with
   |none=>rfl
   |some i=>rfl
theorem g2_yes {x y:Act×Int} (h:(bif z0p x.1 x.2 then true else z0p y.1 y.2)=true):firE g2D [x,y]=6:=by
 rw[fir_two,g2D,g2D]
 cases hx:z0p x.1 x.2 with
 |true=>rfl
 |false =>
  rw[hx] at h;rw[show z0p y.1 y.2=true from h];rfl
theorem g2_no {x y:Act×Int} (h1:z0p x.1 x.2=false) (h2:z0p y.1 y.2=false):firE g2D [x,y]=0:=by
 rw[fir_two,g2D,g2D,h1,h2];rfl
theorem ev_nat {a:Act} {e:Int} (h:z0p a e=false):∃ k:Nat,e=(k:Int)/\k<a.pre.length:=by
 unfold z0p at h
 cases h1:decide (e<0) with
 |true=>rw[h1] at h;cases h
 |false =>
  rw[h1] at h;have h2:=of_decide_eq_false (show decide (e>=(a.pre.length:Int))=false from h);have h3:=of_decide_eq_false h1;exact⟨e.toNat,by omega,by omega⟩
theorem or4_split {p q r s:Bool}:(bif (bif (bif p then true else q) then true else r) then true else s)=(bif (bif p then true else q) then true else (bif r then true else s)):=by
 cases p<;>cases q<;>cases r<;>cases s<;>rfl
theorem rf_Differ (m:Mo) (x y:Act×Int) (hf:FitM m) (hSx:SmX x.1) (hSy:SmX y.1) (B:Nat->Bool)
  (hB:difG m [x,y]=0->∀ w,w<m.n.toNat->(preS m x).testBit w=true->(preS m y).testBit w=true->∃ c:Int,PureFn Tryz.prog 47 [(atI m w x.1 x.2).1.pv,.int .i64 (atI m w x.1 x.2).2.1,(atI m w y.1 y.2).1.pv,.int .i64 (atI m w y.1 y.2).2.1] (.tup [.bool (B w),.int .i64 c])) :
  PureFn Tryz.prog 15 [m.pv,evP x,evP y] (difP (difI m x y B)):=by
 have hM:=rm_Check m hf;have hX:=ra_Check x.1 ((m.rel.map q0b).length:Int) ((m.val.map u64).length:Int) hSx.fit hSx.rel hSx.post;have hY:=ra_Check y.1 ((m.rel.map q0b).length:Int) ((m.val.map u64).length:Int) hSy.fit hSy.rel hSy.post;have hUx:=rp_Update m x.1 hf hSx.fit hSx.rel hSx.post;have hUy:=rp_Update m y.1 hf hSy.fit hSy.rel hSy.post;have hAx:=fun w:Nat=>rp_At m (w:Int) x.1 x.2 hf hSx.fit hSx.rel hSx.post
 have hAy:=fun w:Nat=>rp_At m (w:Int) y.1 y.2 hf hSy.fit hSy.rel hSy.post
 have e1:((m.rel.map q0b).length:Int)=(m.rel.length:Int):=by simp
 have e2:((m.val.map u64).length:Int)=(m.val.length:Int):=by simp
 have e3:((x.1.pre.map fpv).length:Int)=(x.1.pre.length:Int):=by simp
 have e4:((y.1.pre.map fpv).length:Int)=(y.1.pre.length:Int):=by simp
 obtain⟨R,hR⟩:∃ R,R=difP (difI m x y B):=⟨_,rfl⟩;rw[<- hR];have hno:∀ c,difG m [x,y]=c->(c != 0)=true->R=.tup [.int .i64 0,.int .i64 c]:=fun c h hc=>by rw[hR,difI,h,hc];rfl
 have hG:difG m [x,y]=bif moI m != 0 then moI m else bif firE (g1D m) [x,y] != 0 then firE (g1D m) [x,y] else bif firE g2D [x,y] != 0 then firE g2D [x,y] else firE (g3D m) [x,y]:=rfl
 refine PureFn.introC [2,4,5,7,8,10,12,13,14,16,20,21,25] mixed (fn:=Tryz.f15) rfl rfl rfl fun M w0 => ?_
 try conv=>whnf
 refine⟨{ _x:Unit // moI m=0 },fun _=>[(3,.ref 0 0),(4,.ref 1 0),(5,.ref 2 0)],fun _=>3,fun _=>[(0,.var (q0e m)),(1,.var (q0t x)),(2,.var (q0t y))],?_,?_⟩
 ·try conv=>whnf
  refine⟨Unit,fun _=>[(3,.ref 0 0),(4,.ref 1 0),(5,.ref 2 0),(8,.pv (.int .i64 (moI m)))],fun _=>3,fun _=>[(0,.var (q0e m)),(1,.var (q0t x)),(2,.var (q0t y))],?_,?_⟩
  ·(try conv=>whnf);repeat' (first|(refine PureFn.dy hM rfl ?_;try conv=>whnf)|fail)
   exact⟨(),(by exact Wk.s rfl)⟩
  rintro⟨⟩
  (try conv=>whnf);repeat' (first|((first|apply And.intro|intro h)<;>try conv=>whnf))
  ·rw[hno (moI m) (by rw[hG,show (moI m != 0)=true from h];rfl) h];exact .refl _
  ·exact⟨⟨(),by simpa using h⟩,(by exact Wk.s rfl)⟩
 rintro⟨_,hm0⟩;have g1:(moI m != 0)=false:=by simpa using hm0
 rw[g1,cond_false] at hG;rw[e1,e2] at hX hY;have gx:g1D m x=actI x.1 (m.rel.length:Int) (m.val.length:Int):=rfl;have gy:g1D m y=actI y.1 (m.rel.length:Int) (m.val.length:Int):=rfl;rw[fir_two,fir_two,fir_two,gx,gy] at hG;have hmx:actI x.1 (m.rel.length:Int) (m.val.length:Int)=0->moaI m x.1=0:=fun h=>by rw[moaI,g1];exact h
 have hmy:actI y.1 (m.rel.length:Int) (m.val.length:Int)=0->moaI m y.1=0:=fun h=>by rw[moaI,g1];exact h
 rw[<- e1,<- e2] at hX hY;obtain⟨cx,hcx⟩:∃ cx,cx=actI x.1 (m.rel.length:Int) (m.val.length:Int):=⟨_,rfl⟩;obtain⟨cy,hcy⟩:∃ cy,cy=actI y.1 (m.rel.length:Int) (m.val.length:Int):=⟨_,rfl⟩;rw[e1,e2,<- hcx] at hX;rw[e1,e2,<- hcy] at hY;rw[<- e1,<- e2] at hX hY;rw[<- hcx,<- hcy] at hG;rw[<- hcx] at hmx;rw[<- hcy] at hmy
 try conv=>whnf
 refine⟨{ _x:Unit // cx=0 },fun _=>[(3,.ref 0 0),(4,.ref 1 0),(5,.ref 2 0)],fun _=>3,fun _=>[(0,.var (q0e m)),(1,.var (q0t x)),(2,.var (q0t y))],?_,?_⟩
 ·try conv=>whnf
  refine⟨Unit,fun _=>[(3,.ref 0 0),(4,.ref 1 0),(5,.ref 2 0),(9,.pv (.int .i64 cx))],fun _=>3,fun _=>[(0,.var (q0e m)),(1,.var (q0t x)),(2,.var (q0t y))],?_,?_⟩
  ·(try conv=>whnf);repeat' (first|(refine PureFn.dy hX rfl ?_;try conv=>whnf)|fail)
   exact⟨(),(by exact Wk.s rfl)⟩
  rintro⟨⟩
  (try conv=>whnf);repeat' (first|((first|apply And.intro|intro h)<;>try conv=>whnf))
  ·have h1:(cx != 0)=true:=h;rw[hno cx (by rw[hG,h1,cond_true,h1];rfl) h1];exact .refl _
  ·exact⟨⟨(),by simpa using h⟩,(by exact Wk.s rfl)⟩
 rintro⟨_,hx0⟩;subst hx0
 try conv=>whnf
 refine⟨{ _x:Unit // cy=0 },fun _=>[(3,.ref 0 0),(4,.ref 1 0),(5,.ref 2 0)],fun _=>3,fun _=>[(0,.var (q0e m)),(1,.var (q0t x)),(2,.var (q0t y))],?_,?_⟩
 ·try conv=>whnf
  refine⟨Unit,fun _=>[(3,.ref 0 0),(4,.ref 1 0),(5,.ref 2 0),(10,.pv (.int .i64 cy))],fun _=>3,fun _=>[(0,.var (q0e m)),(1,.var (q0t x)),(2,.var (q0t y))],?_,?_⟩
  ·(try conv=>whnf);repeat' (first|(refine PureFn.dy hY rfl ?_;try conv=>whnf)|fail)
   exact⟨(),(by exact Wk.s rfl)⟩
  rintro⟨⟩
  (try conv=>whnf);repeat' (first|((first|apply And.intro|intro h)<;>try conv=>whnf))
  ·have h1:(cy != 0)=true:=h;rw[hno cy (by rw[hG,show ((0:Int) != 0)=false from rfl,cond_false,h1,cond_true,h1];rfl) h1];exact .refl _
  ·exact⟨⟨(),by simpa using h⟩,(by exact Wk.s rfl)⟩
 rintro⟨_,hy0⟩;subst hy0;have hG:difG m [x,y]=bif firE g2D [x,y] != 0 then firE g2D [x,y] else bif g3D m x != 0 then g3D m x else bif g3D m y != 0 then g3D m y else 0:=hG
 have hbx:z0p x.1 x.2=bif decide (x.2<0) then true else decide (x.2>=((x.1.pre.map fpv).length:Int)):=by rw[z0p,e3]
 have hby:z0p y.1 y.2=bif decide (y.2<0) then true else decide (y.2>=((y.1.pre.map fpv).length:Int)):=by rw[z0p,e4]
 try conv=>whnf
 refine⟨{ _x:Unit // z0p x.1 x.2=false/\z0p y.1 y.2=false },fun _=>[(3,.ref 0 0),(4,.ref 1 0),(5,.ref 2 0)],fun _=>3,fun _=>[(0,.var (q0e m)),(1,.var (q0t x)),(2,.var (q0t y))],?_,?_⟩
 ·(try conv=>whnf);repeat' (first|((first|apply And.intro|intro h)<;>try conv=>whnf)|apply True.intro|(apply WhenQ.mk;(try conv=>whnf);rotate_left;(try conv=>whnf);rotate_right)|with_reducible assumption|(apply q0x;with_reducible assumption))
  ·have h1:=or4_split.symm.trans h;rw[<- hbx,<- hby] at h1;rw[hno 6 (by rw[hG,g2_yes h1];rfl) rfl];exact .refl _
  ·have h1:=or4_split.symm.trans h;rw[<- hbx,<- hby] at h1;refine⟨⟨(),?_⟩,(by exact Wk.s rfl)⟩
   cases hq:z0p x.1 x.2 with
   |true=>rw[hq] at h1;cases h1
   |false=>rw[hq] at h1;exact⟨rfl,h1⟩
 rintro⟨_,hb1,hb2⟩;rw[g2_no hb1 hb2] at hG;have hG:difG m [x,y]=bif g3D m x != 0 then g3D m x else bif g3D m y != 0 then g3D m y else 0:=hG
 have g3x:g3D m x=bif (updI m x.1).2.2==8 then 8 else 0:=rfl
 have g3y:g3D m y=bif (updI m y.1).2.2==8 then 8 else 0:=rfl
 rw[g3x,g3y] at hG;obtain⟨xn,hxn,hxl⟩:=ev_nat hb1;obtain⟨yn,hyn,hyl⟩:=ev_nat hb2
 have hax:(updI m x.1).2.2≠8->∀ w:Nat,w<m.n.toNat->((atI m w x.1 x.2).2.2==0)=(preS m x).testBit w:=fun h w hw=>by
  rw[preS,hxn];exact at_mem (hmx rfl) h hw hxl
 have hay:(updI m y.1).2.2≠8->∀ w:Nat,w<m.n.toNat->((atI m w y.1 y.2).2.2==0)=(preS m y).testBit w:=fun h w hw=>by
  rw[preS,hyn];exact at_mem (hmy rfl) h hw hyl
 generalize updI m x.1=ux at hUx hG hax;generalize updI m y.1=uy at hUy hG hay;obtain⟨ux1,ux2,c1⟩:=ux;obtain⟨uy1,uy2,c2⟩:=uy;simp only at hG hax hay
 try conv=>whnf
 refine⟨Unit,fun _=>[(3,.ref 0 0),(4,.ref 1 0),(5,.ref 2 0),(13,.pv (.int .i64 c1))],fun _=>3,fun _=>[(0,.var (q0e m)),(1,.var (q0t x)),(2,.var (q0t y))],?_,?_⟩
 ·(try conv=>whnf);repeat' (first|(refine PureFn.dy hUx rfl ?_;try conv=>whnf)|fail)
  exact⟨(),(by exact Wk.s rfl)⟩
 rintro⟨⟩
 try conv=>whnf
 refine⟨Unit,fun _=>[(3,.ref 0 0),(4,.ref 1 0),(5,.ref 2 0),(13,.pv (.int .i64 c1)),(16,.pv (.int .i64 c2))],fun _=>3,fun _=>[(0,.var (q0e m)),(1,.var (q0t x)),(2,.var (q0t y))],?_,?_⟩
 ·(try conv=>whnf);repeat' (first|(refine PureFn.dy hUy rfl ?_;try conv=>whnf)|fail)
  exact⟨(),(by exact Wk.s rfl)⟩
 rintro⟨⟩
 try conv=>whnf
 refine⟨{ _x:Unit // (c1==8)=false/\(c2==8)=false },fun _=>[(3,.ref 0 0),(4,.ref 1 0),(5,.ref 2 0)],fun _=>3,fun _=>[(0,.var (q0e m)),(1,.var (q0t x)),(2,.var (q0t y))],?_,?_⟩
 ·(try conv=>whnf);repeat' (first|((first|apply And.intro|intro h)<;>try conv=>whnf)|apply True.intro|(apply WhenQ.mk;(try conv=>whnf);rotate_left;(try conv=>whnf);rotate_right)|with_reducible assumption|(apply q0x;with_reducible assumption))
  ·have h1:(bif c1==8 then true else c2==8)=true:=h
   have h2:difG m [x,y]=8:=by
    rw[hG]
    cases hq:(c1==8) with
    |true=>rfl
    |false=>rw[hq] at h1;rw[show (c2==8)=true from h1];rfl
   rw[hno 8 h2 rfl];exact .refl _
  ·have h1:(bif c1==8 then true else c2==8)=false:=h;refine⟨⟨(),?_⟩,(by exact Wk.s rfl)⟩
   cases hq:(c1==8) with
   |true=>rw[hq] at h1;cases h1
   |false=>rw[hq] at h1;exact⟨rfl,h1⟩
 rintro⟨_,h81,h82⟩;rw[h81,h82] at hG;have hG:difG m [x,y]=0:=hG;have hax:=hax (by simpa using h81);have hay:=hay (by simpa using h82);have hB:=hB hG;obtain⟨n,hMn⟩:=moI_ok hm0;have hnn:=hMn.nn;have hn64:=hMn.n64;have hR0:R=.tup [.int .i64 (firW (difW m x y B) n),.int .i64 0]:=by rw[hR,difI,hG,hnn];rfl
 rw[hnn,Int.toNat_natCast] at hB hax hay;have hD:∀ w,difW m x y B w=bif (preS m x).testBit w != (preS m y).testBit w then true else bif (preS m x).testBit w then !B w else false:=fun w=>rfl
 generalize difW m x y B=D at hD hR0
 try conv=>whnf
 refine⟨{ w:Nat // w<=n/\∀ v,v<w->D v=false },fun w=>[(3,.ref 0 0),(4,.ref 1 0),(5,.ref 2 0),(17,.pv (i64 w.1))],fun _=>3,fun w=>[(0,.var (q0e m)),(1,.var (q0t x)),(2,.var (q0t y))],fun w=>n-w.1,⟨⟨0,Nat.zero_le _,fun v h=>by omega⟩,(by exact Wk.s rfl)⟩,?_⟩;rintro⟨w,hw,hnow⟩
 (try conv=>whnf);repeat' (first|((first|apply And.intro|intro h)<;>try conv=>whnf))
 ·have hw':w<n:=by
   have h2:decide ((w:Int)<m.n)=true:=h;have:=of_decide_eq_true h2;omega
  have hBw:=hB w hw';have hX2:=hAx w;have hY2:=hAy w;have hax:=hax w hw';have hay:=hay w hw';have hDw:=hD w
  have hnext:D w=false->∀ v,v<w+1->D v=false:=fun h v hv=>by
   by_cases e:v<w
   ·exact hnow v e
   ·rw[show v=w by omega];exact h
  have hyes:=fun h=>firW_yes (p:=D) hw' h hnow
  generalize (atI m (w:Nat) x.1 x.2)=X at hX2 hax hBw;generalize (atI m (w:Nat) y.1 y.2)=Y at hY2 hay hBw;obtain⟨Xm,Xp,Xe⟩:=X;obtain⟨Ym,Yp,Ye⟩:=Y;simp only at hax hay hBw;refine⟨Unit,fun _=>[(3,.ref 0 0),(4,.ref 1 0),(5,.ref 2 0),(17,.pv (i64 w)),(18,.ref 3 0),(19,.pv (.int .i64 Xp)),(20,.pv (.int .i64 Xe))],fun _=>4,fun _=>[(0,.var (q0e m)),(1,.var (q0t x)),(2,.var (q0t y)),(3,.var (q0e Xm))],?_,?_⟩
  ·(try conv=>whnf);repeat' (first|(refine PureFn.dy hX2 rfl ?_;try conv=>whnf)|fail)
   exact⟨(),(by exact Wk.s rfl)⟩
  rintro⟨⟩;refine⟨Unit,fun _=>[(3,.ref 0 0),(4,.ref 1 0),(5,.ref 2 0),(17,.pv (i64 w)),(18,.ref 3 0),(19,.pv (.int .i64 Xp)),(20,.pv (.int .i64 Xe)),(21,.ref 4 0),(22,.pv (.int .i64 Yp)),(23,.pv (.int .i64 Ye))],fun _=>5,fun _=>[(0,.var (q0e m)),(1,.var (q0t x)),(2,.var (q0t y)),(3,.var (q0e Xm)),(4,.var (q0e Ym))],?_,?_⟩
  ·(try conv=>whnf);repeat' (first|(refine PureFn.dy hY2 rfl ?_;try conv=>whnf)|fail)
   exact⟨(),(by exact Wk.s rfl)⟩
  rintro⟨⟩
  (try conv=>whnf);repeat' (first|((first|apply And.intro|intro h)<;>try conv=>whnf))
  ·have h2:((Xe==0) != (Ye==0))=true:=h;rw[hax,hay] at h2;rw[hR0,hyes (by rw[hDw,h2];rfl)];exact .refl _
  ·have h2:((Xe==0) != (Ye==0))=false:=by assumption
   have h3:(Xe != 0)=true:=h;rw[hax,hay] at h2;have h4:(preS m x).testBit w=false:=by rw[<- hax];simpa using h3
   exact⟨⟨w+1,hw',hnext (by rw[hDw,h2,h4];rfl)⟩,by show n-(w+1)<n-w;omega,(by refine Wk.of ?_ ?_ rfl rfl rfl<;>repeat' (first|exact trivial|exact WkD.same _|exact WkO.same _ _ rfl|refine WkD.int ?_|refine⟨?_,?_⟩|(apply q0h;(focus simp;done);all_goals (try dsimp only);omega)|fail))⟩
  have h2:((Xe==0) != (Ye==0))=false:=by assumption
  have h3:(Xe != 0)=false:=h;rw[hax,hay] at h2;have h4:(preS m x).testBit w=true:=by rw[<- hax];simpa using h3
  have h5:(preS m y).testBit w=true:=by
   rw[h4] at h2
   cases hq:(preS m y).testBit w with
   |true=>rfl
   |false=>rw[hq] at h2;cases h2
  obtain⟨c,hBw⟩:=hBw h4 h5;have hDw:D w=!B w:=by rw[hDw,h4,h5];rfl
  refine⟨Unit,fun _=>[(3,.ref 0 0),(4,.ref 1 0),(5,.ref 2 0),(17,.pv (i64 w)),(24,.pv (.bool (B w)))],fun _=>3,fun _=>[(0,.var (q0e m)),(1,.var (q0t x)),(2,.var (q0t y))],?_,?_⟩
  ·(try conv=>whnf);repeat' (first|(refine PureFn.dy hBw rfl ?_;try conv=>whnf)|fail)
   exact⟨(),(by exact Wk.s rfl)⟩
  rintro⟨⟩
  (try conv=>whnf);repeat' (first|((first|apply And.intro|intro h)<;>try conv=>whnf))
  ·have hb:(!B w)=true:=h;rw[hR0,hyes (hDw.trans hb)];exact .refl _
  ·have hb:(!B w)=false:=h;exact⟨⟨w+1,hw',hnext (hDw.trans hb)⟩,by show n-(w+1)<n-w;omega,(by refine Wk.of ?_ ?_ rfl rfl rfl<;>repeat' (first|exact trivial|exact WkD.same _|exact WkO.same _ _ rfl|refine WkD.int ?_|refine⟨?_,?_⟩|(apply q0h;(focus simp;done);all_goals (try dsimp only);omega)|fail))⟩
 ·have hw':w=n:=by
   have h2:decide ((w:Int)<m.n)=false:=h;have:=of_decide_eq_false h2;omega
  subst hw'
  try conv=>whnf
  rw[hR0,firW_no hnow];exact .refl _
def sameZ:List Int->List Int->Bool
 | [],[]=>true
 |x::r,y::s=>bif x==y then sameZ r s else false
 |_,_=>false
theorem sameZ_drop {a b:List Int} {i:Nat} {x y:Int} (h1:a[i]? = some x) (h2:b[i]? = some y):sameZ (a.drop i) (b.drop i)=bif x==y then sameZ (a.drop (i+1)) (b.drop (i+1)) else false:=by
 obtain⟨p1,p2⟩:=List.getElem?_eq_some_iff.1 h1;obtain⟨q1,q2⟩:=List.getElem?_eq_some_iff.1 h2;rw[List.drop_eq_getElem_cons p1,List.drop_eq_getElem_cons q1,p2,q2];rfl
theorem sameZ_len:∀ {a b:List Int},a.length≠b.length->sameZ a b=false
 | [],[],h=>absurd rfl h
 | [],_::_,_=>rfl
 |_::_,[],_=>rfl
 |x::r,y::s,h=>by
  rw[sameZ,sameZ_len (a:=r) (b:=s) (by simpa using h)]
  cases (x==y)<;>rfl
theorem ri_SameInts (a b:List Int) (hl0:a.length<=1000):PureFn Tryz.prog 39 [.sl (a.map intI),.sl (b.map intI)] (.bool (sameZ a b)):=by
 refine PureFn.introC [3] mixed (fn:=Tryz.f39) rfl rfl rfl fun M w0 => ?_
 try conv=>whnf
 refine⟨{ _x:Unit // a.length=b.length },fun _=>[(0,.pv (.sl (a.map intI))),(1,.pv (.sl (b.map intI)))],fun _=>0,fun _=>[],?_,?_⟩
 ·(try conv=>whnf);repeat' (first|((first|apply And.intro|intro h)<;>try conv=>whnf))
  ·have h2:(((a.map intI).length:Int) != ((b.map intI).length:Int))=true:=h;refine z0n (sameZ_len ?_).symm;intro e;rw[List.length_map,List.length_map,e] at h2;simp at h2
  ·refine⟨⟨(),?_⟩,(by exact Wk.s rfl)⟩;have h2:(((a.map intI).length:Int) != ((b.map intI).length:Int))=false:=h;rw[List.length_map,List.length_map] at h2;have:(a.length:Int)=b.length:=by simpa using h2
   omega
 rintro⟨_,hl⟩
 try conv=>whnf
 refine⟨{ i:Nat // i<=a.length/\sameZ a b=sameZ (a.drop i) (b.drop i) },fun i=>[(0,.pv (.sl (a.map intI))),(1,.pv (.sl (b.map intI))),(5,.pv (i64 i.1))],fun _=>0,fun _=>[],fun i=>a.length-i.1,⟨⟨0,Nat.zero_le _,rfl⟩,(by exact Wk.s rfl)⟩,?_⟩;rintro⟨i,hi,hs⟩
 (try conv=>whnf);repeat' (first|((first|apply And.intro|intro h)<;>try conv=>whnf)|(apply q0i;rfl)|(refine q0w (by kernel_rfl) ?_;try conv=>whnf)|fail)
 ·have hi':i<a.length:=by simpa using q0j h
  obtain⟨x,hx⟩:∃ x,a[i]? = some x:=⟨_,List.getElem?_eq_getElem hi'⟩;obtain⟨y,hy⟩:∃ y,b[i]? = some y:=⟨_,List.getElem?_eq_getElem (by omega)⟩;rw[sameZ_drop hx hy] at hs
  (try conv=>whnf);repeat' (first|((first|apply And.intro|intro h)<;>try conv=>whnf)|(apply q0i;rfl)|(refine⟨_,_,rfl,q0a (by with_reducible assumption),rfl,?_⟩;try conv=>whnf)|fail)
  ·have h2:(x != y)=true:=h;rw[show (x==y)=false by simpa using h2] at hs;exact z0n hs.symm
  ·have h2:(x != y)=false:=h;rw[show (x==y)=true by simpa using h2] at hs;exact⟨⟨i+1,hi',hs⟩,by show a.length-(i+1)<a.length-i;omega,(by refine Wk.of ?_ ?_ rfl rfl rfl<;>repeat' (first|exact trivial|exact WkD.same _|refine WkD.int ?_|refine⟨?_,?_⟩|(apply q0h;(focus simp;done);all_goals (try dsimp only);omega)|fail))⟩
 ·have hi':i=a.length:=by have:=q0k (m:=(a.map intI).length) h (by simpa using hi);simpa using this
  subst hi';rw[List.drop_length,hl,List.drop_length] at hs;exact z0n hs.symm
def twoA (P Q:List Nd):Act:=⟨[P,Q],[[],[]],[[3,3]]⟩
theorem fn_two (P Q:List Nd):PureFn Tryz.prog 35 [fpv P,fpv Q] (twoA P Q).pv:=by
 refine PureFn.intro mixed (fn:=Tryz.f35) rfl rfl rfl fun M w0 => ?_
 (try conv=>whnf);repeat' (first|(apply And.intro<;>try conv=>whnf)|(apply bleI;rfl)|(apply q0p;rfl)|(apply Or.inl;try conv=>whnf)|fail)
 ·rfl
 ·exact (show (0:Int)<=2 by decide)
 ·exact (show (2:Int)<=4294967296 by decide)
 ·exact PLe.aggs ⟨.refl _,PLe.sls ⟨.nil,.nil,trivial⟩,.refl _,trivial⟩
theorem awk31:PureFn Tryz.prog 13 [] (.bool true):=by
 obtain⟨P,qP⟩:∃ z:List Nd,z=[nI 3 0]:=⟨_,rfl⟩;obtain⟨Q,qQ⟩:∃ z:List Nd,z=[nI 3 1]:=⟨_,rfl⟩;have al:∀ a:Act,q0v a=0->SmX a:=fun a h=>smx_alone h
 obtain⟨a,qa⟩:∃ a,a=pubA 1 P:=⟨_,rfl⟩;obtain⟨b,qb⟩:∃ a,a=pubA 1 Q:=⟨_,rfl⟩;have hSa:SmX a:=al a (by rw[qa,qP];kernel_rfl);have hSb:SmX b:=al b (by rw[qb,qQ];kernel_rfl)
 have hPa:PureFn Tryz.prog 22 [.int .i64 1,fpv P] (pairA (a,0)):=by
  have:=ac_Public 1 P;rw[show pubI 1 P=(a,0) by rw[qa,qP];kernel_rfl] at this;exact this
 have hPb:PureFn Tryz.prog 22 [.int .i64 1,fpv Q] (pairA (b,0)):=by
  have:=ac_Public 1 Q;rw[show pubI 1 Q=(b,0) by rw[qb,qQ];kernel_rfl] at this;exact this
 obtain⟨sk,qsk⟩:∃ a,a=pubA 1 (q0d (n0 1) []):=⟨_,rfl⟩;have hSs:SmX sk:=al sk (by rw[qsk];kernel_rfl)
 have hSk:PureFn Tryz.prog 38 [.int .i64 1] (pairA (sk,0)):=by
  have:=ac_Skip 1;rw[show pubI 1 (q0d (n0 1) [])=(sk,0) by rw[qsk];kernel_rfl] at this;exact this
 have hCo:=cp_Compose a b hSa hSb fun _ _ e f he hf=>by
  have hp:b.post.getD f []=[]:=by
   rw[qb] at hf |-
   cases f with
   |zero=>rfl
   |succ f=>exact absurd (Nat.lt_of_succ_lt_succ hf) (Nat.not_lt_zero f)
  rw[hp];exact cp_asg0 a e (by rw[qa] at he |-;exact he) hSa
 obtain⟨c,qc⟩:∃ c,c=(composeI a b).1:=⟨_,rfl⟩;rw[show composeI a b=(c,0) from Prod.ext qc.symm (by rw[qa,qb,qP,qQ];kernel_rfl)] at hCo;obtain⟨I,qI⟩:∃ z,z=q0d (n0 7) [P,Q]:=⟨_,rfl⟩;have hIm:=fm_Imp P Q;rw[<- qI] at hIm;obtain⟨J,qJ⟩:∃ z,z=q0d (n0 5) [P,I]:=⟨_,rfl⟩;have hAn:=fm_And P I;rw[<- qJ] at hAn;have hcl:c.pre.length=1:=by rw[qc,qa,qb,qP,qQ];kernel_rfl
 obtain⟨cp,hcp⟩:∃ z,c.pre[0]? = some z:=⟨_,List.getElem?_eq_getElem (by rw[hcl];exact Nat.zero_lt_one)⟩;have hSm:=fm_Same cp J
 have hsm:same cp J=true:=by
  have h1:c.pre.getD 0 []=cp:=by rw[List.getD_eq_getElem?_getD,hcp];rfl
  have h2:same ((composeI (pubA 1 [nI 3 0]) (pubA 1 [nI 3 1])).1.pre.getD 0 []) (q0d (n0 5) [[nI 3 0],q0d (n0 7) [[nI 3 0],[nI 3 1]]])=true:=by kernel_rfl
  rw[<- h1,qc,qJ,qI,qa,qb,qP,qQ];exact h2
 rw[hsm] at hSm;obtain⟨T,qT⟩:∃ z,z=q0d (n0 1) []:=⟨_,rfl⟩;have hTr:=fm_True;rw[<- qT] at hTr;obtain⟨PT,qPT⟩:∃ z,z=q0d (n0 5) [P,T]:=⟨_,rfl⟩;have hAn2:=fm_And P T;rw[<- qPT] at hAn2;have hTw:=fn_two P PT;obtain⟨t1,qt1⟩:∃ z,z=twoA P PT:=⟨_,rfl⟩;rw[<- qt1] at hTw;have ht1:q0v t1=0:=by rw[qt1,qPT,qT,qP];kernel_rfl
 have hSf:=cp_Simplify t1 (al t1 ht1) (fun _=>by
  have hn:(evtL (smpA t1)).length=2:=by rw[qt1,qPT,qT,qP];kernel_rfl
  rw[hn];have hk:fsN (sfZ t1) 0=0/\fsN (sfZ t1) 1=0:=by rw[qt1,qPT,qT,qP];exact⟨by kernel_rfl,by kernel_rfl⟩
  intro e he
  rcases e with _|_|e
  ·exact⟨by rw[hk.1];decide,by rw[hk.1,hk.1]⟩
  ·exact⟨by rw[hk.2];decide,by rw[hk.2,hk.1]⟩
  ·omega)
 obtain⟨S,qS⟩:∃ z,z=(sfyI t1).1:=⟨_,rfl⟩;rw[show sfyI t1=(S,[0,0],0) from Prod.ext qS.symm (by rw[qt1,qPT,qT,qP];kernel_rfl)] at hSf;have hSl:S.pre.length=1:=by rw[qS,qt1,qPT,qT,qP];kernel_rfl
 obtain⟨N1,qN1⟩:∃ z,z=q0d (n0 4) [P]:=⟨_,rfl⟩;have hN1:=fm_Not P;rw[<- qN1] at hN1;obtain⟨N2,qN2⟩:∃ z,z=q0d (n0 4) [N1]:=⟨_,rfl⟩;have hN2:=fm_Not N1;rw[<- qN2] at hN2;have hTw2:=fn_two N2 P;obtain⟨t2,qt2⟩:∃ z,z=twoA N2 P:=⟨_,rfl⟩;rw[<- qt2] at hTw2;have ht2:q0v t2=0:=by rw[qt2,qN2,qN1,qP];kernel_rfl
 have hAl1:=cp_Alike a t2 hSa (al t2 ht2) 0 0;rw[show alikeP a 0 t2 0=.tup [.bool true,.int .i64 0] by rw[qa,qt2,qN2,qN1,qP];kernel_rfl] at hAl1;obtain⟨t3,qt3⟩:∃ z:Act,z=⟨[N2],[[]],[[1]]⟩:=⟨_,rfl⟩;have ht3:q0v t3=0:=by rw[qt3,qN2,qN1,qP];kernel_rfl
 have hAl2:=cp_Alike a t3 hSa (al t3 ht3) 0 0;rw[show alikeP a 0 t3 0=.tup [.bool true,.int .i64 0] by rw[qa,qt3,qN2,qN1,qP];kernel_rfl] at hAl2
 have hAl3:PureFn Tryz.prog 21 [a.pv,.int .i64 0,.agg [.sl [fpv N2],.sl [.nil],.sl [q0b [1]]],.int .i64 0] (.tup [.bool true,.int .i64 0]):=by
  rw[qt3] at hAl2;exact hAl2.le ⟨.refl _,.refl _,PLe.aggs ⟨.refl _,PLe.sls ⟨.nil,trivial⟩,.refl _,trivial⟩,.refl _,trivial⟩
 obtain⟨m,qm⟩:∃ m:Mo,m=⟨1,[0],[[1]]⟩:=⟨_,rfl⟩
 have hf:FitM m:=by
  rw[qm];refine⟨fun s hs => ?_,fun r hr s hs => ?_⟩
  ·rw[List.mem_singleton.1 hs];decide
  ·rw[List.mem_singleton.1 hr] at hs;have:s=1:=by simpa using hs
   rw[this];decide
 have hDf:=cp_Differ m (sk,0) (a,0) hf hSs hSa (fun _=>false) (fun _ w hw _ h2=>by
  exfalso;have hn:m.n.toNat=1:=by rw[qm];rfl
  have hw0:w=0:=by omega
  subst hw0;have:(preS m (a,0)).testBit 0=false:=by rw[qm,qa,qP];kernel_rfl
  rw[this] at h2;cases h2)
 rw[show difI m (sk,0) (a,0) (fun _=>false)=(0,0) by rw[qm,qsk,qa,qP];kernel_rfl] at hDf;have hRI:=ri_SameInts [0,0] [0,0] (by decide);rw[show sameZ [0,0] [0,0]=true from rfl] at hRI;have hcl':((c.pre.map fpv).length:Int)=1:=by rw[List.length_map,hcl];rfl
 have hSl':((S.pre.map fpv).length:Int)=1:=by rw[List.length_map,hSl];rfl
 have hix:=q0a (g:=fpv) hcp;clear hsm hcl hSl qc qJ qI qPT qT qS qt1 qt2 qt3 qN2 qN1 ht1 ht2 ht3 hf hSa hSb hSs hAl2 qa qb qsk al;subst qm;refine PureFn.introC [2,3,4,5,7,8,9,10,11,12,13] mixed (fn:=Tryz.f13) rfl rfl rfl fun M w0 => ?_
 try conv=>whnf
 refine⟨Unit,fun _=>[(1,.pv (fpv P)),(2,.pv (fpv Q))],fun _=>0,fun _=>[],?_,?_⟩
 ·subst qP qQ
  (try conv=>whnf);repeat' (first|(apply And.intro<;>try conv=>whnf)|(apply q0p;rfl))
  exact⟨(),(by exact Wk.s rfl)⟩
 rintro⟨⟩;clear qP qQ;refine⟨Unit,fun _=>[(1,.pv (fpv P)),(2,.pv (fpv Q)),(3,.ref 0 0),(4,.pv (.int .i64 0))],fun _=>1,fun _=>[(0,.var (q0c a))],?_,?_⟩
 ·(try conv=>whnf);repeat' (first|(refine PureFn.dy hPa rfl ?_;try conv=>whnf)|fail)
  exact⟨(),(by exact Wk.s rfl)⟩
 rintro⟨⟩;refine⟨Unit,fun _=>[(1,.pv (fpv P)),(2,.pv (fpv Q)),(3,.ref 0 0),(4,.pv (.int .i64 0)),(5,.ref 1 0),(6,.pv (.int .i64 0))],fun _=>2,fun _=>[(0,.var (q0c a)),(1,.var (q0c b))],?_,?_⟩
 ·(try conv=>whnf);repeat' (first|(refine PureFn.dy hPb rfl ?_;try conv=>whnf)|fail)
  exact⟨(),(by exact Wk.s rfl)⟩
 rintro⟨⟩;refine⟨Unit,fun _=>[(1,.pv (fpv P)),(2,.pv (fpv Q)),(3,.ref 0 0),(4,.pv (.int .i64 0)),(6,.pv (.int .i64 0)),(7,.ref 2 0),(8,.pv (.int .i64 0))],fun _=>3,fun _=>[(0,.var (q0c a)),(2,.var (q0c c))],?_,?_⟩
 ·(try conv=>whnf);repeat' (first|(refine PureFn.dy hCo rfl ?_;try conv=>whnf)|fail)
  exact⟨(),(by exact Wk.s rfl)⟩
 rintro⟨⟩;refine⟨Unit,fun _=>[(1,.pv (fpv P)),(3,.ref 0 0)],fun _=>3,fun _=>[(0,.var (q0c a))],?_,?_⟩
 ·(try conv=>whnf);repeat' (first|((first|apply And.intro|intro h)<;>try conv=>whnf)|apply True.intro|(apply q0i;rfl)|(apply WhenQ.mk;(try conv=>whnf);rotate_left;(try conv=>whnf);rotate_right)|with_reducible assumption|(apply q0x;with_reducible assumption)|(refine q0w (by kernel_rfl) ?_;try conv=>whnf)|(refine⟨_,_,rfl,q0a (by with_reducible assumption),rfl,?_⟩;try conv=>whnf)|(refine⟨_,(by (conv=>whnf);exact hIm),rfl,?_⟩;try conv=>whnf)|(refine⟨_,(by (conv=>whnf);exact hAn),rfl,?_⟩;try conv=>whnf)|(refine⟨_,(by (conv=>whnf);exact hSm),rfl,?_⟩;try conv=>whnf)|fail)
  ·exact absurd (show (bif (bif (bif (bif ((0:Int) != 0) then true else ((0:Int) != 0)) then true else ((0:Int) != 0)) then true else (((c.pre.map fpv).length:Int) != 1)) then true else !true)=true from h) (by rw[hcl'];decide)
  ·exact⟨(),(by exact Wk.s rfl)⟩
 rintro⟨⟩;refine⟨Unit,fun _=>[(1,.pv (fpv P)),(3,.ref 0 0),(9,.ref 3 0),(10,.pv (.sl ([0,0].map intI))),(11,.pv (.int .i64 0))],fun _=>4,fun _=>[(0,.var (q0c a)),(3,.var (q0c S))],?_,?_⟩
 ·(try conv=>whnf);repeat' (first|(refine PureFn.dy hTr rfl ?_;try conv=>whnf)|(refine PureFn.dy hAn2 rfl ?_;try conv=>whnf)|(refine PureFn.dy hTw rfl ?_;try conv=>whnf)|(refine PureFn.dy hSf rfl ?_;try conv=>whnf)|fail)
  exact⟨(),(by exact Wk.s rfl)⟩
 rintro⟨⟩;refine⟨Unit,fun _=>[(1,.pv (fpv P)),(3,.ref 0 0),(9,.ref 3 0),(10,.pv (.sl ([0,0].map intI))),(11,.pv (.int .i64 0)),(12,.pv (.bool true)),(13,.pv (.int .i64 0))],fun _=>4,fun _=>[(0,.var (q0c a)),(3,.var (q0c S))],?_,?_⟩
 ·(try conv=>whnf);repeat' (first|(refine q0w (by kernel_rfl) ?_;try conv=>whnf)|(refine⟨_,(by (conv=>whnf);exact hN1),rfl,?_⟩;try conv=>whnf)|(refine⟨_,(by (conv=>whnf);exact hN2),rfl,?_⟩;try conv=>whnf)|(refine⟨_,(by (conv=>whnf);exact hTw2),rfl,?_⟩;try conv=>whnf)|(refine⟨_,(by (conv=>whnf);exact hAl1),rfl,?_⟩;try conv=>whnf)|fail)
  exact⟨(),(by exact Wk.s rfl)⟩
 rintro⟨⟩;refine⟨Unit,fun _=>[(1,.pv (fpv P)),(3,.ref 0 0),(9,.ref 3 0),(10,.pv (.sl ([0,0].map intI))),(11,.pv (.int .i64 0)),(12,.pv (.bool true)),(13,.pv (.int .i64 0)),(14,.ref 4 0),(15,.pv (.int .i64 0))],fun _=>5,fun _=>[(0,.var (q0c a)),(3,.var (q0c S)),(4,.var (q0c sk))],?_,?_⟩
 ·(try conv=>whnf);repeat' (first|(refine PureFn.dy hSk rfl ?_;try conv=>whnf)|fail)
  exact⟨(),(by exact Wk.s rfl)⟩
 rintro⟨⟩;refine⟨Unit,fun _=>[(3,.ref 0 0),(9,.ref 3 0),(10,.pv (.sl ([0,0].map intI))),(11,.pv (.int .i64 0)),(12,.pv (.bool true)),(13,.pv (.int .i64 0)),(14,.ref 4 0),(15,.pv (.int .i64 0)),(16,.pv (.bool true)),(17,.pv (.int .i64 0))],fun _=>5,fun _=>[(0,.var (q0c a)),(3,.var (q0c S)),(4,.var (q0c sk))],?_,?_⟩
 ·try conv=>whnf
  refine⟨Plan.ofL [0,1,2,3,4,6,7,5,8,9,10,11,12,13,14],[],by kernel_rfl,?_⟩
  (try conv=>whnf);repeat' (first|(apply And.intro<;>try conv=>whnf)|(apply q0p;rfl)|(refine⟨_,(by (conv=>whnf);exact hN1),rfl,?_⟩;try conv=>whnf)|(refine⟨_,(by (conv=>whnf);exact hN2),rfl,?_⟩;try conv=>whnf)|(apply Or.inl;try conv=>whnf)|fail)
  ·rfl
  ·exact (show (0:Int)<=1 by decide)
  ·exact (show (1:Int)<=4294967296 by decide)
  refine⟨.tup [.bool true,.int .i64 0],?_,rfl,?_⟩
  ·exact And.intro rfl hAl3
  try conv=>whnf
  exact⟨(),(by exact Wk.s rfl)⟩
 rintro⟨⟩;refine⟨Unit,fun _=>[(3,.ref 0 0),(9,.ref 3 0),(10,.pv (.sl ([0,0].map intI))),(11,.pv (.int .i64 0)),(12,.pv (.bool true)),(13,.pv (.int .i64 0)),(14,.ref 4 0),(15,.pv (.int .i64 0)),(16,.pv (.bool true)),(17,.pv (.int .i64 0)),(18,.ref 5 0)],fun _=>6,fun _=>[(0,.var (q0c a)),(3,.var (q0c S)),(4,.var (q0c sk)),(5,.var (q0e ⟨1,[0],[[1]]⟩))],?_,?_⟩
 ·(try conv=>whnf);repeat' (first|(apply And.intro<;>try conv=>whnf)|(apply q0p;rfl))
  exact⟨(),(by exact Wk.s rfl)⟩
 rintro⟨⟩;refine⟨Unit,fun _=>[(9,.ref 3 0),(10,.pv (.sl ([0,0].map intI))),(11,.pv (.int .i64 0)),(12,.pv (.bool true)),(13,.pv (.int .i64 0)),(15,.pv (.int .i64 0)),(16,.pv (.bool true)),(17,.pv (.int .i64 0)),(19,.pv (.int .i64 0)),(20,.pv (.int .i64 0))],fun _=>6,fun _=>[(3,.var (q0c S))],?_,?_⟩
 ·(try conv=>whnf);repeat' (first|(refine PureFn.dy hDf rfl ?_;try conv=>whnf)|fail)
  exact⟨(),(by exact Wk.s rfl)⟩
 rintro⟨⟩
 (try conv=>whnf);repeat' (first|((first|apply And.intro|intro h)<;>try conv=>whnf)|apply True.intro|(apply q0p;rfl)|(apply WhenQ.mk;(try conv=>whnf);rotate_left;(try conv=>whnf);rotate_right)|with_reducible assumption|(refine PureFn.dy hRI rfl ?_;try conv=>whnf)|fail)
 refine z0n ?_;rw[hSl']
 kernel_rfl
def smallI (l:List Act):Bool:=bif l.all fun a=>fewI a 20 then decide ((l.length:Int)<=5) else false
theorem fn_small (l:List Act) (hl:l.length<=1000):PureFn Tryz.prog 12 [.sl (l.map Act.pv)] (.bool (smallI l)):=by
 refine PureFn.introC [7] mixed (fn:=Tryz.f12) rfl rfl rfl fun M w0 => ?_
 have e1:((l.map Act.pv).length:Int)=(l.length:Int):=by simp
 try conv=>whnf
 refine⟨{ _x:Unit // l.all (fun a=>fewI a 20)=true },fun _=>[(0,.pv (.sl (l.map Act.pv)))],fun _=>0,fun _=>[],?_,?_⟩
 ·try conv=>whnf
  refine⟨{ i:Nat // i<=l.length/\l.all (fun a=>fewI a 20)=(l.drop i).all fun a=>fewI a 20 },fun i=>[(0,.pv (.sl (l.map Act.pv))),(5,.pv (.sl (l.map Act.pv))),(6,.pv (i64 (l.map Act.pv).length)),(7,.pv (i64 i.1))],fun _=>0,fun _=>[],fun i=>l.length-i.1,⟨⟨0,Nat.zero_le _,rfl⟩,(by exact Wk.s rfl)⟩,?_⟩;rintro⟨i,hi,hs⟩
  (try conv=>whnf);repeat' (first|((first|apply And.intro|intro h)<;>try conv=>whnf)|(apply q0i;rfl))
  ·have hi':i<l.length:=by simpa using q0j h
   obtain⟨a,ha⟩:∃ a,l[i]? = some a:=⟨_,List.getElem?_eq_getElem hi'⟩;have hF:=ra_Few a 20
   have hd:(l.drop i).all (fun a=>fewI a 20)=bif fewI a 20 then (l.drop (i+1)).all (fun a=>fewI a 20) else false:=by
    obtain⟨q1,q2⟩:=List.getElem?_eq_some_iff.1 ha;rw[List.drop_eq_getElem_cons q1,q2,List.all_cons]
    cases fewI a 20<;>rfl
   rw[hd] at hs;generalize fewI a 20=b at hF hs;refine⟨_,_,rfl,q0a ha,rfl,?_⟩
   (try conv=>whnf);repeat' (first|((first|apply And.intro|intro h)<;>try conv=>whnf)|(refine PureFn.dy hF rfl ?_;try conv=>whnf)|fail)
   ·have hb:b=false:=by simpa using (show (!b)=true from h)
    rw[hb,cond_false] at hs;exact z0n (by rw[smallI,hs];rfl)
   ·have hb:b=true:=by simpa using (show (!b)=false from h)
    rw[hb,cond_true] at hs;exact⟨⟨i+1,hi',hs⟩,by show l.length-(i+1)<l.length-i;omega,(by refine Wk.of ?_ ?_ rfl rfl rfl<;>repeat' (first|exact trivial|exact WkD.same _|refine WkD.int ?_|refine⟨?_,?_⟩|(apply q0h;(focus simp;done);all_goals (try dsimp only);omega)|fail))⟩
  ·have hi':i=l.length:=by have:=q0k (m:=(l.map Act.pv).length) h (by simpa using hi);simpa using this
   subst hi';rw[List.drop_length] at hs;exact⟨⟨(),hs⟩,(by exact Wk.s rfl)⟩
 rintro⟨_,hs⟩
 try conv=>whnf
 refine z0n ?_;rw[smallI,hs,e1];rfl
theorem few_smx {a:Act} (hf:Fit a) (h:fewI a 20=true):SmX a:=by
 obtain⟨_,_,k3,_,k5⟩:=few_ok h;exact⟨hf,by omega,fun x hx=>by have:=(k5 x hx).1;omega⟩
def bisAt (m:Mo) (x y:Act×Int) (w:Nat):Bool:=bif bisE (atI m w x.1 x.2).1 (atI m w x.1 x.2).2.1 (atI m w y.1 y.2).1 (atI m w y.1 y.2).2.1 != 0 then false else bisB (atI m w x.1 x.2).1 (atI m w y.1 y.2).1 (atI m w x.1 x.2).2.1.toNat (atI m w y.1 y.2).2.1.toNat
theorem noMo_fit:FitM noMo:=⟨fun s hs=>(by cases hs),fun r hr=>(by cases hr)⟩
theorem at_fit {m:Mo} {w:Int} {a:Act} {e:Int}:FitM (atI m w a e).1:=by
 unfold atI
 cases h1:((updI m a).2.2 != 0) with
 |true=>exact noMo_fit
 |false =>
  cases badW m w with
  |true=>exact noMo_fit
  |false =>
   cases z0p a e with
   |true=>exact noMo_fit
   |false =>
    rw[cond_false,cond_false,cond_false]
    split
    ·exact noMo_fit
    ·obtain⟨k1,_,k3,k4,k5⟩:=updI_ok (m:=m) (a:=a) (by simpa using h1);rw[k3];obtain⟨⟨n,hM⟩,_⟩:=moaI_ok k1;exact (prod_ok hM k4 k5).fit
theorem cdif_dif (m:Mo) (x y:Act×Int) (hf:FitM m) (hSx:SmX x.1) (hSy:SmX y.1):PureFn Tryz.prog 14 [m.pv,evP x,evP y] (difP (difI m x y (bisAt m x y))) :=
 cp_Differ m x y hf hSx hSy _ fun _ _ _ _ _=>⟨_,bs_Bisimilar _ _ _ _ at_fit at_fit⟩
theorem ple_app {l l' r:List PV} (h:PLe (.agg l) (.agg l')):PLe (.agg (l++r)) (.agg (l'++r)):=by
 cases h with
 |refl=>exact .refl _
 |agg _ _ hl h =>
  refine .agg _ _ (by simp[hl]) fun i p q hp hq => ?_
  by_cases hi:i<l.length
  ·rw[List.getElem?_append_left hi] at hp;rw[List.getElem?_append_left (by omega)] at hq;exact h i p q hp hq
  ·rw[List.getElem?_append_right (by omega)] at hp;rw[List.getElem?_append_right (by omega),<- hl,hp] at hq
   cases hq
   exact .refl _
theorem u_event:∃ fs:Array Field,Tryz.prog.underlying 31=some (.struct fs)/\fs.toList.map (·.type)=[29,3]:=⟨_,rfl,by kernel_rfl⟩
theorem arg_event {n:Nat} {p:PV} (h:TyA Tryz.prog (n+8) 31 p):∃ x:Act×Int,PLe p (evP x)/\Fit x.1:=by
 obtain⟨cs,h,rfl⟩:=h;obtain⟨fs,hu,hf⟩:=u_event;have hm:mkE Tryz.prog 31 cs=.agg cs:=by simp only[mkE,kindT,hu]
 obtain⟨a,b,r1,rfl,h1,hb,m1⟩:=fs_cons hf (tyS (n:=n+7) hu h);obtain⟨c,d,r2,rfl,h2,hd,m2⟩:=fs_cons m1 hb;have:=fs_nil m2 hd;subst this;obtain⟨A,hA,hF⟩:=arg_act (n:=n) ⟨a,h1,rfl⟩;obtain⟨i,rfl,_⟩:=int_of h2;obtain⟨fs2,hu2,_⟩:=u_act;have hm2:mkE Tryz.prog 29 a=.agg a:=by simp only[mkE,kindT,hu2]
 rw[hm2] at hA;refine⟨(A,i),?_,hF⟩;rw[hm];exact ple_app (r:=[.int .i64 i]) hA
theorem rdif_dif (m:Mo) (x y:Act×Int) (hf:FitM m) (hSx:SmX x.1) (hSy:SmX y.1):PureFn Tryz.prog 15 [m.pv,evP x,evP y] (difP (difI m x y (bisAt m x y))) :=
 rf_Differ m x y hf hSx hSy _ fun _ _ _ _ _=>⟨_,rb_Bisimilar _ _ _ _ at_fit at_fit⟩
theorem cdif_pure (m:Mo) (x y:Act×Int) (hf:FitM m) (hfx:Fit x.1) (hfy:Fit y.1):PureFn Tryz.prog 3 [m.pv,evP x,evP y] (.bool true):=by
 have hW:=rm_Few m 8;have hSl:=fn_small [x.1,y.1] (by simp);have hAw:=awk31;refine PureFn.introC [3,4,5] mixed (fn:=Tryz.f3) rfl rfl rfl fun M w0 => ?_
 try conv=>whnf
 refine⟨{ _x:Unit // fewI x.1 20=true/\fewI y.1 20=true },fun _=>[(3,.ref 0 0),(4,.ref 1 0),(5,.ref 2 0)],fun _=>3,fun _=>[(0,.var (q0e m)),(1,.var (q0t x)),(2,.var (q0t y))],?_,?_⟩
 ·(try conv=>whnf);repeat' (first|((first|apply And.intro|intro h)<;>try conv=>whnf)|apply True.intro|(apply q0p;rfl)|(apply WhenQ.mk;(try conv=>whnf);rotate_left;(try conv=>whnf);rotate_right)|with_reducible assumption|(apply q0x;with_reducible assumption)|(refine PureFn.dy hW rfl ?_;try conv=>whnf)|(refine PureFn.dy hSl rfl ?_;try conv=>whnf)|(refine PureFn.dy hAw rfl ?_;try conv=>whnf)|fail)
  ·exact .refl _
  ·refine⟨⟨(),?_⟩,(by exact Wk.s rfl)⟩;obtain⟨h1,h2⟩:=or_ff' (show (bif !fewM m 8 then true else !smallI [x.1,y.1])=false from h);have h3:smallI [x.1,y.1]=true:=by simpa using h2
   unfold smallI at h3
   cases q:([x.1,y.1].all fun a=>fewI a 20) with
   |false=>rw[q] at h3;cases h3
   |true =>
    have q2:∀ z,z∈[x.1,y.1]->fewI z 20=true:=fun z hz=>List.all_eq_true.1 q z hz
    exact⟨q2 x.1 (by simp),q2 y.1 (by simp)⟩
 rintro⟨_,hwa,hwb⟩;have hSx:=few_smx hfx hwa;have hSy:=few_smx hfy hwb;have hA:=cdif_dif m x y hf hSx hSy;have hB:=rdif_dif m x y hf hSx hSy;generalize difI m x y (bisAt m x y)=D at hA hB;obtain⟨d,e⟩:=D;refine⟨Unit,fun _=>[(3,.ref 0 0),(4,.ref 1 0),(5,.ref 2 0),(7,.pv (.int .i64 d)),(8,.pv (.int .i64 e))],fun _=>3,fun _=>[(0,.var (q0e m)),(1,.var (q0t x)),(2,.var (q0t y))],?_,?_⟩
 ·(try conv=>whnf);repeat' (first|(refine PureFn.dy hA rfl ?_;try conv=>whnf)|fail)
  exact⟨(),(by exact Wk.s rfl)⟩
 rintro⟨⟩;refine⟨Unit,fun _=>[(7,.pv (.int .i64 d)),(8,.pv (.int .i64 e)),(9,.pv (.int .i64 d)),(10,.pv (.int .i64 e))],fun _=>3,fun _=>[],?_,?_⟩
 ·(try conv=>whnf);repeat' (first|(refine PureFn.dy hB rfl ?_;try conv=>whnf)|fail)
  exact⟨(),(by exact Wk.s rfl)⟩
 rintro⟨⟩
 (try conv=>whnf);repeat' (first|((first|apply And.intro|intro h)<;>try conv=>whnf)|apply True.intro|(apply WhenQ.mk;(try conv=>whnf);rotate_left;(try conv=>whnf);rotate_right)|with_reducible assumption|(refine PureFn.dy hAw rfl ?_;try conv=>whnf)|fail)
 exact z0n (by rw[beq_self_eq_true,beq_self_eq_true];rfl)
theorem cdif_args (ps:List PV) (hps:TyAll Tryz.prog 8 Tryz.f3.params.toList ps):PureFn Tryz.prog 3 ps (.bool true):=by
 obtain⟨p1,r1,rfl,h1,p2,r2,rfl,h2,p3,r3,rfl,h3,rfl⟩:=hps;obtain⟨m,hm,hf⟩:=arg_mod (n:=4) h1;obtain⟨x,hx,hfx⟩:=arg_event (n:=0) h2;obtain⟨y,hy,hfy⟩:=arg_event (n:=0) h3;exact (cdif_pure m x y hf hfx hfy).le ⟨hm,hx,hy,trivial⟩
end Go.Proofs.YtejbieopeicgkaaGreatDoor
