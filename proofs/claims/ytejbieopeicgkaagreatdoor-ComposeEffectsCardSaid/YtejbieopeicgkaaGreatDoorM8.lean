/- Parts of the proof, one after the other: Products: Update of the program walked. Models: the reference's All, Check, Same, Few walked. Products: At of the program walked; the examples of the law. Lists taken element by element. The number of trailing zeros: the library's function walked, over its table. Models: the members of a set, and Restrict of the program walked. The members of a set, handed on one by one: the iterator of the program walked. Reductions: what is known of a formula that a constructor returned (plain). Formulas: constructors, where nothing is told from an empty list. Reductions of announcements: what they are (plain). The layer Dv, part 23: a call sees a part of the heap, under other numbers. The layer Dv, part 24: objects whose numbers are not literals; own arrays lent to calls. Reductions of announcements: the program walked. Reductions of announcements: operands, announce, Announced of the program walked. Reductions of events and of whole formulas: what they are (plain). -/
import Derived.Test.YtejbieopeicgkaaGreatDoorChecked
import Derived.WalkKit
import Derived.Laws.Bits64b
import Derived.Lib.TrailingZeros
import Derived.TacticsIn
import Derived.BigFrameIn
import Derived.RangeFuncSeq
import Derived.Test.YtejbieopeicgkaaGreatDoorM7
set_option maxRecDepth 100000
set_option maxHeartbeats 4000000
namespace Go.Proofs.YtejbieopeicgkaaGreatDoor
open Go Go.Dv
def vsU (m:Mo) (a:Act) (l:List (Nat×Nat)) (i:Nat):List Nat:=(List.range i).map (valP m a l)
def rsU (m:Mo) (a:Act) (l:List (Nat×Nat)) (i:Nat):List (List Nat):=(List.range i).map (relP m a l)
theorem vsU_succ (m:Mo) (a:Act) (l:List (Nat×Nat)) (i:Nat):vsU m a l (i+1)=vsU m a l i++[valP m a l i]:=by rw[vsU,List.range_succ,List.map_append];rfl
theorem rsU_succ (m:Mo) (a:Act) (l:List (Nat×Nat)) (i:Nat):rsU m a l (i+1)=rsU m a l i++[relP m a l i]:=by rw[rsU,List.range_succ,List.map_append];rfl
def vlU (m:Mo) (a:Act) (i:Nat):List Nat:=(List.range a.pre.length).map fun e=>valuP m a e i
theorem vlU_get {m:Mo} {a:Act} {i e:Nat} (h:e<a.pre.length):(vlU m a i).getD e 0=valuP m a e i:=by
 rw[vlU,List.getD_eq_getElem?_getD,List.getElem?_map,List.getElem?_range h];rfl
def updPlan:Plan:=.one 2 (.one 3 (.two 0 (.two 1 (.one 4 (.one 5 (.one 6 (.one 7 (.one 8 .done))))) 4 (.one 1 (.one 5 (.one 6 (.one 7 (.one 8 .done)))))) 4 (.one 0 (.one 1 (.one 5 (.one 6 (.one 7 (.one 8 .done))))))))
theorem pr_Update (m:Mo) (a:Act) (hf:FitM m) (hfa:Fit a) (hl:a.rel.length≤1000) (hp:∀ l,l∈a.post→l.length≤1000):PureFn Tryz.prog 18 [m.pv,a.pv] (updPV (updI m a)):=by
 refine PureFn.introC [4,6,20,22,31,33] mixed (fn:=Tryz.f18) rfl rfl rfl fun M w0 => ?_
 have hW:=pr_Worlds m a hf hfa hl hp
 obtain⟨l,e,hX⟩:∃ l e,worldsI m a=(l,e):=⟨_,_,rfl⟩
 have hwo:=worldsI_ok (m:=m) (a:=a)
 rw[updI]
 rw[hX] at hW hwo ⊢
 clear hX
 have e9:((l.map pairPV).length:Int)=(l.length:Int):=by simp
 (try conv=>whnf);repeat' (first|(refine PureFn.dy hW rfl ?_;try conv=>whnf)|fail)
 refine⟨{ _x:Unit // (e != 0)=false },fun _=>[(2,.ref 0 0),(3,.ref 1 0),(4,.ref 2 0),(7,.ref 3 0)],fun _=>4,fun _=>[(0,.var (cellsM m)),(1,.var (cellsA a)),(2,.var cells0),(3,.var [.pv (.sl (l.map pairPV))])],?_,?_⟩
 ·(try conv=>whnf);repeat' (first|(apply And.intro<;>try conv=>whnf)|(intro h;try conv=>whnf)|fail)
  ·rw[show (((l,e):List (Nat×Nat)×Int).2 != 0)=true from h];exact le_upd _
  ·exact⟨⟨(),h⟩,(by exact Wk.sm rfl rfl rfl rfl rfl)⟩
 rintro⟨_,h1⟩
 obtain⟨hma,hpl,hl1⟩:=hwo (show e=0 by simpa using h1)
 obtain⟨⟨n,hM⟩,hAc⟩:=moaI_ok hma
 have hO:=actI_ok hAc
 have hn8:=hO.n8
 have hn64:=hM.n64
 have hfa8:=hM.fa
 have hag:=hM.ag
 have hpl:l=pairsL m a:=hpl
 have hmem:∀ y,y∈l→y.1<n∧y.2<a.pre.length:=fun y hy=>by
  rw[hpl,pairsL,hM.nn] at hy
  have:=pairsW_mem.1 hy
  exact⟨this.1,this.2.1⟩
 clear hpl hl1
 refine⟨{ _x:Unit // decide ((l.length:Int)>64)=false },fun _=>[(2,.ref 0 0),(3,.ref 1 0),(4,.ref 2 0),(7,.ref 3 0)],fun _=>4,fun _=>[(0,.var (cellsM m)),(1,.var (cellsA a)),(2,.var cells0),(3,.var [.pv (.sl (l.map pairPV))])],?_,?_⟩
 ·(try conv=>whnf);repeat' (first|(apply And.intro<;>try conv=>whnf)|(intro h;try conv=>whnf)|fail)
  ·have h9:decide ((l.length:Int)>64)=true:=by rw[← e9];exact h
   rw[show (((l,e):List (Nat×Nat)×Int).2 != 0)=false from h1,show decide ((((l,e):List (Nat×Nat)×Int).1.length:Int)>64)=true from h9]
   exact le_upd _
  ·exact⟨⟨(),by rw[← e9];exact h⟩,(by exact Wk.sm rfl rfl rfl rfl rfl)⟩
 rintro⟨_,h2⟩
 have hl64:l.length≤64:=by have:=of_decide_eq_false h2;omega
 have hres:(bif (((l,e):List (Nat×Nat)×Int).2 != 0) then (noMo,([]:List (Nat×Nat)),((l,e):List (Nat×Nat)×Int).2) else bif decide ((((l,e):List (Nat×Nat)×Int).1.length:Int)>64) then (noMo,[],8) else (prodM m a ((l,e):List (Nat×Nat)×Int).1,((l,e):List (Nat×Nat)×Int).1,(0:Int)))=(prodM m a l,l,0):=by
  rw[show (((l,e):List (Nat×Nat)×Int).2 != 0)=false from h1,show decide ((((l,e):List (Nat×Nat)×Int).1.length:Int)>64)=false from h2];rfl
 rw[hres]
 clear hres
 try conv=>whnf
 refine⟨Unit,fun _=>[(2,.ref 0 0),(3,.ref 1 0),(4,.ref 2 0),(7,.ref 3 0),(9,.clo 60 [] [.ref 3 0]),(10,.ref 4 0)],fun _=>5,fun _=>[(0,.var (cellsM m)),(1,.var (cellsA a)),(2,.var cells0),(3,.var [.pv (.sl (l.map pairPV))]),(4,.var [.pv (i64 (l.map pairPV).length),.pv (rowPV (vsU m a l m.val.length)),.pv .nil])],?_,?_⟩
 ·try conv=>whnf
  refine⟨{ i:Nat // i≤m.val.length },fun i=>[(2,.ref 0 0),(3,.ref 1 0),(4,.ref 2 0),(7,.ref 3 0),(9,.clo 60 [] [.ref 3 0]),(10,.ref 4 0),(41,.pv (i64 (m.val.map u64).length)),(42,.pv (i64 i.1))],fun _=>6,fun i=>[(0,.var (cellsM m)),(1,.var (cellsA a)),(2,.var cells0),(3,.var [.pv (.sl (l.map pairPV))]),(4,.var [.pv (i64 (l.map pairPV).length),.buf 5 ((vsU m a l i.1).map u64).length,.pv .nil]),(5,.arr 1 ((vsU m a l i.1).map u64))],fun i=>m.val.length-i.1,⟨⟨0,Nat.zero_le _⟩,(by refine Wk.of ?_ ?_ rfl rfl rfl<;>repeat' (first|exact trivial|exact WkD.same _|exact WkO.same _ _ rfl|exact WkD.new' rfl rfl rfl|exact WkO.new _ _ rfl|refine WkO.vars rfl ?_|exact rfl|refine⟨?_,?_⟩|fail))⟩,?_⟩
  rintro⟨i,hi⟩
  (try conv=>whnf);repeat' (first|(apply And.intro<;>try conv=>whnf)|(intro h;try conv=>whnf)|(apply Or.inl;try conv=>whnf)|fail)
  ·rfl
  ·exact Int.natCast_nonneg _
  ·show ((a.pre.map fpv).length:Int)≤4294967296
   rw[List.length_map];omega
  ·have hi':i<m.val.length:=by simpa using lt_dec h
   have hN:((a.pre.map fpv).length:Int).toNat=a.pre.length:=by rw[List.length_map];rfl
   have hz1:List.replicate ((a.pre.map fpv).length:Int).toNat (PV.int .u64 0)=(mixV a.pre.length (fun e=>u64 (valuP m a e i)) (fun _=>u64 0) 0):=by rw[hN];exact mixV_rep _ _ _
   have hmlv:=mixV_len a.pre.length (fun e=>u64 (valuP m a e i)) (fun _=>u64 0)
   refine⟨Unit,fun _=>[(2,.ref 0 0),(3,.ref 1 0),(4,.ref 2 0),(7,.ref 3 0),(9,.clo 60 [] [.ref 3 0]),(10,.ref 4 0),(12,.ref 7 0),(41,.pv (i64 (m.val.map u64).length)),(42,.pv (i64 i))],fun _=>8,fun _=>[(0,.var (cellsM m)),(1,.var (cellsA a)),(2,.var cells0),(3,.var [.pv (.sl (l.map pairPV))]),(4,.var [.pv (i64 (l.map pairPV).length),.buf 5 ((vsU m a l i).map u64).length,.pv .nil]),(5,.arr 1 ((vsU m a l i).map u64)),(7,.var [.pv (.sl (mixV a.pre.length (fun e=>u64 (valuP m a e i)) (fun _=>u64 0) a.pre.length))])],?_,?_⟩
   ·try conv=>whnf
    refine⟨{ k:Nat // k≤a.pre.length },fun k=>[(2,.ref 0 0),(3,.ref 1 0),(4,.ref 2 0),(7,.ref 3 0),(9,.clo 60 [] [.ref 3 0]),(10,.ref 4 0),(11,.pv (i64 i)),(12,.ref 7 0),(41,.pv (i64 (m.val.map u64).length)),(42,.pv (i64 i)),(50,.pv (i64 a.pre.length)),(51,.pv (i64 k.1))],fun _=>8,fun k=>[(0,.var (cellsM m)),(1,.var (cellsA a)),(2,.var cells0),(3,.var [.pv (.sl (l.map pairPV))]),(4,.var [.pv (i64 (l.map pairPV).length),.buf 5 ((vsU m a l i).map u64).length,.pv .nil]),(5,.arr 1 ((vsU m a l i).map u64)),(6,.arr 1 (mixV a.pre.length (fun e=>u64 (valuP m a e i)) (fun _=>u64 0) k.1)),(7,.var [.buf 6 (mixV a.pre.length (fun e=>u64 (valuP m a e i)) (fun _=>u64 0) k.1).length])],fun k=>a.pre.length-k.1,⟨⟨0,Nat.zero_le _⟩,?_⟩,?_⟩
    ·(refine Wk.of ?_ ?_ rfl rfl rfl<;>repeat' (first|exact trivial|exact WkD.same _|exact WkO.same _ _ rfl|refine WkD.int ?_|refine WkO.vars rfl ?_|refine⟨?_,?_⟩|fail))
     ·exact congrArg (fun z:Nat=>(z:Int)) ((List.length_replicate ..).trans hN)
     ·exact WkO.same _ _ (congrArg (fun z=>some (DObj.arr 1 z)) hz1)
     ·exact WkD.eq (congrArg (fun z:List PV=>DV.buf 6 z.length) hz1)
    rintro⟨k,hk⟩
    have hmk:=hmlv k
    have hmk1:=hmlv (k+1)
    have hst:=mixV_set (n:=a.pre.length) (p:=fun e=>u64 (valuP m a e i)) (q:=fun _=>u64 0) (e:=k)
    (try conv=>whnf);repeat' (first|(apply And.intro<;>try conv=>whnf)|(intro h;try conv=>whnf)|fail)
    ·have hk':k<a.pre.length:=lt_dec h
     have hV:=ac_Value a k i hfa hl hp
     have hv0:=valI_ok hma hk' hi'
     obtain⟨g,hg⟩:∃ g,valI a k i=(g,0):=⟨(valI a k i).1,Prod.ext rfl hv0⟩
     rw[hg] at hV
     have hH:=ck_Holds m g hf
     have hvp:(holdsI m g).1=valuP m a k i:=by rw[valuP,hg]
     obtain⟨z,hz⟩:∃ z,holdsI m g=(valuP m a k i,z):=⟨(holdsI m g).2,Prod.ext hvp rfl⟩
     rw[hz] at hH
     (try conv=>whnf);repeat' (first|(apply And.intro<;>try conv=>whnf)|(intro h;try conv=>whnf)|(refine PureFn.dy hV rfl ?_;try conv=>whnf)|fail)
     ·cases h
     refine⟨Plan.lin 0 10,[9],by kernel_rfl,?_⟩
     (try conv=>whnf);repeat' (first|(apply And.intro<;>try conv=>whnf)|(refine⟨_,(by (conv=>whnf);exact hH),rfl,?_⟩;try conv=>whnf)|fail)
     refine⟨k,rfl,by rw[hmk];exact hk',?_⟩
     (try conv=>whnf);repeat' (first|(apply And.intro<;>try conv=>whnf)|fail)
     refine⟨_,mixV_old hk',Nat.le_refl 1,?_⟩
     try conv=>whnf
     refine⟨⟨k+1,hk'⟩,by show a.pre.length-(k+1)<a.pre.length-k;omega,?_⟩
     (refine Wk.of ?_ ?_ rfl rfl rfl<;>repeat' (first|exact trivial|exact WkD.same _|exact WkO.same _ _ rfl|refine WkD.int ?_|refine WkO.vars rfl ?_|refine⟨?_,?_⟩|(refine wrapA ?_ ?_ ?_;(focus simp;done);(focus (try dsimp only);omega);(focus (try dsimp only);omega))|fail))
     ·exact WkO.same _ _ (congrArg (fun z=>some (DObj.arr 1 z)) hst)
     ·exact WkD.eq (congrArg (DV.buf 6) (hmk.trans hmk1.symm))
    ·have hk':k=a.pre.length:=ge_dec h hk
     subst hk'
     exact⟨(),(by refine Wk.of ?_ ?_ rfl rfl rfl<;>repeat' (first|exact trivial|exact WkD.same _|exact WkO.same _ _ rfl|exact WkD.fz _ _ _ rfl (Or.inl ⟨_,rfl⟩) rfl|refine WkO.vars rfl ?_|refine⟨?_,?_⟩|fail))⟩
   rintro⟨⟩
   have hvl:(mixV a.pre.length (fun e=>u64 (valuP m a e i)) (fun _=>u64 0) a.pre.length)=(vlU m a i).map u64:=by rw[mixV_full,vlU,List.map_map];rfl
   have hlv:(vlU m a i).length=a.pre.length:=by simp[vlU]
   have hv64:∀ s,s∈vlU m a i→s<2^64:=fun s hs=>by
    obtain⟨e,_,rfl⟩:=List.mem_map.1 hs
    exact Nat.lt_of_lt_of_le (holds_lt n hM) (pow64_le hn64)
   have hmk:maskOf (fun k=>((vlU m a i).getD (l.getD k (0,0)).2 0).testBit (l.getD k (0,0)).1) l.length=valP m a l i:=maskOf_congr fun k hk=>by
    rw[vlU_get (hmem _ (List.mem_iff_getElem?.2 ⟨k,getD_mem hk⟩)).2]
   have hvs:=vsU_succ m a l i
   have hvsl:((vsU m a l i).map u64).length≤1000:=by simp[vsU];omega
   rw[hvl]
   try conv=>whnf
   have er:(vsU m a l i).map u64++[PV.int .u64 ((valP m a l i:Nat):Int)]=(vsU m a l (i+1)).map u64:=by rw[hvs,List.map_append];rfl
   have hlpV:∀ y,y∈l→y.1<64∧y.2<(vlU m a i).length:=fun y hy=>⟨by have:=(hmem y hy).1;omega,by rw[hlv];exact (hmem y hy).2⟩
   refine⟨updPlan,[4,6,8],by kernel_rfl,?_⟩
   (try conv=>whnf);repeat' (first|(apply And.intro<;>try conv=>whnf)|fail)
   all_goals (refine whr_V m a l (vsU m a l i) (vlU m a i) hlpV hv64 hl64 _ _ ?_)
   all_goals (rw[hmk])
   all_goals ((try conv=>whnf);repeat' (first|(apply And.intro<;>try conv=>whnf)|(apply cellsI;rfl)|(apply szI;rfl)|fail))
   ·exact app_big (n:=1000) hvsl (by decide)
   ·refine⟨⟨i+1,hi'⟩,by show m.val.length-(i+1)<m.val.length-i;omega,?_⟩
    (refine Wk.of ?_ ?_ rfl rfl rfl<;>repeat' (first|exact trivial|exact WkD.same _|exact WkO.same _ _ rfl|exact WkD.eq (congrArg (fun z:List PV=>DV.buf _ z.length) er)|exact WkO.same _ _ (congrArg (fun z=>some (DObj.arr _ z)) er)|refine WkD.int ?_|refine WkO.vars rfl ?_|refine⟨?_,?_⟩|(refine wrapA ?_ ?_ ?_;(focus simp;done);(focus (try dsimp only);omega);(focus (try dsimp only);omega))|fail))
   ·exact app_big (n:=1000) hvsl (by decide)
   ·refine⟨⟨i+1,hi'⟩,by show m.val.length-(i+1)<m.val.length-i;omega,?_⟩
    (refine Wk.of ?_ ?_ rfl rfl rfl<;>repeat' (first|exact trivial|exact WkD.same _|exact WkO.same _ _ rfl|exact WkD.eq (congrArg (fun z:List PV=>DV.buf _ z.length) er)|exact WkO.same _ _ (congrArg (fun z=>some (DObj.arr _ z)) er)|refine WkD.int ?_|refine WkO.vars rfl ?_|refine⟨?_,?_⟩|(refine wrapA ?_ ?_ ?_;(focus simp;done);(focus (try dsimp only);omega);(focus (try dsimp only);omega))|fail))
   ·exact app_big (n:=1000) hvsl (by decide)
   ·refine⟨⟨i+1,hi'⟩,by show m.val.length-(i+1)<m.val.length-i;omega,?_⟩
    (refine Wk.of ?_ ?_ rfl rfl rfl<;>repeat' (first|exact trivial|exact WkD.same _|exact WkO.same _ _ rfl|exact WkD.eq (congrArg (fun z:List PV=>DV.buf _ z.length) er)|exact WkO.same _ _ (congrArg (fun z=>some (DObj.arr _ z)) er)|refine WkD.int ?_|refine WkO.vars rfl ?_|refine⟨?_,?_⟩|(refine wrapA ?_ ?_ ?_;(focus simp;done);(focus (try dsimp only);omega);(focus (try dsimp only);omega))|fail))
  ·have hi':i=m.val.length:=by have:=ge_dec (m:=(m.val.map u64).length) h (by simpa using hi);simpa using this
   subst hi'
   exact⟨(),(by refine Wk.of ?_ ?_ rfl rfl rfl<;>repeat' (first|exact trivial|exact WkD.same _|exact WkO.same _ _ rfl|exact WkD.fz _ _ _ rfl (Or.inl ⟨_,rfl⟩) rfl|refine WkO.vars rfl ?_|refine⟨?_,?_⟩|fail))⟩
 rintro⟨⟩
 generalize hVS:(vsU m a l m.val.length)=vs
 refine⟨Unit,fun _=>[(4,.ref 2 0),(7,.ref 3 0),(10,.ref 4 0)],fun _=>5,fun _=>[(2,.var cells0),(3,.var [.pv (.sl (l.map pairPV))]),(4,.var [.pv (i64 (l.map pairPV).length),.pv (rowPV vs),.pv (.sl ((rsU m a l m.rel.length).map rowPV))])],?_,?_⟩
 ·try conv=>whnf
  refine⟨{ i:Nat // i≤m.rel.length },fun i=>[(2,.ref 0 0),(3,.ref 1 0),(4,.ref 2 0),(7,.ref 3 0),(9,.clo 60 [] [.ref 3 0]),(10,.ref 4 0),(85,.pv (.sl (m.rel.map rowPV))),(86,.pv (i64 (m.rel.map rowPV).length)),(87,.pv (i64 i.1))],fun _=>6,fun i=>[(0,.var (cellsM m)),(1,.var (cellsA a)),(2,.var cells0),(3,.var [.pv (.sl (l.map pairPV))]),(4,.var [.pv (i64 (l.map pairPV).length),.pv (rowPV vs),.buf 5 ((rsU m a l i.1).map rowPV).length]),(5,.arr 1 ((rsU m a l i.1).map rowPV))],fun i=>m.rel.length-i.1,⟨⟨0,Nat.zero_le _⟩,(by refine Wk.of ?_ ?_ rfl rfl rfl<;>repeat' (first|exact trivial|exact WkD.same _|exact WkO.same _ _ rfl|exact WkD.new' rfl rfl rfl|exact WkO.new _ _ rfl|refine WkO.vars rfl ?_|exact rfl|refine⟨?_,?_⟩|fail))⟩,?_⟩
  rintro⟨i,hi⟩
  (try conv=>whnf);repeat' (first|(apply And.intro<;>try conv=>whnf)|(intro h;try conv=>whnf)|(apply infoT;rfl)|fail)
  ·have hi':i<m.rel.length:=by simpa using lt_dec h
   obtain⟨r,hr,hrw⟩:∃ r,m.rel[i]? = some r∧m.rel.getD i []=r:=⟨_,getD_mem hi',rfl⟩
   have hrm:r∈m.rel:=List.mem_iff_getElem?.2 ⟨i,hr⟩
   have hrl:=hM.rows r hrm
   have hrb:=hf.2 r hrm
   obtain⟨ra,hra,hraw⟩:∃ r,a.rel[i]? = some r∧a.rel.getD i []=r:=⟨_,getD_mem (by have:=hO.ags;omega),rfl⟩
   have hram:ra∈a.rel:=List.mem_iff_getElem?.2 ⟨i,hra⟩
   have hral:=hO.rows ra hram
   have hrab:=hfa ra hram
   have hN:((l.map pairPV).length:Int).toNat=l.length:=by rw[List.length_map];rfl
   have hz1:List.replicate ((l.map pairPV).length:Int).toNat (PV.int .u64 0)=(mixV l.length (fun k=>u64 (rowP r ra l (l.getD k (0,0)))) (fun _=>u64 0) 0):=by rw[hN];exact mixV_rep _ _ _
   have hmlv:=mixV_len l.length (fun k=>u64 (rowP r ra l (l.getD k (0,0)))) (fun _=>u64 0)
   refine⟨_,_,rfl,idx_map hr,rfl,?_⟩
   (try conv=>whnf);repeat' (first|(apply And.intro<;>try conv=>whnf)|(apply Or.inl;try conv=>whnf)|fail)
   ·rfl
   ·exact Int.natCast_nonneg _
   ·show ((l.map pairPV).length:Int)≤4294967296
    rw[List.length_map];omega
   refine⟨Unit,fun _=>[(2,.ref 0 0),(3,.ref 1 0),(4,.ref 2 0),(7,.ref 3 0),(9,.clo 60 [] [.ref 3 0]),(10,.ref 4 0),(18,.pv (.sl (mixV l.length (fun k=>u64 (rowP r ra l (l.getD k (0,0)))) (fun _=>u64 0) l.length))),(85,.pv (.sl (m.rel.map rowPV))),(86,.pv (i64 (m.rel.map rowPV).length)),(87,.pv (i64 i))],fun _=>6,fun _=>[(0,.var (cellsM m)),(1,.var (cellsA a)),(2,.var cells0),(3,.var [.pv (.sl (l.map pairPV))]),(4,.var [.pv (i64 (l.map pairPV).length),.pv (rowPV vs),.buf 5 ((rsU m a l i).map rowPV).length]),(5,.arr 1 ((rsU m a l i).map rowPV))],?_,?_⟩
   ·try conv=>whnf
    refine⟨{ k:Nat // k≤l.length },fun k=>[(2,.ref 0 0),(3,.ref 1 0),(4,.ref 2 0),(7,.ref 3 0),(9,.clo 60 [] [.ref 3 0]),(10,.ref 4 0),(16,.ref 6 0),(17,.ref 7 0),(18,.buf 8 (mixV l.length (fun k=>u64 (rowP r ra l (l.getD k (0,0)))) (fun _=>u64 0) k.1).length),(85,.pv (.sl (m.rel.map rowPV))),(86,.pv (i64 (m.rel.map rowPV).length)),(87,.pv (i64 i)),(95,.pv (.sl (l.map pairPV))),(96,.pv (i64 (l.map pairPV).length)),(97,.pv (i64 k.1))],fun _=>9,fun k=>[(0,.var (cellsM m)),(1,.var (cellsA a)),(2,.var cells0),(3,.var [.pv (.sl (l.map pairPV))]),(4,.var [.pv (i64 (l.map pairPV).length),.pv (rowPV vs),.buf 5 ((rsU m a l i).map rowPV).length]),(5,.arr 1 ((rsU m a l i).map rowPV)),(6,.var [.pv (i64 i)]),(7,.var [.pv (rowPV r)]),(8,.arr 1 (mixV l.length (fun k=>u64 (rowP r ra l (l.getD k (0,0)))) (fun _=>u64 0) k.1))],fun k=>l.length-k.1,⟨⟨0,Nat.zero_le _⟩,?_⟩,?_⟩
    ·(refine Wk.of ?_ ?_ rfl rfl rfl<;>repeat' (first|exact trivial|exact WkD.same _|exact WkO.same _ _ rfl|refine⟨?_,?_⟩|fail))
     ·exact WkD.eq (congrArg (fun z:List PV=>DV.buf 8 z.length) hz1)
     ·exact WkO.same _ _ (congrArg (fun z=>some (DObj.arr 1 z)) hz1)
    rintro⟨k,hk⟩
    have hmk:=hmlv k
    have hmk1:=hmlv (k+1)
    have hst:=mixV_set (n:=l.length) (p:=fun k=>u64 (rowP r ra l (l.getD k (0,0)))) (q:=fun _=>u64 0) (e:=k)
    (try conv=>whnf);repeat' (first|(apply And.intro<;>try conv=>whnf)|(intro h;try conv=>whnf)|(apply infoT;rfl)|fail)
    ·have hk':k<l.length:=by simpa using lt_dec h
     obtain⟨x,hx,hxw⟩:∃ y,l[k]? = some y∧l.getD k (0,0)=y:=⟨_,getD_mem hk',rfl⟩
     have hxm:=hmem x (List.mem_iff_getElem?.2 ⟨k,hx⟩)
     refine⟨_,_,rfl,idx_map hx,rfl,?_⟩
     try conv=>whnf
     refine DC.call 10 (HW m a l vs (rsU m a l i) i r (mixV l.length (fun k=>u64 (rowP r ra l (l.getD k (0,0)))) (fun _=>u64 0) k) x) ⟨rfl,rfl,rfl,rfl,rfl,rfl,rfl,rfl,rfl,rfl,trivial⟩ rfl rfl rfl rfl fun M' => ?_
     refine whr_W m a l vs (rsU m a l i) i r (mixV l.length (fun k=>u64 (rowP r ra l (l.getD k (0,0)))) (fun _=>u64 0) k) x ra hra (by omega) (by omega) (fun y hy=>by have:=hmem y hy;exact⟨by omega,by omega⟩) hrb hrab hl64 _ _ ?_
     refine⟨rfl,?_⟩
     (try conv=>whnf);repeat' (first|(apply And.intro<;>try conv=>whnf)|fail)
     refine⟨k,rfl,by rw[hmk];exact hk',?_⟩
     (try conv=>whnf);repeat' (first|(apply And.intro<;>try conv=>whnf)|fail)
     refine⟨_,mixV_old hk',Nat.le_refl 1,?_⟩
     try conv=>whnf
     rw[hxw] at hst
     refine⟨⟨k+1,hk'⟩,by show l.length-(k+1)<l.length-k;omega,?_⟩
     (refine Wk.of ?_ ?_ rfl rfl rfl<;>repeat' (first|exact trivial|exact WkD.same _|exact WkO.same _ _ rfl|refine WkD.int ?_|refine⟨?_,?_⟩|(refine wrapA ?_ ?_ ?_;(focus simp;done);(focus (try dsimp only);omega);(focus (try dsimp only);omega))|fail))
     ·exact WkD.eq (congrArg (DV.buf 8) (hmk.trans hmk1.symm))
     ·exact WkO.same _ _ (congrArg (fun z=>some (DObj.arr 1 z)) hst)
    ·have hk':k=l.length:=by have:=ge_dec (m:=(l.map pairPV).length) h (by simpa using hk);simpa using this
     subst hk'
     exact⟨(),(by refine Wk.of ?_ ?_ rfl rfl rfl<;>repeat' (first|exact trivial|exact WkD.same _|exact WkO.same _ _ rfl|exact WkD.fz _ _ _ rfl (Or.inl ⟨_,rfl⟩) rfl|refine⟨?_,?_⟩|fail))⟩
   rintro⟨⟩
   have hrs:=rsU_succ m a l i
   have hrsl:((rsU m a l i).map rowPV).length≤1000:=by simp[rsU];omega
   have er:(rsU m a l i).map rowPV++[PV.sl (mixV l.length (fun k=>u64 (rowP r ra l (l.getD k (0,0)))) (fun _=>u64 0) l.length)]=(rsU m a l (i+1)).map rowPV:=by
    rw[hrs,List.map_append,mixV_full,relP,hrw,hraw]
    congr 1
    show[PV.sl _]=[rowPV (l.map (rowP r ra l))]
    rw[rowPV,List.map_map]
    congr 2
    exact map_getD (g:=fun x=>u64 (rowP r ra l x)) (d:=(0,0)) rfl
   (try conv=>whnf);repeat' (first|(apply And.intro<;>try conv=>whnf)|(apply cellsI;rfl)|(apply szI;rfl)|fail)
   ·exact app_big (n:=1000) hrsl (by decide)
   refine⟨⟨i+1,hi'⟩,by show m.rel.length-(i+1)<m.rel.length-i;omega,?_⟩
   (refine Wk.of ?_ ?_ rfl rfl rfl<;>repeat' (first|exact trivial|exact WkD.same _|exact WkO.same _ _ rfl|exact WkD.eq (congrArg (fun z:List PV=>DV.buf _ z.length) er)|exact WkO.same _ _ (congrArg (fun z=>some (DObj.arr _ z)) er)|refine WkD.int ?_|refine WkO.vars rfl ?_|refine⟨?_,?_⟩|(refine wrapA ?_ ?_ ?_;(focus simp;done);(focus (try dsimp only);omega);(focus (try dsimp only);omega))|fail))
  ·have hi':i=m.rel.length:=by have:=ge_dec (m:=(m.rel.map rowPV).length) h (by simpa using hi);simpa using this
   subst hi'
   exact⟨(),(by refine Wk.of ?_ ?_ rfl rfl rfl<;>repeat' (first|exact trivial|exact WkD.same _|exact WkO.same _ _ rfl|exact WkD.fz _ _ _ rfl (Or.inl ⟨_,rfl⟩) rfl|refine WkO.vars rfl ?_|refine⟨?_,?_⟩|fail))⟩
 rintro⟨⟩
 try conv=>whnf
 refine⟨.one 0 (.two 1 (.one 2 (.one 3 (.one 4 .done))) 2 (.one 1 (.one 3 (.one 4 .done)))),[2],by kernel_rfl,?_⟩
 have hfin:updPV (prodM m a l,l,0)=.tup [.agg [i64 (l.map pairPV).length,rowPV vs,.sl ((rsU m a l m.rel.length).map rowPV)],.sl (l.map pairPV),.int .i64 0]:=by rw[← hVS,List.length_map];rfl
 (try conv=>whnf);repeat' (first|(apply And.intro<;>try conv=>whnf)|fail)
 all_goals (rw[hfin];exact .refl _)
def fewB (m:Mo) (k:Int):Bool:=bif bif bif decide (m.n>k) then decide (m.n≤64) else false then true else decide ((m.val.length:Int)>20) then true else decide ((m.rel.length:Int)>10)
def fewM (m:Mo) (k:Int):Bool:=bif fewB m k then false else !(m.rel.any fun r=>decide ((r.length:Int)>70))
theorem rm_Few (m:Mo) (k:Int):PureFn Tryz.prog 11 [m.pv,.int .i64 k] (.bool (fewM m k)):=by
 refine PureFn.introC [3] mixed (fn:=Tryz.f11) rfl rfl rfl fun M w0 => ?_
 have e1:((m.val.map u64).length:Int)=(m.val.length:Int):=by simp
 have e2:((m.rel.map rowPV).length:Int)=(m.rel.length:Int):=by simp
 try conv=>whnf
 refine⟨{ _x:Unit // fewB m k=false },fun _=>[(2,.ref 0 0)],fun _=>1,fun _=>HM m,?_,?_⟩
 ·(try conv=>whnf);repeat' (first|(apply And.intro<;>try conv=>whnf)|(intro h;try conv=>whnf)|apply True.intro|(apply WhenQ.mk;(try conv=>whnf);rotate_left;(try conv=>whnf);rotate_right)|with_reducible assumption|(apply not_of;with_reducible assumption)|fail)
  ·have h9:fewB m k=true:=by rw[fewB,← e1,← e2];exact h
   rw[fewM,h9];exact .refl _
  ·have h9:fewB m k=false:=by rw[fewB,← e1,← e2];exact h
   exact⟨⟨(),h9⟩,(by exact Wk.sm rfl rfl rfl rfl rfl)⟩
 rintro⟨_,h1⟩
 have hrl:m.rel.length≤10:=by
  unfold fewB at h1
  cases q1:(bif bif decide (m.n>k) then decide (m.n≤64) else false then true else decide ((m.val.length:Int)>20)) with
  |true=>rw[q1] at h1;cases h1
  |false =>
   rw[q1] at h1
   have:=of_decide_eq_false (show decide ((m.rel.length:Int)>10)=false from h1)
   omega
 try conv=>whnf
 refine⟨{ i:Nat // i≤m.rel.length∧(m.rel.take i).any (fun r=>decide ((r.length:Int)>70))=false },fun i=>[(2,.ref 0 0),(5,.pv (i64 i.1))],fun _=>1,fun _=>HM m,fun i=>m.rel.length-i.1,⟨⟨0,Nat.zero_le _,rfl⟩,(by exact Wk.sm rfl rfl rfl rfl rfl)⟩,?_⟩
 rintro⟨i,hi,ha⟩
 (try conv=>whnf);repeat' (first|(apply And.intro<;>try conv=>whnf)|(intro h;try conv=>whnf)|(apply infoT;rfl)|fail)
 ·have hi':i<m.rel.length:=by simpa using lt_dec h
  have hm:m.rel[i]? = some m.rel[i]:=List.getElem?_eq_getElem hi'
  have e3:(((m.rel[i]).map u64).length:Int)=((m.rel[i]).length:Int):=by simp
  refine⟨_,_,rfl,idx_map hm,rfl,?_⟩
  (try conv=>whnf);repeat' (first|(apply And.intro<;>try conv=>whnf)|(intro h;try conv=>whnf)|fail)
  ·have e:(m.rel.any fun r=>decide ((r.length:Int)>70))=true:=any_at hi' (by rw[← e3];exact h)
   rw[fewM,h1,e];exact .refl _
  ·exact⟨⟨i+1,hi',any_take hi' ha (by rw[← e3];exact h)⟩,by show m.rel.length-(i+1)<m.rel.length-i;omega,(by refine Wk.of ?_ ?_ rfl rfl rfl<;>repeat' (first|exact trivial|exact WkD.same _|exact WkO.same _ _ rfl|refine WkD.int ?_|refine⟨?_,?_⟩|(refine wrapA ?_ ?_ ?_;(focus simp;done);(focus (try dsimp only);omega);(focus (try dsimp only);omega))|fail))⟩
 ·have hi':i=m.rel.length:=by have:=ge_dec (m:=(m.rel.map rowPV).length) h (by simpa using hi);simpa using this
  subst hi'
  rw[List.take_length] at ha
  rw[fewM,h1,ha];exact .refl _
def isP (w e:Int) (q:Nat×Nat):Bool:=bif (q.1:Int)==w then (q.2:Int)==e else false
def ixP (l:List (Nat×Nat)) (w e:Int):Int:=match l.findIdx? (isP w e) with|none => -1|some i=>(i:Int)
theorem find_at {α:Type} {p:α→Bool}:∀ {l:List α} {i:Nat} {x:α},l[i]? = some x→p x=true→(l.take i).any p=false→l.findIdx? p=some i
 | [],i,x,h,_,_=>by simp at h
 |a::r,0,x,h,hx,_=>by
  have:a=x:=by simpa using h
  subst this
  simp[List.findIdx?_cons,hx]
 |a::r,i+1,x,h,hx,hn=>by
  have h1:r[i]? = some x:=by simpa using h
  have hn2:(p a||(r.take i).any p)=false:=by simpa using hn
  rw[Bool.or_eq_false_iff] at hn2
  rw[List.findIdx?_cons,hn2.1,find_at h1 hx hn2.2];rfl
theorem find_none {α:Type} {p:α→Bool} {l:List α} (h:l.any p=false):l.findIdx? p=none:=by
 rw[List.findIdx?_eq_none_iff]
 exact fun x hx=>by simpa using List.any_eq_false.1 h x hx
theorem fit_pair (x y:Int):fitT Tryz.prog 66 (.agg [.int .i64 x,.int .i64 y])=true:=by kernel_rfl
theorem eq_pair (w e:Int) (q:Nat×Nat):eqPVs [.int .i64 w,.int .i64 e] [i64 q.1,i64 q.2]=isP w e q:=by
 show ((w==(q.1:Int)) && ((e==(q.2:Int)) && true))=bif (q.1:Int)==w then (q.2:Int)==e else false
 rw[Bool.and_true,show (w==(q.1:Int))=((q.1:Int)==w) by rw[Bool.eq_iff_iff,beq_iff_eq,beq_iff_eq];exact⟨Eq.symm,Eq.symm⟩,show (e==(q.2:Int))=((q.2:Int)==e) by rw[Bool.eq_iff_iff,beq_iff_eq,beq_iff_eq];exact⟨Eq.symm,Eq.symm⟩]
 cases ((q.1:Int)==w)<;>rfl
theorem sl_IndexP (l:List (Nat×Nat)) (w e:Int) (hl:l.length≤1000):PureFn Tryz.prog 64 [.sl (l.map pairPV),.agg [.int .i64 w,.int .i64 e]] (.int .i64 (ixP l w e)):=by
 refine PureFn.intro mixed (fn:=Tryz.f64) rfl rfl rfl fun M w0 => ?_
 try conv=>whnf
 refine⟨{ i:Nat // i≤l.length∧(l.take i).any (isP w e)=false },fun i=>[(0,.pv (.sl (l.map pairPV))),(3,.ref 0 0),(7,.pv (i64 (l.map pairPV).length)),(8,.pv (i64 i.1))],fun _=>1,fun _=>[(0,.var [.pv (.int .i64 w),.pv (.int .i64 e)])],fun i=>l.length-i.1,⟨⟨0,Nat.zero_le _,rfl⟩,(by exact Wk.sm rfl rfl rfl rfl rfl)⟩,?_⟩
 rintro⟨i,hi,hn⟩
 (try conv=>whnf);repeat' (first|(apply And.intro<;>try conv=>whnf)|(intro h;try conv=>whnf)|(apply infoT;rfl)|(refine lin_plan (by kernel_rfl) ?_;try conv=>whnf)|fail)
 ·have hi':i<l.length:=by simpa using lt_dec h
  obtain⟨y,hy,hyw⟩:∃ y,l[i]? = some y∧l[i]=y:=⟨_,List.getElem?_eq_getElem hi',rfl⟩
  refine⟨_,_,rfl,idx_map hy,rfl,?_⟩
  (try conv=>whnf);repeat' (first|(apply And.intro<;>try conv=>whnf)|(intro h;try conv=>whnf)|(apply guardI;kernel_rfl)|fail)
  ·exact fit_pair _ _
  ·exact fit_pair _ _
  ·have hq:isP w e y=true:=by rw[← eq_pair];exact h
   rw[ixP,find_at hy hq hn]
   exact .refl _
  ·have hq:isP w e y=false:=by rw[← eq_pair];exact h
   exact⟨⟨i+1,hi',any_take hi' hn (by rw[hyw];exact hq)⟩,by show l.length-(i+1)<l.length-i;omega,(by refine Wk.of ?_ ?_ rfl rfl rfl<;>repeat' (first|exact trivial|exact WkD.same _|exact WkO.same _ _ rfl|refine WkD.int ?_|refine⟨?_,?_⟩|(refine wrapA ?_ ?_ ?_;(focus simp;done);(focus (try dsimp only);omega);(focus (try dsimp only);omega))|fail))⟩
 ·have hi':i=l.length:=by have:=ge_dec (m:=(l.map pairPV).length) h (by simpa using hi);simpa using this
  subst hi'
  rw[List.take_length] at hn
  rw[ixP,find_none hn]
  exact .refl _
theorem updI_len (m:Mo) (a:Act):(updI m a).2.1.length≤64:=by
 unfold updI
 cases ((worldsI m a).2 != 0) with
 |true=>exact Nat.zero_le _
 |false =>
  cases h:decide (((worldsI m a).1.length:Int)>64) with
  |true=>exact Nat.zero_le _
  |false =>
   have:=of_decide_eq_false h
   show (worldsI m a).1.length≤64
   omega
theorem pr_At (m:Mo) (w:Int) (a:Act) (e:Int) (hf:FitM m) (hfa:Fit a) (hl:a.rel.length≤1000) (hp:∀ l,l∈a.post→l.length≤1000):PureFn Tryz.prog 19 [m.pv,.int .i64 w,a.pv,.int .i64 e] (atPV (atI m w a e)):=by
 refine PureFn.introC [2,8,9] mixed (fn:=Tryz.f19) rfl rfl rfl fun M w0 => ?_
 have hU:=pr_Update m a hf hfa hl hp
 have hlen:=updI_len m a
 obtain⟨R,hR⟩:∃ R,R=atI m w a e:=⟨_,rfl⟩
 rw[← hR]
 rw[atI] at hR
 generalize updI m a=X at hU hlen hR
 obtain⟨p,l,c⟩:=X
 have hlen:l.length≤64:=hlen
 have hg:((p,l,c):Mo×List (Nat×Nat)×Int).2.2=c:=rfl
 rw[hg] at hR
 have e1:((a.pre.map fpv).length:Int)=(a.pre.length:Int):=by simp
 have hI:=sl_IndexP l w e (by omega)
 try conv=>whnf
 refine⟨Unit,fun _=>[(1,.pv (.int .i64 w)),(3,.pv (.int .i64 e)),(4,.ref 0 0),(6,.ref 1 0),(8,.ref 2 0),(11,.ref 3 0),(12,.pv (.sl (l.map pairPV))),(13,.pv (.int .i64 c))],fun _=>4,fun _=>[(0,.var (cellsM m)),(1,.var (cellsA a)),(2,.var cells0),(3,.var (cellsM p))],?_,?_⟩
 ·(try conv=>whnf);repeat' (first|(refine PureFn.dy hU rfl ?_;try conv=>whnf)|fail)
  exact⟨(),(by exact Wk.sm rfl rfl rfl rfl rfl)⟩
 rintro⟨⟩
 refine⟨{ _x:Unit // (c != 0)=false∧badW m w=false∧badEv a e=false },fun _=>[(1,.pv (.int .i64 w)),(3,.pv (.int .i64 e)),(8,.ref 2 0),(11,.ref 3 0),(12,.pv (.sl (l.map pairPV)))],fun _=>4,fun _=>[(2,.var cells0),(3,.var (cellsM p))],?_,?_⟩
 ·(try conv=>whnf);repeat' (first|(apply And.intro<;>try conv=>whnf)|(intro h;try conv=>whnf)|apply True.intro|(apply WhenQ.mk;(try conv=>whnf);rotate_left;(try conv=>whnf);rotate_right)|with_reducible assumption|(apply not_of;with_reducible assumption)|fail)
  ·have h0:(c != 0)=true:=h
   rw[hR,h0];exact PLe.tups ⟨le_noMo,.refl _,.refl _,trivial⟩
  ·rename_i h0
   rw[hR,show (c != 0)=false from h0,show badW m w=true from h];exact PLe.tups ⟨le_noMo,.refl _,.refl _,trivial⟩
  ·rename_i h0 h1
   have h9:badEv a e=true:=by rw[badEv,← e1];exact h
   rw[hR,show (c != 0)=false from h0,show badW m w=false from h1,h9];exact PLe.tups ⟨le_noMo,.refl _,.refl _,trivial⟩
  ·rename_i h0 h1
   have h9:badEv a e=false:=by rw[badEv,← e1];exact h
   exact⟨⟨(),h0,h1,h9⟩,(by exact Wk.sm rfl rfl rfl rfl rfl)⟩
 rintro⟨_,h0,h1,h2⟩
 rw[h0,h1,h2] at hR
 have hR:R=match l.findIdx? (isP w e) with|none=>(noMo,0,11)|some i=>(p,(i:Int),0):=hR
 rw[ixP] at hI
 cases hx:l.findIdx? (isP w e) with
 |none =>
  rw[hx] at hI hR
  have hI:PureFn Tryz.prog 64 [.sl (l.map pairPV),.agg [.int .i64 w,.int .i64 e]] (.int .i64 (-1)):=hI
  rw[hR]
  refine⟨Unit,fun _=>[(8,.ref 2 0),(11,.ref 3 0),(14,.pv (.int .i64 (-1)))],fun _=>4,fun _=>[(2,.var cells0),(3,.var (cellsM p))],?_,?_⟩
  ·(try conv=>whnf);repeat' (first|(refine PureFn.dy hI rfl ?_;try conv=>whnf)|fail)
   exact⟨(),(by exact Wk.sm rfl rfl rfl rfl rfl)⟩
  rintro⟨⟩
  (try conv=>whnf);repeat' (first|(apply And.intro<;>try conv=>whnf)|(intro h;try conv=>whnf)|fail)
  ·exact PLe.tups ⟨le_noMo,.refl _,.refl _,trivial⟩
  ·simp at h
 |some i =>
  rw[hx] at hI hR
  have hI:PureFn Tryz.prog 64 [.sl (l.map pairPV),.agg [.int .i64 w,.int .i64 e]] (.int .i64 (i:Nat)):=hI
  rw[hR]
  refine⟨Unit,fun _=>[(8,.ref 2 0),(11,.ref 3 0),(14,.pv (i64 i))],fun _=>4,fun _=>[(2,.var cells0),(3,.var (cellsM p))],?_,?_⟩
  ·(try conv=>whnf);repeat' (first|(refine PureFn.dy hI rfl ?_;try conv=>whnf)|fail)
   exact⟨(),(by exact Wk.sm rfl rfl rfl rfl rfl)⟩
  rintro⟨⟩
  (try conv=>whnf);repeat' (first|(apply And.intro<;>try conv=>whnf)|(intro h;try conv=>whnf)|fail)
  ·have:=of_decide_eq_true h
   omega
  ·exact .refl _
theorem take_map {α β:Type} {f:α→β} {l:List α} {i:Nat} {x:α} (h:l[i]? = some x):(l.take (i+1)).map f=(l.take i).map f++[f x]:=by
 obtain⟨h1,h2⟩:=List.getElem?_eq_some_iff.1 h
 rw[List.take_succ_eq_append_getElem h1,List.map_append,h2];rfl
open Go Go.RowKit
theorem tz64_core (x k idx:Nat) (w:World) (hx0:((x:Int)==0)=false)
  (key:IntKind.u64.wrap (bits BinOp.and IntKind.u64 (x:Int) (IntKind.u64.wrap (-(x:Int)))*285870213051353865) / 288230376151711744=(idx:Int))
  (hi:idx<64) (hk:k<64) (hcell:w.cell? ⟨0,idx,none⟩=some (.int .u8 k)) :
  Calls Tryz.prog 149 #[.int .u64 x] w fun e w'=>e=.returned (.int .i64 k)∧w'=w:=by
 go_enter Tryz.func149,Tryz.ntmps149
 go_wp2_with (simp only[key])
 go_ret
 exact⟨rfl,rfl⟩
theorem tz64_zero (w:World):Calls Tryz.prog 149 #[.int .u64 0] w fun e w'=>e=.returned (.int .i64 64)∧w'=w:=by
 go_enter Tryz.func149,Tryz.ntmps149
 go_wp2
 go_ret
 exact⟨rfl,rfl⟩
theorem tz64_key (x a:Nat) (hx:x<18446744073709551616) (hx0:x≠0) (hlow:x&&&(18446744073709551616-x)=a) :
  IntKind.u64.wrap (bits BinOp.and IntKind.u64 (x:Int) (IntKind.u64.wrap (-(x:Int)))*285870213051353865) / 288230376151711744=((a*285870213051353865 % 18446744073709551616 / 288230376151711744:Nat):Int):=by
 have e1:IntKind.u64.wrap (-(x:Int))=((18446744073709551616-x:Nat):Int):=by rw[IntKind.wrap_u64];omega
 rw[e1,bits_and_u64_nat x _ hx (by omega),hlow,IntKind.wrap_u64]
 omega
theorem tz64 (x:Nat) (hx:x<18446744073709551616) (w:World) (hT:∀ j,j<Lib.deBruijn64tab.length→w.cell? ⟨0,j,none⟩=some (.int .u8 (Lib.deBruijn64tab.getD j 0))) :
  Calls Tryz.prog 149 #[.int .u64 x] w fun e w'=>e=.returned (.int .i64 (Lib.ctz 64 x))∧w'=w:=by
 by_cases hx0:x=0
 ·subst hx0
  exact tz64_zero w
 ·obtain⟨hlow,hk⟩:=Lib.lowest_bit 64 x hx0 hx
  obtain⟨hi,htab⟩:=Lib.deBruijn64_at _ hk
  have hcell:=hT _ hi
  rw[htab] at hcell
  exact tz64_core x _ _ w (by simp;omega) (tz64_key x _ hx hx0 hlow) hi hk hcell
open Go.RowKit (Below)
def memL (s:Nat):List Nat:=(List.range 64).filter s.testBit
theorem memL_mem {s i:Nat}:i∈memL s↔i<64∧s.testBit i=true:=by rw[memL,List.mem_filter,List.mem_range]
theorem filter_first {p:Nat→Bool} {k:Nat} (hk:p k=true) (h:∀ i,i<k→p i=false):∀ n,k<n→(List.range n).filter p=k::(List.range n).filter (fun i=>p i && !(i==k))
 |0,h0=>by omega
 |n+1,h0=>by
  rw[List.range_succ,List.filter_append,List.filter_append]
  by_cases e:n=k
  ·have e1:(List.range n).filter p=[]:=List.filter_eq_nil_iff.2 fun i hi=>by rw[h i (by have:=List.mem_range.1 hi;omega)];simp
   have e2:(List.range n).filter (fun i=>p i && !(i==k))=[]:=List.filter_eq_nil_iff.2 fun i hi=>by rw[h i (by have:=List.mem_range.1 hi;omega)];simp
   rw[e1,e2,e]
   simp[hk]
  ·have e3:(n==k)=false:=by simpa using e
   rw[filter_first hk h n (by omega),List.cons_append]
   congr 2
   simp only[List.filter_cons,List.filter_nil,e3,Bool.not_false,Bool.and_true]
theorem ctz_bits {x:Nat} (h0:x≠0) (h:x<2^64):Lib.ctz 64 x<64∧x.testBit (Lib.ctz 64 x)=true∧(∀ i,i<Lib.ctz 64 x→x.testBit i=false)∧∀ i,(x&&&(x-1)).testBit i=(x.testBit i && !(i==Lib.ctz 64 x)):=by
 obtain⟨q,hq,hk⟩:=Lib.ctzFrom_spec 64 x (by omega) h
 have e:Lib.ctz 64 x=Lib.ctzFrom 64 x:=by simp[Lib.ctz,h0]
 rw[e]
 generalize Lib.ctzFrom 64 x=k at hq hk ⊢
 have hb:∀ i,x.testBit i=(decide (k≤i) && (2*q+1).testBit (i-k)):=fun i=>by
  rw[hq,Nat.testBit_two_pow_mul]
 have hp:=Nat.two_pow_pos k
 have hx1:x-1=2^k*(2*q)+(2^k-1):=by rw[hq,Nat.mul_add];omega
 have hc:∀ i,(x-1).testBit i=if i<k then (2^k-1).testBit i else (2*q).testBit (i-k):=fun i=>by
  rw[hx1,Nat.testBit_two_pow_mul_add _ (by omega)]
 refine⟨hk,?_,fun i hi => ?_,fun i => ?_⟩
 ·rw[hb,decide_eq_true (Nat.le_refl k),Nat.sub_self];simp
 ·rw[hb,decide_eq_false (by omega)];rfl
 ·rw[Nat.testBit_and,hb,hc]
  by_cases hi:i<k
  ·rw[decide_eq_false (by omega)];rfl
  ·rw[if_neg hi,decide_eq_true (by omega),Bool.true_and]
   by_cases e:i=k
   ·rw[e,Nat.sub_self];simp
   ·obtain⟨j,hj⟩:∃ j,i-k=j+1:=⟨i-k-1,by omega⟩
    have e3:(i==k)=false:=by simpa using e
    rw[hj,e3,Nat.testBit_succ,Nat.testBit_succ,show (2*q+1) / 2=q by omega,show 2*q / 2=q by omega]
    cases q.testBit j<;>rfl
theorem memL_step {x:Nat} (h0:x≠0) (h:x<2^64):memL x=Lib.ctz 64 x::memL (x&&&(x-1)):=by
 obtain⟨h1,h2,h3,h4⟩:=ctz_bits h0 h
 rw[memL,filter_first h2 h3 64 h1,memL]
 congr 2
 funext i
 rw[h4 i]
theorem memL_zero:memL 0=[]:=by rw[memL];exact List.filter_eq_nil_iff.2 fun i _=>by rw[Nat.zero_testBit];simp
def intsPV (l:List Nat):PV:=.sl (l.map i64)
def pullN (s:Nat) (ws:List Nat):Nat:=maskOf (fun i=>s.testBit (ws.getD i 0)) ws.length
theorem pull_step {q:Nat→Bool} {s w i:Nat} (hs:s<2^64) (hw:w<64) (hi:i<64) (hq:q i=s.testBit w):orU (maskOf q i:Nat) (shlU (andU (shrU (s:Nat) (w:Nat)) 1) (i:Nat))=((maskOf q (i+1):Nat):Int):=by
 rw[bit_and s w hs hw]
 cases h:s.testBit w with
 |true=>rw[if_pos rfl];exact or_shl hi (by rw[hq,h])
 |false =>
  rw[if_neg (by decide),← mask_no (q:=q) (w:=i) (by rw[hq,h]),show shlU 0 (i:Nat)=((0:Nat):Int) by show IntKind.wrap .u64 (0*_)=0;rw[Int.zero_mul];rfl,orU_nat (mask_lt64 q (by omega)) (by decide),Nat.or_zero]
open Go.RowKit (Below)
theorem cl_cell {W:World} {b:Nat} {v:Value} (h:Cl W b v):W.cell? ⟨b,0,none⟩=some v∧W.frozen? ⟨b,0,none⟩=false:=by
 obtain⟨ty,h⟩:=h
 constructor
 ·simp[World.cell?,h]
 ·simp[World.frozen?,h]
theorem it_members (s:Nat) (hs:s<2^64):IterC Tryz.prog 163 (s:Nat) ((memL s).map Int.ofNat):=by
 refine⟨by kernel_rfl,fun l blk J Jx W hG hset hy h0 hc => ?_⟩
 refine (callsIn_wide (n:=0)).1 (callsIn_of_wp Tryz.func163 rfl trivial ?_)
 simp only[Tryz.ntmps163,List.size_toArray,List.length_cons,List.length_nil,Nat.reduceAdd,Nat.reduceSub,Array.replicate_succ,Array.replicate_zero,List.push_toArray,List.append_toArray,List.nil_append,List.cons_append]
 refine wpIn_block ?_
 refine loop_sound (r:=none) (fun n a w=>∃ (i x:Nat) (v2 v3 v4 v5 v6 v7 v8 v9 v10 v11 v12 v13:Value),n=(memL x).length∧x<2^64∧i≤(memL s).length∧J i w∧Cl w blk (.int .u64 x)∧(memL s).drop i=memL x ∧
  a={ tmps := #[.func (.yield l) #[] #[],.pointer (some ⟨blk,0,none⟩),v2,v3,v4,v5,v6,v7,v8,v9,v10,v11,v12,v13],defers:=[] }) ?_ ⟨_,0,s,_,_,_,_,_,_,_,_,_,_,_,_,rfl,hs,Nat.zero_le _,h0,hc,rfl,rfl⟩
 rintro n a w ⟨i,x,v2,v3,v4,v5,v6,v7,v8,v9,v10,v11,v12,v13,rfl,hx,hil0,hJ,hcl,hd,rfl⟩
 obtain⟨hc1,hf1⟩:=cl_cell hcl
 refine (show Code.wpIn Fence.wide 0 _ _ _ _ _ from ?_)
 by_cases hx0:x=0
 ·subst hx0
  gi_wp2
  have hl:i=(memL s).length:=by
   rw[memL_zero] at hd
   have:=List.drop_eq_nil_iff.1 hd
   omega
  first|go_end0|go_ret
  refine⟨⟨_,rfl⟩,.inl ?_⟩
  rw[List.length_map,← hl]
  exact hJ
 ·have hst:=memL_step hx0 hx
  have hil:(memL s)[i]? = some (Lib.ctz 64 x):=by
   have:(List.drop i (memL s))[0]? = some (Lib.ctz 64 x):=by rw[hd,hst];rfl
   rwa [List.getElem?_drop,Nat.add_zero] at this
  have hlt:i<(memL s).length:=(List.getElem?_eq_some_iff.1 hil).1
  have hix:((memL s).map Int.ofNat)[i]? = some ((Lib.ctz 64 x:Nat):Int):=by rw[List.getElem?_map,hil];rfl
  have hd2:(memL s).drop (i+1)=memL (x&&&(x-1)):=by
   rw[← List.drop_drop,hd,hst];rfl
  have hne:((x:Int)==0)=false:=by simpa using hx0
  have e1:IntKind.wrap .u64 ((x:Int)-1)=((x-1:Nat):Int):=by
   rw[wrapU (by omega) (by omega)];omega
  have e2:andU (x:Nat) ((x-1:Nat):Int)=((x&&&(x-1):Nat):Int):=andU_nat hx (by omega)
  gi_wp2
  refine⟨trivial,rfl,(callsIn_wide (n:=0)).2 ((tz64 x hx w (hG i w hJ).2).mono ?_)⟩
  rintro e w' ⟨rfl,rfl⟩
  obtain⟨fn,tm,asg,bod,hy1,hround⟩:=hy i _ w' _ hix hJ hcl
  gi_wp2
  refine⟨rfl,hround.mono ?_⟩
  rintro e W2 (⟨rfl,hJ2,hcl2⟩|⟨rfl,hx2⟩)
  ·obtain⟨hc2,hf2⟩:=cl_cell hcl2
   have e3:bits BinOp.and .u64 (x:Int) ((x-1:Nat):Int)=((x&&&(x-1):Nat):Int):=bits_and_u64_nat x _ hx (by omega)
   gi_wp2
   exact⟨_,by rw[hst];exact Nat.lt_succ_self _,i+1,x&&&(x-1),_,_,_,_,_,_,_,_,_,_,_,_,rfl,Nat.and_lt_two_pow _ (by omega),hlt,hset (i+1) W2 _ _ hJ2 hcl2,hcl2.set,hd2,rfl⟩
  ·gi_wp2
   refine⟨rfl,.tuple #[],?_,⟨_,rfl⟩,.inr hx2⟩
   simp[results,show Tryz.f163.results = #[] from rfl]
theorem canon_can' {f:List Nd} (hf:Okl f) {i:Nat} (hi:i<f.length) (hl:(canon f i).length≤200):Can (canon f i):=by
 obtain⟨h1,h2⟩:=canon_ok hf hi
 refine⟨h1,h2,hl,?_⟩
 have hr:=(canon_root hf hi).2
 unfold root
 rw[hr,← canon_tree hf hi]
theorem short_inv {F:List Nd} {x:Nd} (hF:Okl (F++[x])) (hl:F.length≤400) (h:shortL (F++[x])≠[]):Can (shortL (F++[x]))∧root (shortL (F++[x]))=tree (F++[x]) F.length:=by
 have hk:F.length<(F++[x]).length:=by simp
 rw[short_snoc hl] at h ⊢
 cases hd:decide (((canon (F++[x]) F.length).length:Int)>200) with
 |true=>rw[hd] at h;exact absurd rfl h
 |false =>
  simp only[cond_false]
  have:(canon (F++[x]) F.length).length≤200:=by have:=of_decide_eq_false hd;omega
  exact⟨canon_can' hF hk this,(canon_root hF hk).2⟩
theorem one_inv {x:Nd} (h:oneL x≠[]):OkNd x 0∧Can (oneL x)∧root (oneL x)=.nd x.op x.i x.e x.g .none .none:=by
 have hok:OkNd x 0:=by
  refine nodeErr_ok.1 ?_
  by_cases q:nodeErr x 0=0
  ·exact q
  ·rw[oneL,show (nodeErr x 0 != 0)=true by simpa using q] at h
   exact absurd rfl h
 have e:oneL x=[x]:=by rw[oneL,nodeErr_ok.2 hok];rfl
 have hx:usesX x.op=false:=by
  cases hu:usesX x.op with
  |false=>rfl
  |true=>have:=hok.x hu;omega
 have hy:usesY x.op=false:=by
  cases hu:usesY x.op with
  |false=>rfl
  |true=>have:=hok.y hu;omega
 have hO:Okl [x]:=fun i y hy=>by
  cases i with
  |zero=>simp at hy;subst hy;exact hok
  |succ i=>simp at hy
 have hr:root [x]=.nd x.op x.i x.e x.g .none .none:=by
  show tree [x] 0=_
  rw[tree_nd hO (x:=x) rfl,hx,hy];rfl
 rw[e]
 refine⟨hok,⟨hO,by simp,by simp,?_⟩,hr⟩
 rw[hr]
 have e1:=hok.nox hx
 have e2:=hok.noy hy
 simp only[finT,putN,idx,List.nil_append,List.length_nil]
 cases x
 simp only at e1 e2
 subst e1;subst e2
 rfl
theorem un_inv {x:Nd} {f:List Nd} (hx:usesX x.op=true) (hy:usesY x.op=false) (h:unL x f≠[]) :
  check f=0∧OkNd { x with x:=(f.length:Int)-1 } f.length∧Can (unL x f)∧root (unL x f)=.nd x.op x.i x.e x.g (root f) .none:=by
 rw[unL] at h ⊢
 cases hc:(check f != 0) with
 |true=>rw[hc] at h;exact absurd rfl h
 |false =>
  rw[hc,cond_false] at h
  have hc0:check f=0:=by simpa using hc
  obtain⟨l1,l2,_⟩:=check_ok hc0
  cases hn:(nodeErr { x with x:=(f.length:Int)-1 } f.length != 0) with
  |true=>rw[hn] at h;exact absurd rfl h
  |false =>
   rw[hn,cond_false] at h
   have hok:OkNd { x with x:=(f.length:Int)-1 } f.length:=nodeErr_ok.1 (by simpa using hn)
   have hF:=okl_snoc (check_okl hc0) hok
   obtain⟨g1,g2⟩:=short_inv hF (by omega) h
   refine⟨hc0,hok,g1,?_⟩
   simp only[cond_false]
   rw[g2,tree_nd hF (x:={ x with x:=(f.length:Int)-1 }) (by simp)]
   simp only[hx,hy,cond_true,cond_false]
   rw[show ((f.length:Int)-1).toNat=f.length-1 by omega,tree_append (check_okl hc0) (by omega)];rfl
theorem bin_inv {x:Nd} {f g:List Nd} (hx:usesX x.op=true) (hy:usesY x.op=true) (h:binL x f g≠[]) :
  check f=0∧check g=0∧OkNd (binN x f g) (f++g.map (shN f.length)).length∧Can (binL x f g)∧root (binL x f g)=.nd x.op x.i x.e x.g (root f) (root g):=by
 rw[binL] at h ⊢
 cases hc:(check f != 0) with
 |true=>rw[hc] at h;exact absurd rfl h
 |false =>
  cases hd:(check g != 0) with
  |true=>rw[hc,hd] at h;exact absurd rfl h
  |false =>
   rw[hc,hd] at h
   simp only[cond_false] at h ⊢
   have hc0:check f=0:=by simpa using hc
   have hd0:check g=0:=by simpa using hd
   obtain⟨l1,l2,_⟩:=check_ok hc0
   obtain⟨m1,m2,_⟩:=check_ok hd0
   cases hn:(nodeErr (binN x f g) (f++g.map (shN f.length)).length != 0) with
   |true=>rw[hn] at h;exact absurd rfl h
   |false =>
    rw[hn] at h
    simp only[cond_false] at h ⊢
    have hok:OkNd (binN x f g) (f++g.map (shN f.length)).length:=nodeErr_ok.1 (by simpa using hn)
    have hA:=okl_append (check_okl hc0) (check_okl hd0)
    have hF:=okl_snoc hA hok
    have hAl:(f++g.map (shN f.length)).length=f.length+g.length:=by rw[List.length_append,List.length_map]
    obtain⟨g1,g2⟩:=short_inv hF (by omega) h
    refine⟨hc0,hd0,hok,g1,?_⟩
    obtain⟨u1,u2⟩:=bin_last (check_okl hc0) (check_okl hd0) l1 m1
    rw[g2,tree_nd hF (x:=binN x f g) (by simp)]
    simp only[show (binN x f g).op=x.op from rfl,hx,hy,cond_true]
    have n1:(binN x f g).x.toNat=f.length-1:=by show ((f.length:Int)-1).toNat=_;omega
    have n2:(binN x f g).y.toNat=(f++g.map (shN f.length)).length-1:=by show (((f++g.map (shN f.length)).length:Int)-1).toNat=_;omega
    rw[n1,n2,tree_append hA (by omega),tree_append hA (by omega),u1,u2];rfl
def apN (x:Nd) (X Y:List Nd):List Nd:=wantL x.op x.i x.e x.g X Y
theorem ap_eq {x:Nd} {k:Int} (h:OkNd x k) (X Y:List Nd):apN x X Y=bif usesY x.op then binL x X Y else bif usesX x.op then unL x X else oneL x:=by
 unfold apN wantL
 rw[want_nd h]
 cases hy:usesY x.op with
 |true=>rfl
 |false =>
  cases hx:usesX x.op with
  |true =>
   have e2:=h.noy hy
   simp only[cond_true,cond_false]
   unfold unL
   simp only
   cases x
   simp only at e2
   subst e2
   rfl
  |false =>
   have e1:=h.nox hx
   have e2:=h.noy hy
   simp only[cond_false]
   congr 1
   cases x
   simp only at e1 e2
   subst e1;subst e2
   rfl
theorem ap_inv {x:Nd} {k:Int} (hk:OkNd x k) {X Y:List Nd} (h:apN x X Y≠[]) :
  Can (apN x X Y)∧root (apN x X Y)=.nd x.op x.i x.e x.g (bif usesX x.op then root X else .none) (bif usesY x.op then root Y else .none)∧(usesX x.op=true→check X=0)∧(usesY x.op=true→check Y=0):=by
 rw[ap_eq hk] at h ⊢
 cases hy:usesY x.op with
 |true =>
  have hx:=y_of_x hy
  rw[hy,cond_true] at h
  obtain⟨h1,h2,h3,h4,h5⟩:=bin_inv hx hy h
  rw[hx]
  exact⟨h4,h5,fun _=>h1,fun _=>h2⟩
 |false =>
  cases hx:usesX x.op with
  |true =>
   rw[hy,hx,cond_false,cond_true] at h
   obtain⟨h1,h3,h4,h5⟩:=un_inv hx hy h
   exact⟨h4,h5,fun _=>h1,fun u=>by cases u⟩
  |false =>
   rw[hy,hx,cond_false,cond_false] at h
   obtain⟨h3,h4,h5⟩:=one_inv h
   exact⟨h4,h5,fun u=>(by cases u),fun u=>by cases u⟩
def impL (p q:List Nd):List Nd:=buildL (n0 7) [p,q]
def conL (p q:List Nd):List Nd:=buildL (n0 5) [p,q]
theorem nil_check {f:List Nd} (h:check f=0):f≠[]:=by rintro rfl;exact absurd h (by decide)
def npv (f:List Nd):PV:=match f with
 | []=>.nil
 |_::_=>fpv f
theorem npv_ge {f:List Nd} (h:f≠[]):PLe (fpv f) (npv f):=by
 cases f with
 |nil=>exact absurd rfl h
 |cons a r=>exact .refl _
theorem npv_le (f:List Nd):PLe (npv f) (fpv f):=by
 cases f with
 |nil=>exact .nil
 |cons a r=>exact .refl _
theorem fm_buildN (x:Nd) (l:List (List Nd)) (hl:l.length≤2):PureFn Tryz.prog 89 [x.pv,.sl (l.map fpv)] (npv (buildL x l)):=by
 refine PureFn.introC [14,16] mixed (fn:=Tryz.f89) rfl rfl rfl fun M w0 => ?_
 try conv=>whnf
 refine⟨{ q:Nat×Nd×List Nd // q.1≤l.length∧bfold 0 l (x,[])=bfold q.1 (l.drop q.1) q.2∧Okl q.2.2∧q.2.2.length≤200*q.1 },
  fun q=>[(2,.ref 0 0),(5,.buf 1 (q.1.2.2.map Nd.pv).length),(14,.pv (.sl (l.map fpv))),(15,.pv (.int .i64 (l.map fpv).length)),(16,.pv (.int .i64 (q.1.1:Nat)))],fun _=>2,
  fun q=>[(0,.var q.1.2.1.dvs),(1,.arr 6 (q.1.2.2.map Nd.pv))],fun q=>l.length-q.1.1,⟨⟨(0,x,[]),Nat.zero_le _,rfl,(fun i x h=>by simp at h),Nat.zero_le _⟩,(by refine Wk.of ?_ ?_ rfl rfl rfl<;>repeat' (first|exact trivial|exact WkD.same _|exact WkO.same _ _ rfl|exact WkD.new' rfl rfl rfl|exact WkO.new _ _ rfl|exact rfl|refine⟨?_,?_⟩|fail))⟩,?_⟩
 rintro⟨⟨k,y,F⟩,hk,he,hF,hFl⟩
 simp only at hk he hF hFl
 (try conv=>whnf);repeat' (first|(apply And.intro<;>try conv=>whnf)|(intro h;try conv=>whnf)|(apply infoT;rfl)|fail)
 ·have hk':k<l.length:=by simpa using h
  obtain⟨o,ho⟩:∃ o,l[k]? = some o:=⟨_,List.getElem?_eq_getElem hk'⟩
  have hd:l.drop k=o::l.drop (k+1):=by
   rw[List.drop_eq_getElem_cons hk']
   rw[List.getElem?_eq_getElem hk'] at ho
   rw[Option.some.inj ho]
  rw[hd] at he
  have hol:=comp_len o
  (try conv=>whnf);repeat' (first|(apply And.intro<;>try conv=>whnf)|(intro h;try conv=>whnf)|(refine⟨_,_,rfl,idx_map (by with_reducible assumption),rfl,?_⟩;try conv=>whnf)|(refine PureFn.dcq (f:=86) rfl ?_;try conv=>whnf)|(refine PureFn.dcq (f:=68) rfl ?_;try conv=>whnf)|(refine⟨_,_,fm_Check ?_,?_,?_⟩;rotate_left 1;(focus first|(refine⟨?_,trivial⟩<;>first|exact PLe.refl _|exact PLe.nil)|exact trivial);try conv=>whnf)|(refine⟨_,_,fm_Compact ?_,?_,?_⟩;rotate_left 1;(focus first|(refine⟨?_,trivial⟩<;>first|exact PLe.refl _|exact PLe.nil)|exact trivial);try conv=>whnf)|fail)
  ·have hb:bfold 0 l (x,[])=none:=by rw[he];simp only[bfold,h];rfl
   have:buildL x l=[]:=by rw[buildL,hb]
   rw[this];exact .refl _
  ·have hb:bfold 0 l (x,[])=bfold (k+1) (l.drop (k+1)) (bstep k (y,F) o):=by rw[he];simp only[bfold,h];rfl
   have hz:=shL_zero F (comp o)
   refine⟨{ j:Nat // j≤(comp o).length },fun j=>[(2,.ref 0 0),(5,.buf 1 (shL F (comp o) j.1).length),(6,.pv (.int .i64 (k:Nat))),(8,.pv (.int .i64 (F.map Nd.pv).length)),(14,.pv (.sl (l.map fpv))),(15,.pv (.int .i64 (l.map fpv).length)),(16,.pv (.int .i64 (k:Nat))),(27,.pv (fpv (comp o))),(28,.pv (.int .i64 ((comp o).map Nd.pv).length)),(29,.pv (.int .i64 (j.1:Nat)))],fun _=>2,
    fun j=>[(0,.var y.dvs),(1,.arr 6 (shL F (comp o) j.1))],fun j=>(comp o).length-j.1,⟨⟨0,Nat.zero_le _⟩,(by refine Wk.of ?_ ?_ rfl rfl rfl<;>repeat' (first|exact trivial|exact WkD.same _|exact WkO.same _ _ rfl|exact WkD.eq (congrArg (fun z:List PV=>DV.buf _ z.length) hz)|exact WkO.same _ _ (congrArg (fun z=>some (DObj.arr _ z)) hz)|refine⟨?_,?_⟩|fail))⟩,?_⟩
   rintro⟨j,hj⟩
   (try conv=>whnf);repeat' (first|(apply And.intro<;>try conv=>whnf)|(intro h;try conv=>whnf)|(apply infoT;rfl)|fail)
   ·have hj':j<(comp o).length:=by simpa using h
    have hn:(comp o)[j]? = some (comp o)[j]:=List.getElem?_eq_getElem hj'
    have hs:=shL_succ (F:=F) hj'
    have hok:=comp_okl o j _ hn
    generalize (comp o)[j]=n at hn hs hok
    (try conv=>whnf);repeat' (first|(refine⟨_,_,rfl,idx_map (by with_reducible assumption),rfl,?_⟩;try conv=>whnf)|(refine PureFn.dcq (f:=120) rfl ?_;try conv=>whnf)|(refine⟨_,_,fm_uses ?_,?_,?_⟩;rotate_left 1;(focus first|(refine⟨?_,trivial⟩<;>first|exact PLe.refl _|exact PLe.nil)|exact trivial);try conv=>whnf)|fail)
    refine⟨{ z:Nd // z=shX F.length n },fun z=>[(2,.ref 0 0),(5,.buf 1 (shL F (comp o) j).length),(6,.pv (.int .i64 (k:Nat))),(8,.pv (.int .i64 (F.map Nd.pv).length)),(14,.pv (.sl (l.map fpv))),(15,.pv (.int .i64 (l.map fpv).length)),(16,.pv (.int .i64 (k:Nat))),(27,.pv (fpv (comp o))),(28,.pv (.int .i64 ((comp o).map Nd.pv).length)),(29,.pv (.int .i64 (j:Nat))),(10,.ref 2 0),(11,.ref 3 0)],fun _=>4,
     fun z=>[(0,.var y.dvs),(1,.arr 6 (shL F (comp o) j)),(2,.var z.1.dvs),(3,.var (usesDvs n.op))],?_,?_⟩
    ·(try conv=>whnf);repeat' (first|(apply And.intro<;>try conv=>whnf)|(intro h;try conv=>whnf)|fail)
     ·have:=hok.x h
      refine⟨⟨{ n with x:=n.x+F.length },by rw[shX,h];rfl⟩,?_⟩
      (refine Wk.of ?_ ?_ rfl rfl rfl<;>repeat' (first|exact trivial|exact WkD.same _|exact WkO.same _ _ rfl|refine WkD.int ?_|refine WkO.vars rfl ?_|refine⟨?_,?_⟩|fail))
      exact wrapA (by simp) (by rw[List.length_map];omega) (by rw[List.length_map];omega)
     ·exact⟨⟨n,by rw[shX,h];rfl⟩,(by exact Wk.sm rfl rfl rfl rfl rfl)⟩
    ·rintro⟨z,rfl⟩
     try conv=>whnf
     refine⟨{ z:Nd // z=shN F.length n },fun z=>[(2,.ref 0 0),(5,.buf 1 (shL F (comp o) j).length),(6,.pv (.int .i64 (k:Nat))),(8,.pv (.int .i64 (F.map Nd.pv).length)),(14,.pv (.sl (l.map fpv))),(15,.pv (.int .i64 (l.map fpv).length)),(16,.pv (.int .i64 (k:Nat))),(27,.pv (fpv (comp o))),(28,.pv (.int .i64 ((comp o).map Nd.pv).length)),(29,.pv (.int .i64 (j:Nat))),(10,.ref 2 0)],fun _=>3,
      fun z=>[(0,.var y.dvs),(1,.arr 6 (shL F (comp o) j)),(2,.var z.1.dvs)],?_,?_⟩
     ·(try conv=>whnf);repeat' (first|(apply And.intro<;>try conv=>whnf)|(intro h;try conv=>whnf)|fail)
      ·have:=hok.y h
       refine⟨⟨{ shX F.length n with y:=n.y+F.length },by rw[shN,h];rfl⟩,?_⟩
       (refine Wk.of ?_ ?_ rfl rfl rfl<;>repeat' (first|exact trivial|exact WkD.same _|exact WkO.same _ _ rfl|refine WkD.int ?_|refine WkO.vars rfl ?_|refine⟨?_,?_⟩|fail))
       refine (congrArg (fun v=>IntKind.wrap .i64 (v+((F.map Nd.pv).length:Int))) (shX_y F.length n)).trans ?_
       exact wrapA (by simp) (by rw[List.length_map];omega) (by rw[List.length_map];omega)
      ·exact⟨⟨shX F.length n,by rw[shN,h];rfl⟩,(by exact Wk.sm rfl rfl rfl rfl rfl)⟩
     ·rintro⟨z,rfl⟩
      (try conv=>whnf);repeat' (first|(apply And.intro<;>try conv=>whnf)|(apply cellsI;rfl)|(apply szI;rfl)|fail)
      ·show (shL F (comp o) j).length+1≤4294967296
       rw[shL_len hj];omega
      ·exact⟨⟨j+1,hj'⟩,by show (comp o).length-(j+1)<(comp o).length-j;omega,(by refine Wk.of ?_ ?_ rfl rfl rfl<;>repeat' (first|exact trivial|exact WkD.same _|exact WkO.same _ _ rfl|exact WkD.eq (congrArg (fun z:List PV=>DV.buf _ z.length) hs)|exact WkO.same _ _ (congrArg (fun z=>some (DObj.arr _ z)) hs)|refine WkD.int ?_|refine⟨?_,?_⟩|(refine wrapA ?_ ?_ ?_;(focus simp;done);(focus (try dsimp only);omega);(focus (try dsimp only);omega))|fail))⟩
   ·have hs:=bstep_t (y:=y) (F:=F) (o:=o) h
    have hj':j=(comp o).length:=by simp at *;omega
    subst hj'
    have hse:=shL_end F (comp o)
    rw[hs] at hb
    have hG:=okl_append hF (comp_okl o)
    have hGl:(F++(comp o).map (shN F.length)).length≤200*(k+1):=by rw[List.length_append,List.length_map];omega
    generalize (F++(comp o).map (shN F.length))=G at hse hb hG hGl
    have hGn:((shL F (comp o) (comp o).length).length:Int)=G.length:=by rw[hse,List.length_map]
    refine⟨⟨(k+1,{ y with x:=(G.length:Int)-1 },G),hk',hb,hG,hGl⟩,by show l.length-(k+1)<l.length-k;omega,?_⟩
    (refine Wk.of ?_ ?_ rfl rfl rfl<;>repeat' (first|exact trivial|exact WkD.same _|exact WkD.eq (congrArg (fun z:List PV=>DV.buf _ z.length) hse)|exact WkO.same _ _ (congrArg (fun z=>some (DObj.arr _ z)) hse)|refine WkD.int ?_|refine WkO.vars rfl ?_|refine⟨?_,?_⟩|(refine wrapA ?_ ?_ ?_;(focus simp;done);(focus (try dsimp only);omega);(focus (try dsimp only);omega))|fail))
    exact (congrArg (fun z:Int=>IntKind.wrap .i64 (z-1)) hGn).trans (wrapA rfl (by omega) (by omega))
   ·have hs:=bstep_f (y:=y) (F:=F) (o:=o) h
    have hj':j=(comp o).length:=by simp at *;omega
    subst hj'
    have hse:=shL_end F (comp o)
    rw[hs] at hb
    have hG:=okl_append hF (comp_okl o)
    have hGl:(F++(comp o).map (shN F.length)).length≤200*(k+1):=by rw[List.length_append,List.length_map];omega
    generalize (F++(comp o).map (shN F.length))=G at hse hb hG hGl
    have hGn:((shL F (comp o) (comp o).length).length:Int)=G.length:=by rw[hse,List.length_map]
    refine⟨⟨(k+1,{ y with y:=(G.length:Int)-1 },G),hk',hb,hG,hGl⟩,by show l.length-(k+1)<l.length-k;omega,?_⟩
    (refine Wk.of ?_ ?_ rfl rfl rfl<;>repeat' (first|exact trivial|exact WkD.same _|exact WkD.eq (congrArg (fun z:List PV=>DV.buf _ z.length) hse)|exact WkO.same _ _ (congrArg (fun z=>some (DObj.arr _ z)) hse)|refine WkD.int ?_|refine WkO.vars rfl ?_|refine⟨?_,?_⟩|(refine wrapA ?_ ?_ ?_;(focus simp;done);(focus (try dsimp only);omega);(focus (try dsimp only);omega))|fail))
    exact (congrArg (fun z:Int=>IntKind.wrap .i64 (z-1)) hGn).trans (wrapA rfl (by omega) (by omega))
 ·have hk':k=l.length:=by simp at *;omega
  subst hk'
  rw[List.drop_length] at he
  have hbl:buildL x l=bfin (y,F):=by rw[buildL,he];rfl
  rw[hbl]
  rw[bfin]
  simp only
  have hne:=fm_nodeError y (F.map Nd.pv).length
  have hFl':F.length≤400:=by omega
  (try conv=>whnf);repeat' (first|(apply And.intro<;>try conv=>whnf)|(intro h;try conv=>whnf)|(apply cellsI;rfl)|(apply szI;rfl)|(refine PureFn.dy hne rfl ?_;try conv=>whnf)|fail)
  ·rw[List.length_map] at h
   rw[h];exact .refl _
  ·show (F.map Nd.pv).length+1≤4294967296
   rw[List.length_map];omega
  ·rw[List.length_map] at h
   have hok:OkNd y F.length:=nodeErr_ok.1 (by simpa using h)
   have hcp:PureFn Tryz.prog 121 [.sl (F.map Nd.pv++[y.pv]),.int .i64 ((F.map Nd.pv).length:Int)] (fpv (canon (F++[y]) F.length)):=by
    have:=fm_compact (F++[y]) F.length (okl_snoc hF hok).wf (by simp) (by simp;omega)
    rw[show fpv (F++[y])=.sl (F.map Nd.pv++[y.pv]) from congrArg PV.sl List.map_append] at this
    rw[List.length_map];exact this
   rw[h]
   (try conv=>whnf);repeat' (first|(apply And.intro<;>try conv=>whnf)|(intro h;try conv=>whnf)|(apply bleI;rfl)|(refine PureFn.dcq (f:=121) rfl ?_;try conv=>whnf)|(refine⟨_,_,hcp,?_,?_⟩;(focus first|(refine⟨?_,?_,trivial⟩<;>first|exact PLe.refl _|exact PLe.nil)|exact trivial);try conv=>whnf)|fail)
   ·rw[List.length_map] at h
    rw[h];exact .refl _
   ·rw[List.length_map] at h
    rw[h];exact npv_ge (by intro e;have:=(canon_ok (okl_snoc hF hok) (show F.length<(F++[y]).length by simp)).2;rw[e] at this;simp at this)
theorem fn_True:PureFn Tryz.prog 36 [] (npv (buildL (n0 1) [])):=by
 have hb:=fm_buildN (n0 1) [] (by simp)
 generalize buildL (n0 1) []=z at hb ⊢
 refine PureFn.intro mixed (fn:=Tryz.f36) rfl rfl rfl fun M w0 => ?_
 cases z with
 |nil =>
  (try conv=>whnf);repeat' (first|(refine PureFn.dcq (f:=89) rfl ?_;try conv=>whnf)|(refine⟨_,_,hb,?_,?_⟩;(focus first|(refine⟨?_,?_,trivial⟩<;>first|exact PLe.refl _|exact PLe.nil)|exact trivial);try conv=>whnf)|fail)
  exact .refl _
 |cons a r =>
  (try conv=>whnf);repeat' (first|(refine PureFn.dcq (f:=89) rfl ?_;try conv=>whnf)|(refine⟨_,_,hb,?_,?_⟩;(focus first|(refine⟨?_,?_,trivial⟩<;>first|exact PLe.refl _|exact PLe.nil)|exact trivial);try conv=>whnf)|fail)
  exact .refl _
theorem fn_False:PureFn Tryz.prog 53 [] (npv (buildL (n0 2) [])):=by
 have hb:=fm_buildN (n0 2) [] (by simp)
 generalize buildL (n0 2) []=z at hb ⊢
 refine PureFn.intro mixed (fn:=Tryz.f53) rfl rfl rfl fun M w0 => ?_
 cases z with
 |nil =>
  (try conv=>whnf);repeat' (first|(refine PureFn.dcq (f:=89) rfl ?_;try conv=>whnf)|(refine⟨_,_,hb,?_,?_⟩;(focus first|(refine⟨?_,?_,trivial⟩<;>first|exact PLe.refl _|exact PLe.nil)|exact trivial);try conv=>whnf)|fail)
  exact .refl _
 |cons a r =>
  (try conv=>whnf);repeat' (first|(refine PureFn.dcq (f:=89) rfl ?_;try conv=>whnf)|(refine⟨_,_,hb,?_,?_⟩;(focus first|(refine⟨?_,?_,trivial⟩<;>first|exact PLe.refl _|exact PLe.nil)|exact trivial);try conv=>whnf)|fail)
  exact .refl _
theorem fn_Fact (i:Int):PureFn Tryz.prog 83 [.int .i64 i] (npv (buildL (nI 3 i) [])):=by
 have hb:=fm_buildN (nI 3 i) [] (by simp)
 generalize buildL (nI 3 i) []=z at hb ⊢
 refine PureFn.intro mixed (fn:=Tryz.f83) rfl rfl rfl fun M w0 => ?_
 cases z with
 |nil =>
  (try conv=>whnf);repeat' (first|(refine PureFn.dcq (f:=89) rfl ?_;try conv=>whnf)|(refine⟨_,_,hb,?_,?_⟩;(focus first|(refine⟨?_,?_,trivial⟩<;>first|exact PLe.refl _|exact PLe.nil)|exact trivial);try conv=>whnf)|fail)
  exact .refl _
 |cons a r =>
  (try conv=>whnf);repeat' (first|(refine PureFn.dcq (f:=89) rfl ?_;try conv=>whnf)|(refine⟨_,_,hb,?_,?_⟩;(focus first|(refine⟨?_,?_,trivial⟩<;>first|exact PLe.refl _|exact PLe.nil)|exact trivial);try conv=>whnf)|fail)
  exact .refl _
theorem fn_Not (f:List Nd):PureFn Tryz.prog 37 [fpv f] (npv (buildL (n0 4) [f])):=by
 have hb:=fm_buildN (n0 4) [f] (by simp)
 generalize buildL (n0 4) [f]=z at hb ⊢
 refine PureFn.intro mixed (fn:=Tryz.f37) rfl rfl rfl fun M w0 => ?_
 cases z with
 |nil =>
  (try conv=>whnf);repeat' (first|(apply And.intro<;>try conv=>whnf)|(apply cellsI;rfl)|(refine PureFn.dy hb rfl ?_;try conv=>whnf)|fail)
  exact .refl _
 |cons a r =>
  (try conv=>whnf);repeat' (first|(apply And.intro<;>try conv=>whnf)|(apply cellsI;rfl)|(refine PureFn.dy hb rfl ?_;try conv=>whnf)|fail)
  exact .refl _
theorem fn_And (f g:List Nd):PureFn Tryz.prog 32 [fpv f,fpv g] (npv (buildL (n0 5) [f,g])):=by
 have hb:=fm_buildN (n0 5) [f,g] (by simp)
 generalize buildL (n0 5) [f,g]=z at hb ⊢
 refine PureFn.intro mixed (fn:=Tryz.f32) rfl rfl rfl fun M w0 => ?_
 cases z with
 |nil =>
  (try conv=>whnf);repeat' (first|(apply And.intro<;>try conv=>whnf)|(apply cellsI;rfl)|(refine PureFn.dy hb rfl ?_;try conv=>whnf)|fail)
  exact .refl _
 |cons a r =>
  (try conv=>whnf);repeat' (first|(apply And.intro<;>try conv=>whnf)|(apply cellsI;rfl)|(refine PureFn.dy hb rfl ?_;try conv=>whnf)|fail)
  exact .refl _
theorem fn_Or (f g:List Nd):PureFn Tryz.prog 186 [fpv f,fpv g] (npv (buildL (n0 6) [f,g])):=by
 have hb:=fm_buildN (n0 6) [f,g] (by simp)
 generalize buildL (n0 6) [f,g]=z at hb ⊢
 refine PureFn.intro mixed (fn:=Tryz.f186) rfl rfl rfl fun M w0 => ?_
 cases z with
 |nil =>
  (try conv=>whnf);repeat' (first|(apply And.intro<;>try conv=>whnf)|(apply cellsI;rfl)|(refine PureFn.dy hb rfl ?_;try conv=>whnf)|fail)
  exact .refl _
 |cons a r =>
  (try conv=>whnf);repeat' (first|(apply And.intro<;>try conv=>whnf)|(apply cellsI;rfl)|(refine PureFn.dy hb rfl ?_;try conv=>whnf)|fail)
  exact .refl _
theorem fn_Imp (f g:List Nd):PureFn Tryz.prog 34 [fpv f,fpv g] (npv (buildL (n0 7) [f,g])):=by
 have hb:=fm_buildN (n0 7) [f,g] (by simp)
 generalize buildL (n0 7) [f,g]=z at hb ⊢
 refine PureFn.intro mixed (fn:=Tryz.f34) rfl rfl rfl fun M w0 => ?_
 cases z with
 |nil =>
  (try conv=>whnf);repeat' (first|(apply And.intro<;>try conv=>whnf)|(apply cellsI;rfl)|(refine PureFn.dy hb rfl ?_;try conv=>whnf)|fail)
  exact .refl _
 |cons a r =>
  (try conv=>whnf);repeat' (first|(apply And.intro<;>try conv=>whnf)|(apply cellsI;rfl)|(refine PureFn.dy hb rfl ?_;try conv=>whnf)|fail)
  exact .refl _
theorem fn_Iff (f g:List Nd):PureFn Tryz.prog 187 [fpv f,fpv g] (npv (buildL (n0 8) [f,g])):=by
 have hb:=fm_buildN (n0 8) [f,g] (by simp)
 generalize buildL (n0 8) [f,g]=z at hb ⊢
 refine PureFn.intro mixed (fn:=Tryz.f187) rfl rfl rfl fun M w0 => ?_
 cases z with
 |nil =>
  (try conv=>whnf);repeat' (first|(apply And.intro<;>try conv=>whnf)|(apply cellsI;rfl)|(refine PureFn.dy hb rfl ?_;try conv=>whnf)|fail)
  exact .refl _
 |cons a r =>
  (try conv=>whnf);repeat' (first|(apply And.intro<;>try conv=>whnf)|(apply cellsI;rfl)|(refine PureFn.dy hb rfl ?_;try conv=>whnf)|fail)
  exact .refl _
theorem fn_Know (i:Int) (f:List Nd):PureFn Tryz.prog 188 [.int .i64 i,fpv f] (npv (buildL (nI 9 i) [f])):=by
 have hb:=fm_buildN (nI 9 i) [f] (by simp)
 generalize buildL (nI 9 i) [f]=z at hb ⊢
 refine PureFn.intro mixed (fn:=Tryz.f188) rfl rfl rfl fun M w0 => ?_
 cases z with
 |nil =>
  (try conv=>whnf);repeat' (first|(apply And.intro<;>try conv=>whnf)|(apply cellsI;rfl)|(refine PureFn.dy hb rfl ?_;try conv=>whnf)|fail)
  exact .refl _
 |cons a r =>
  (try conv=>whnf);repeat' (first|(apply And.intro<;>try conv=>whnf)|(apply cellsI;rfl)|(refine PureFn.dy hb rfl ?_;try conv=>whnf)|fail)
  exact .refl _
theorem fn_Poss (i:Int) (f:List Nd):PureFn Tryz.prog 153 [.int .i64 i,fpv f] (npv (buildL (nI 10 i) [f])):=by
 have hb:=fm_buildN (nI 10 i) [f] (by simp)
 generalize buildL (nI 10 i) [f]=z at hb ⊢
 refine PureFn.intro mixed (fn:=Tryz.f153) rfl rfl rfl fun M w0 => ?_
 cases z with
 |nil =>
  (try conv=>whnf);repeat' (first|(apply And.intro<;>try conv=>whnf)|(apply cellsI;rfl)|(refine PureFn.dy hb rfl ?_;try conv=>whnf)|fail)
  exact .refl _
 |cons a r =>
  (try conv=>whnf);repeat' (first|(apply And.intro<;>try conv=>whnf)|(apply cellsI;rfl)|(refine PureFn.dy hb rfl ?_;try conv=>whnf)|fail)
  exact .refl _
theorem fn_Every (i:Int) (f:List Nd):PureFn Tryz.prog 189 [.int .i64 i,fpv f] (npv (buildL (nG 11 i) [f])):=by
 have hb:=fm_buildN (nG 11 i) [f] (by simp)
 generalize buildL (nG 11 i) [f]=z at hb ⊢
 refine PureFn.intro mixed (fn:=Tryz.f189) rfl rfl rfl fun M w0 => ?_
 cases z with
 |nil =>
  (try conv=>whnf);repeat' (first|(apply And.intro<;>try conv=>whnf)|(apply cellsI;rfl)|(refine PureFn.dy hb rfl ?_;try conv=>whnf)|fail)
  exact .refl _
 |cons a r =>
  (try conv=>whnf);repeat' (first|(apply And.intro<;>try conv=>whnf)|(apply cellsI;rfl)|(refine PureFn.dy hb rfl ?_;try conv=>whnf)|fail)
  exact .refl _
theorem fn_Dist (i:Int) (f:List Nd):PureFn Tryz.prog 190 [.int .i64 i,fpv f] (npv (buildL (nG 12 i) [f])):=by
 have hb:=fm_buildN (nG 12 i) [f] (by simp)
 generalize buildL (nG 12 i) [f]=z at hb ⊢
 refine PureFn.intro mixed (fn:=Tryz.f190) rfl rfl rfl fun M w0 => ?_
 cases z with
 |nil =>
  (try conv=>whnf);repeat' (first|(apply And.intro<;>try conv=>whnf)|(apply cellsI;rfl)|(refine PureFn.dy hb rfl ?_;try conv=>whnf)|fail)
  exact .refl _
 |cons a r =>
  (try conv=>whnf);repeat' (first|(apply And.intro<;>try conv=>whnf)|(apply cellsI;rfl)|(refine PureFn.dy hb rfl ?_;try conv=>whnf)|fail)
  exact .refl _
theorem fn_Common (i:Int) (f g:List Nd):PureFn Tryz.prog 154 [.int .i64 i,fpv f,fpv g] (npv (buildL (nG 13 i) [f,g])):=by
 have hb:=fm_buildN (nG 13 i) [f,g] (by simp)
 generalize buildL (nG 13 i) [f,g]=z at hb ⊢
 refine PureFn.intro mixed (fn:=Tryz.f154) rfl rfl rfl fun M w0 => ?_
 cases z with
 |nil =>
  (try conv=>whnf);repeat' (first|(apply And.intro<;>try conv=>whnf)|(apply cellsI;rfl)|(refine PureFn.dy hb rfl ?_;try conv=>whnf)|fail)
  exact .refl _
 |cons a r =>
  (try conv=>whnf);repeat' (first|(apply And.intro<;>try conv=>whnf)|(apply cellsI;rfl)|(refine PureFn.dy hb rfl ?_;try conv=>whnf)|fail)
  exact .refl _
def redE {α:Type} (d:α) (h:Nd→α→α→α×Int):List Nd→List α→List α×Int
 | [],l=>(l,0)
 |x::r,l=>bif (h x (l.getD x.x.toNat d) (l.getD x.y.toNat d)).2 != 0 then ([],(h x (l.getD x.x.toNat d) (l.getD x.y.toNat d)).2) else redE d h r (l++[(h x (l.getD x.x.toNat d) (l.getD x.y.toNat d)).1])
theorem redE_drop {α:Type} {d:α} {h:Nd→α→α→α×Int} {c:List Nd} {l:List α} {i:Nat} {x:Nd} (hx:c[i]? = some x) :
  redE d h (c.drop i) l=bif (h x (l.getD x.x.toNat d) (l.getD x.y.toNat d)).2 != 0 then ([],(h x (l.getD x.x.toNat d) (l.getD x.y.toNat d)).2) else redE d h (c.drop (i+1)) (l++[(h x (l.getD x.x.toNat d) (l.getD x.y.toNat d)).1]):=by
 obtain⟨h1,h2⟩:=List.getElem?_eq_some_iff.1 hx
 rw[List.drop_eq_getElem_cons h1,h2];rfl
theorem redE_end {α:Type} {d:α} {h:Nd→α→α→α×Int} {c:List Nd} {l:List α}:redE d h (c.drop c.length) l=(l,0):=by
 rw[List.drop_length];rfl
theorem redE_all {α:Type} {d:α} {h:Nd→α→α→α×Int} {c:List Nd} (Q:Nat→α→Prop)
  (step:∀ (i:Nat) x (l:List α),c[i]? = some x→l.length=i→(∀ (j:Nat) z,l[j]? = some z→Q j z)→(h x (l.getD x.x.toNat d) (l.getD x.y.toNat d)).2=0→Q i (h x (l.getD x.x.toNat d) (l.getD x.y.toNat d)).1) :
  ∀ (n i:Nat) (l:List α),i+n=c.length→l.length=i→(∀ (j:Nat) z,l[j]? = some z→Q j z)→(redE d h (c.drop i) l).2=0 →
   (redE d h (c.drop i) l).1.length=c.length∧∀ (j:Nat) z,(redE d h (c.drop i) l).1[j]? = some z→Q j z
 |0,i,l,hi,hl,hQ,he=>by
  have:i=c.length:=by omega
  subst this
  rw[redE_end]
  exact⟨hl,hQ⟩
 |n+1,i,l,hi,hl,hQ,he=>by
  have hx:c[i]? = some (c[i]'(by omega)):=List.getElem?_eq_getElem (by omega)
  have hs:=step i _ l hx hl hQ
  rw[redE_drop hx] at he ⊢
  generalize h (c[i]'(by omega)) (l.getD (c[i]'(by omega)).x.toNat d) (l.getD (c[i]'(by omega)).y.toNat d)=z at hs he ⊢
  cases hz:(z.2 != 0) with
  |true =>
   rw[hz] at he
   have he:z.2=0:=he
   rw[he] at hz;cases hz
  |false =>
   rw[hz,cond_false] at he
   rw[cond_false]
   refine redE_all Q step n (i+1) (l++[z.1]) (by omega) (by simp[hl]) (fun j y hy => ?_) he
   rcases Nat.lt_or_ge j l.length with q|q
   ·rw[List.getElem?_append_left q] at hy;exact hQ j y hy
   ·rw[List.getElem?_append_right q] at hy
    have:j=l.length:=by
     have:=(List.getElem?_eq_some_iff.1 hy).1
     simp at this;omega
    subst this
    simp at hy
    subst hy
    rw[hl]
    exact hs (by simpa using hz)
def nz (z:List Nd):List Nd×Int:=(z,bif z.isEmpty then 8 else 0)
theorem nz_ok {z:List Nd} (h:(nz z).2=0):z≠[]:=by rintro rfl;exact absurd h (by decide)
def lastF (r:List (List Nd)×Int):List Nd×Int:=bif r.2 != 0 then ([],r.2) else (r.1.getD (r.1.length-1) [],0)
theorem last_get' {α:Type} {l:List α} {d:α} (h:1≤l.length):l[l.length-1]? = some (l.getD (l.length-1) d):=getD_mem (by omega)
end Go.Proofs.YtejbieopeicgkaaGreatDoor
namespace Go.Dv
open Go.RowKit (Below)
mutual
def DV.ren (ρ:Nat→Nat):DV→DV
 |.agg l=>.agg (DV.rens ρ l)
 |.tup l=>.tup (DV.rens ρ l)
 |.ref k c=>.ref (ρ k) c
 |.aref k n i c=>.aref (ρ k) n i c
 |.buf k n=>.buf (ρ k) n
 |.mp k=>.mp (ρ k)
 |.vbuf k n=>.vbuf (ρ k) n
 |.clo f a b=>.clo f (DV.rens ρ a) (DV.rens ρ b)
 |.when c d=>.when c (d.ren ρ)
 |.pv p=>.pv p
 |.e0=>.e0
 |.eptr p c=>.eptr p c
 |.fnv v=>.fnv v
 |.raw v=>.raw v
 |.any=>.any
def DV.rens (ρ:Nat→Nat):List DV→List DV
 | []=>[]
 |d::r=>d.ren ρ::DV.rens ρ r
end
def DObj.ren (ρ:Nat→Nat):DObj→DObj
 |.var cs=>.var (DV.rens ρ cs)
 |.arr sz es=>.arr sz es
 |.fz l=>.fz l
 |.mp es=>.mp es
 |.gone=>.gone
mutual
def DV.keys (p:Nat→Bool):DV→Bool
 |.agg l=>DV.keyss p l
 |.tup l=>DV.keyss p l
 |.ref k _=>p k
 |.aref k _ _ _=>p k
 |.buf k _=>p k
 |.mp k=>p k
 |.vbuf k _=>p k
 |.clo _ a b=>DV.keyss p a && DV.keyss p b
 |.when c d=>!c||d.keys p
 |_=>true
def DV.keyss (p:Nat→Bool):List DV→Bool
 | []=>true
 |d::r=>d.keys p && DV.keyss p r
end
def DObj.keys (p:Nat→Bool):DObj→Bool
 |.var cs=>DV.keyss p cs
 |_=>true
theorem keyss_iff {p:Nat→Bool}:∀ {l:List DV},DV.keyss p l=true→∀ (i:Nat) (d:DV),l[i]? = some d→d.keys p=true
 | [],_,i,d,h=>by simp at h
 |x::r,hk,i,d,h=>by
  simp only[DV.keyss,Bool.and_eq_true] at hk
  cases i with
  |zero=>simp at h;subst h;exact hk.1
  |succ i=>exact keyss_iff hk.2 i d (by simpa using h)
theorem rens_len {ρ:Nat→Nat}:∀ (l:List DV),(DV.rens ρ l).length=l.length
 | []=>rfl
 |_::r=>by rw[DV.rens,List.length_cons,List.length_cons,rens_len r]
theorem rens_get {ρ:Nat→Nat}:∀ {l:List DV} {i:Nat} {d:DV},(DV.rens ρ l)[i]? = some d→∃ d0,l[i]? = some d0∧d=d0.ren ρ
 | [],i,d,h=>by simp[DV.rens] at h
 |x::r,i,d,h=>by
  rw[DV.rens] at h
  cases i with
  |zero=>simp at h;exact⟨x,by simp,h.symm⟩
  |succ i =>
   obtain⟨d0,h1,h2⟩:=rens_get (l:=r) (i:=i) (by simpa using h)
   exact⟨d0,by simpa using h1,h2⟩
theorem ren_var {ρ:Nat→Nat} {o:Option DObj} {cs:List DV} (h:o.map (DObj.ren ρ)=some (.var cs)):∃ c0,o=some (.var c0)∧cs=DV.rens ρ c0:=by
 cases o with
 |none=>cases h
 |some o =>
  cases o with
  |var c0=>exact⟨c0,rfl,by simpa [DObj.ren] using h.symm⟩
  |arr=>simp[DObj.ren] at h
  |fz=>simp[DObj.ren] at h
  |mp=>simp[DObj.ren] at h
  |gone=>simp[DObj.ren] at h
theorem ren_arr {ρ:Nat→Nat} {o:Option DObj} {sz:Nat} {es:List PV} (h:o.map (DObj.ren ρ)=some (.arr sz es)):o=some (.arr sz es):=by
 cases o with
 |none=>cases h
 |some o=>cases o<;>simp[DObj.ren] at h;obtain⟨rfl,rfl⟩:=h;rfl
theorem ren_fz {ρ:Nat→Nat} {o:Option DObj} {es:List PV} (h:o.map (DObj.ren ρ)=some (.fz es)):o=some (.fz es):=by
 cases o with
 |none=>cases h
 |some o=>cases o<;>simp[DObj.ren] at h;subst h;rfl
theorem ren_mp {ρ:Nat→Nat} {o:Option DObj} {es:List (PV×PV)} (h:o.map (DObj.ren ρ)=some (.mp es)):o=some (.mp es):=by
 cases o with
 |none=>cases h
 |some o=>cases o<;>simp[DObj.ren] at h;subst h;rfl
theorem ren_some {ρ:Nat→Nat} {o:Option DObj} {x:DObj} (h:o.map (DObj.ren ρ)=some x):∃ y,o=some y∧x=y.ren ρ:=by
 cases o with
 |none=>cases h
 |some y=>exact⟨y,rfl,by simpa using h.symm⟩
theorem live_ren {ρ:Nat→Nat} {m:Loc} {o:DObj}:liveAt m (o.ren ρ)↔liveAt m o:=by cases o<;>exact Iff.rfl
section
variable {P:Program} {M:Nat→Prop} {w0:W0}
theorem RelV.ren {T T':Nat→Prop} {w:World} {μ μ':Nat→Loc} {L L':DH} {ρ:Nat→Nat} {p:Nat→Bool} {d:DV} {v:Value} (h:RelV T w μ L d v) (hu:d.keys p=true) (hT:∀ b,T' b→T b)
  (hL:∀ k,p k=true→L'.get (ρ k)=(L.get k).map (DObj.ren ρ)∧μ' (ρ k)=μ k):RelV T' w μ' L' (d.ren ρ) v:=by
 induction h with
 |pv q v h=>exact .pv q v (h.sub hT)
 |e0 a=>exact .e0 a
 |agg l vs h1 _ ih =>
  simp only[DV.keys] at hu
  refine .agg _ vs (by rw[rens_len];exact h1) fun i d v hi hv => ?_
  obtain⟨d0,g1,rfl⟩:=rens_get hi
  exact ih i d0 v g1 hv (keyss_iff hu i d0 g1)
 |tup l vs h1 _ ih =>
  simp only[DV.keys] at hu
  refine .tup _ vs (by rw[rens_len];exact h1) fun i d v hi hv => ?_
  obtain⟨d0,g1,rfl⟩:=rens_get hi
  exact ih i d0 v g1 hv (keyss_iff hu i d0 g1)
 |ref k c v h1 h2 =>
  obtain⟨e1,e2⟩:=hL k hu
  refine .ref (ρ k) c v h1 fun cs hc => ?_
  rw[e1] at hc
  obtain⟨c0,hc0,_⟩:=ren_var hc
  rw[e2];exact h2 c0 hc0
 |aref k m i c v h1 h2 h3 =>
  obtain⟨e1,e2⟩:=hL k hu
  exact .aref (ρ k) m i c v h1 (fun sz es hc=>by rw[e1] at hc;rw[e2];exact h2 sz es (ren_arr hc)) (fun es hc=>by rw[e1] at hc;rw[e2];exact h3 es (ren_fz hc))
 |eptr q c b off val h1 h2 h3 h4=>exact .eptr q c b off val (fun hb=>h1 (hT b hb)) h2 h3 fun j q hj=>(h4 j q hj).sub hT
 |buf k m v h1 h2 h3 =>
  obtain⟨e1,e2⟩:=hL k hu
  exact .buf (ρ k) m v h1 (fun sz es hc=>by rw[e1] at hc;rw[e2];exact h2 sz es (ren_arr hc)) (fun es hc=>by rw[e1] at hc;rw[e2];exact h3 es (ren_fz hc))
 |vbuf k n v h1 h2 =>
  obtain⟨e1,e2⟩:=hL k hu
  refine .vbuf (ρ k) n v h1 fun cs hc => ?_
  rw[e1] at hc
  obtain⟨c0,hc0,_⟩:=ren_var hc
  rw[e2];exact h2 c0 hc0
 |mp k v h1 h2 =>
  obtain⟨e1,e2⟩:=hL k hu
  exact .mp (ρ k) v h1 fun es hc=>by rw[e1] at hc;rw[e2];exact h2 es (ren_mp hc)
 |clo f first caps fs cs h1 h2 _ _ ih1 ih2 =>
  simp only[DV.keys,Bool.and_eq_true] at hu
  refine .clo f _ _ fs cs (by rw[rens_len];exact h1) (by rw[rens_len];exact h2) (fun i d v hi hv => ?_) (fun i d v hi hv => ?_)
  ·obtain⟨d0,g1,rfl⟩:=rens_get hi
   exact ih1 i d0 v g1 hv (keyss_iff hu.1 i d0 g1)
  ·obtain⟨d0,g1,rfl⟩:=rens_get hi
   exact ih2 i d0 v g1 hv (keyss_iff hu.2 i d0 g1)
 |fnv v=>exact .fnv v
 |when c d v _ h2 ih=>exact .when c _ v (fun hc=>ih hc (by simpa [DV.keys,hc] using hu)) h2
 |raw v=>exact .raw v
 |any v=>exact .any v
theorem ObjRel.ren {T T':Nat→Prop} {w:World} {μ μ':Nat→Loc} {L L':DH} {ρ:Nat→Nat} {p:Nat→Bool} {k k':Nat} {o:DObj} (h:ObjRel T w μ L k o) (hu:o.keys p=true) (hk:μ' k'=μ k) (hT:∀ b,T' b→T b)
  (hL:∀ k,p k=true→L'.get (ρ k)=(L.get k).map (DObj.ren ρ)∧μ' (ρ k)=μ k):ObjRel T' w μ' L' k' (o.ren ρ):=by
 cases o with
 |var cs =>
  obtain⟨vs,ty,h1,h2,h3⟩:=h
  refine⟨vs,ty,by rw[hk];exact h1,by rw[rens_len];exact h2,fun i d v hi hv => ?_⟩
  obtain⟨d0,g1,rfl⟩:=rens_get hi
  exact (h3 i d0 v g1 hv).ren (keyss_iff hu i d0 g1) hT hL
 |arr sz es =>
  rcases h with⟨h1,h2⟩|⟨vs,ty,h1,h2,h3,h4,h5,h6⟩
  ·exact .inl ⟨by rw[hk];exact h1,h2⟩
  ·refine .inr ⟨vs,ty,by rw[hk];exact h1,by rw[hk];exact h2,by rw[hk];exact h3,by rw[hk];exact h4,h5,fun i p j q hp hq => ?_⟩
   obtain⟨v,g1,g2⟩:=h6 i p j q hp hq
   exact⟨v,g1,g2.sub hT⟩
 |fz l =>
  rcases h with⟨h1,h2⟩|⟨h1,h2,h3⟩
  ·exact .inl ⟨by rw[hk];exact h1,h2⟩
  ·exact .inr ⟨by rw[hk];exact h1,by rw[hk];exact h2,by rw[hk];exact h3.sub hT⟩
 |gone=>trivial
 |mp es =>
  obtain⟨ents,clock,h1,h2,h3⟩:=h
  exact⟨ents,clock,by rw[hk];exact h1,h2,fun i kv e hi he=>⟨(h3 i kv e hi he).1.sub hT,(h3 i kv e hi he).2.sub hT⟩⟩
mutual
theorem keys_under (n:Nat):∀ d:DV,d.keys (fun k=>Nat.blt k n)=d.under n
 |.agg l=>by simp only[DV.keys,DV.under];exact keyss_unders n l
 |.tup l=>by simp only[DV.keys,DV.under];exact keyss_unders n l
 |.ref _ _=>rfl
 |.aref _ _ _ _=>rfl
 |.buf _ _=>rfl
 |.mp _=>rfl
 |.vbuf _ _=>rfl
 |.clo _ a b=>by simp only[DV.keys,DV.under,keyss_unders n a,keyss_unders n b]
 |.when c d=>by simp only[DV.keys,DV.under,keys_under n d]
 |.pv _=>rfl
 |.e0=>rfl
 |.eptr _ _=>rfl
 |.fnv _=>rfl
 |.raw _=>rfl
 |.any=>rfl
theorem keyss_unders (n:Nat):∀ l:List DV,DV.keyss (fun k=>Nat.blt k n) l=DV.unders n l
 | []=>rfl
 |d::r=>by simp only[DV.keyss,DV.unders,keys_under n d,keyss_unders n r]
end
mutual
theorem ren_under {n m:Nat} {ρ:Nat→Nat} (hρ:∀ k,k<n→ρ k<m):∀ d:DV,d.under n=true→(d.ren ρ).under m=true
 |.agg l,h=>by simp only[DV.under,DV.ren] at h ⊢;exact rens_under hρ l h
 |.tup l,h=>by simp only[DV.under,DV.ren] at h ⊢;exact rens_under hρ l h
 |.ref k _,h=>by simp only[DV.under,DV.ren,Nat.blt_eq] at h ⊢;exact hρ k h
 |.aref k _ _ _,h=>by simp only[DV.under,DV.ren,Nat.blt_eq] at h ⊢;exact hρ k h
 |.buf k _,h=>by simp only[DV.under,DV.ren,Nat.blt_eq] at h ⊢;exact hρ k h
 |.mp k,h=>by simp only[DV.under,DV.ren,Nat.blt_eq] at h ⊢;exact hρ k h
 |.vbuf k _,h=>by simp only[DV.under,DV.ren,Nat.blt_eq] at h ⊢;exact hρ k h
 |.clo _ a b,h=>by
  simp only[DV.under,DV.ren,Bool.and_eq_true] at h ⊢
  exact⟨rens_under hρ a h.1,rens_under hρ b h.2⟩
 |.when c d,h=>by
  simp only[DV.under,DV.ren] at h ⊢
  cases c with
  |false=>rfl
  |true=>simpa using ren_under hρ d (by simpa using h)
 |.pv _,_=>rfl
 |.e0,_=>rfl
 |.eptr _ _,_=>rfl
 |.fnv _,_=>rfl
 |.raw _,_=>rfl
 |.any,_=>rfl
theorem rens_under {n m:Nat} {ρ:Nat→Nat} (hρ:∀ k,k<n→ρ k<m):∀ l:List DV,DV.unders n l=true→DV.unders m (DV.rens ρ l)=true
 | [],_=>rfl
 |d::r,h=>by
  simp only[DV.unders,DV.rens,Bool.and_eq_true] at h ⊢
  exact⟨ren_under hρ d h.1,rens_under hρ r h.2⟩
end
theorem obj_keys {n:Nat}:∀ {o:DObj},o.under n=true→o.keys (fun k=>Nat.blt k n)=true
 |.var cs,h=>by simp only[DObj.under] at h;simp only[DObj.keys];rw[keyss_unders];exact h
 |.arr _ _,_=>rfl
 |.fz _,_=>rfl
 |.mp _,_=>rfl
 |.gone,_=>rfl
theorem obj_ren_under {n m:Nat} {ρ:Nat→Nat} (hρ:∀ k,k<n→ρ k<m):∀ {o:DObj},o.under n=true→(o.ren ρ).under m=true
 |.var cs,h=>rens_under hρ cs h
 |.arr _ _,_=>rfl
 |.fz _,_=>rfl
 |.mp _,_=>rfl
 |.gone,_=>rfl
def DH.mergeR (L:DH) (ρ σ:Nat→Nat) (p:Nat→Bool) (L':DH):DH:={ L with get:=fun k=>bif p k then (L'.get (σ k)).map (DObj.ren ρ) else L.get k }
theorem mergeR_in {L L':DH} {ρ σ:Nat→Nat} {p:Nat→Bool} {k:Nat} (h:p k=true):(L.mergeR ρ σ p L').get k=(L'.get (σ k)).map (DObj.ren ρ):=by
 simp only[DH.mergeR,h,cond_true]
theorem mergeR_out {L L':DH} {ρ σ:Nat→Nat} {p:Nat→Bool} {k:Nat} (h:p k=false):(L.mergeR ρ σ p L').get k=L.get k:=by
 simp only[DH.mergeR,h,cond_false]
theorem DC.ren {f:FuncId} {args:List DV} {L H:DH} {K:DV→DH→Prop} (ρ σ:Nat→Nat) (p:Nat→Bool) (h1:∀ k,k<H.next→p (ρ k)=true∧σ (ρ k)=k∧ρ k<L.next) (h2:∀ k,p k=true→σ k<H.next∧ρ (σ k)=k)
  (hag:∀ k,k<H.next→H.get k=(L.get (ρ k)).map (DObj.ren σ)) (hkp:∀ k o,k<H.next→L.get (ρ k)=some o→o.keys p=true) (hnone:∀ k,H.next≤k→H.get k=none) (hlo:H.lo=0) (hlo':L.lo=0)
  (hbase:H.base≤H.next) (hkeys:∀ k o,H.get k=some o→o.under H.next=true) (hargs:DV.keyss p args=true) (hargsU:DV.unders H.next (DV.rens σ args)=true)
  (h:∀ M,DC P M w0.no f (DV.rens σ args) H fun d L'=>L'.next=H.next∧K (d.ren ρ) (L.mergeR ρ σ p L')):DC P M w0 f args L K:=by
 refine DC.mk ⟨(h M).elim.1,fun μ w vs hr hu hrel => ?_⟩
 have hlt:∀ k o,H.get k=some o→k<H.next:=fun k o hk=>by
  rcases Nat.lt_or_ge k H.next with h'|h'
  ·exact h'
  ·rw[hnone k h'] at hk;cases hk
 have hsub:∀ k o,H.get k=some o→∃ o',L.get (ρ k)=some o'∧o=o'.ren σ:=fun k o hk=>by
  rw[hag k (hlt k o hk)] at hk
  exact ren_some hk
 let M':Nat→Prop:=fun b=>M b∨∃ k o,p k=false∧L.get k=some o∧liveAt (μ k) o∧(μ k).blk=b
 let μH:Nat→Loc:=fun k=>μ (ρ k)
 have hin:∀ k o,p k=true→L.get k=some o→H.get (σ k)=some (o.ren σ):=fun k o hk ho=>by
  obtain⟨g1,g2⟩:=h2 k hk
  rw[hag _ g1,g2,ho];rfl
 have hT:∀ b,Tot M' μH H b↔Tot M μ L b:=fun b=>by
  constructor
  ·rintro ((hb|⟨k,o,_,h2,h3,h4⟩)|⟨k,o,q1,q2,q3⟩)
   ·exact .inl hb
   ·exact .inr ⟨k,o,h2,h3,h4⟩
   ·obtain⟨o',g1,rfl⟩:=hsub k o q1
    exact .inr ⟨ρ k,o',g1,live_ren.1 q2,q3⟩
  ·rintro (hb|⟨k,o,q1,q2,q3⟩)
   ·exact .inl (.inl hb)
   ·cases hp:p k with
    |true =>
     obtain⟨g1,g2⟩:=h2 k hp
     refine .inr ⟨σ k,o.ren σ,hin k o hp q1,?_,?_⟩
     ·show liveAt (μ (ρ (σ k))) _
      rw[g2];exact live_ren.2 q2
     ·show (μ (ρ (σ k))).blk=b
      rw[g2];exact q3
    |false=>exact .inl (.inr ⟨k,o,hp,q1,q2,q3⟩)
 have hLH:∀ k,p k=true→H.get (σ k)=(L.get k).map (DObj.ren σ)∧μH (σ k)=μ k:=fun k hk=>by
  obtain⟨g1,g2⟩:=h2 k hk
  exact⟨by rw[hag _ g1,g2],by show μ (ρ (σ k))=μ k;rw[g2]⟩
 have hrH:HR M' w0 μH H w:=by
  refine⟨hr.ext,?_,fun k o hk=>⟨hlt k o hk,hkeys k o hk⟩,?_,?_,?_,hbase,by rw[hlo];exact Nat.zero_le _,hr.glb⟩
  ·rintro b (hb|⟨k,o,_,q2,q3,rfl⟩)
   ·exact hr.mlt b hb
   ·exact (hr.live k o q2 q3).1
  ·intro k o hk hl
   obtain⟨o',g0,rfl⟩:=hsub k o hk
   obtain⟨g1,g2,g3⟩:=hr.live (ρ k) o' g0 (live_ren.1 hl)
   refine⟨g1,?_,fun _=>g3 (by rw[hlo'];exact Nat.zero_le _)⟩
   rintro (hb|⟨k',o2,hk',q2,q3,q4⟩)
   ·exact g2 hb
   ·have:=hr.inj k' o2 (ρ k) o' q2 q3 g0 (live_ren.1 hl) q4
    rw[this,(h1 k (hlt k _ hk)).1] at hk'
    cases hk'
  ·intro k o k' o' q1 q2 q3 q4 q5
   obtain⟨a,a1,rfl⟩:=hsub k o q1
   obtain⟨b,b1,rfl⟩:=hsub k' o' q3
   have e:=hr.inj (ρ k) a (ρ k') b a1 (live_ren.1 q2) b1 (live_ren.1 q4) q5
   rw[← (h1 k (hlt k _ q1)).2.1,← (h1 k' (hlt k' _ q3)).2.1,e]
  ·intro k o hk
   obtain⟨o',g0,rfl⟩:=hsub k o hk
   exact (hr.obj (ρ k) o' g0).ren (hkp k o' (hlt k _ hk) g0) rfl (fun b hb=>(hT b).1 hb) hLH
 have hrelH:RelVs (Tot M' μH H) w μH H (DV.rens σ args) vs:=⟨by rw[rens_len];exact hrel.1,fun i d v hd hv=>by
  obtain⟨d0,g1,rfl⟩:=rens_get hd
  exact (hrel.2 i d0 v g1 hv).ren (keyss_iff hargs i d0 g1) (fun b hb=>(hT b).1 hb) hLH⟩
 refine ((h M').elim.2 μH w vs (hrH.same rfl) hargsU hrelH).mono ?_
 intro e w' hfin
 obtain⟨v,he,μ',d,L',⟨hn',hK⟩,hr',hv,hdu,hs⟩:=hfin.no
 let μL:Nat→Loc:=fun k=>bif p k then μ' (σ k) else μ k
 have hμin:∀ k,p k=true→μL k=μ' (σ k):=fun k hk=>by show (bif p k then _ else _)=_;rw[hk];rfl
 have hμout:∀ k,p k=false→μL k=μ k:=fun k hk=>by show (bif p k then _ else _)=_;rw[hk];rfl
 refine .inl ⟨v,he,μL,d.ren ρ,L.mergeR ρ σ p L',hK,?_⟩
 have hk':∀ k o,L'.get k=some o→k<H.next:=fun k o hk=>by have:=(hr'.keys k o hk).1;omega
 have hframe:∀ k o,p k=false→L.get k=some o→liveAt (μ k) o→w'.heap[(μ k).blk]? = w.heap[(μ k).blk]? := by
  intro k o hk hg hl
  refine hs.same _ (hr.live k o hg hl).1 ?_
  rintro⟨j,o',q1,q2,q3,q4⟩
  obtain⟨a,a1,rfl⟩:=hsub j o' q2
  have:=hr.inj (ρ j) a k o a1 (live_ren.1 q3) hg hl q4
  rw[← this,(h1 j (hlt j _ q2)).1] at hk
  cases hk
 have hW:∀ b,Wbl μH H b→Wbl μ L b:=by
  rintro b ⟨k,o,q1,q2,q3,q4⟩
  obtain⟨a,a1,rfl⟩:=hsub k o q2
  exact⟨ρ k,a,by rw[hlo'];exact Nat.zero_le _,a1,live_ren.1 q3,q4⟩
 have hback:∀ k o,p k=true→(L.mergeR ρ σ p L').get k=some o→∃ o',L'.get (σ k)=some o'∧o=o'.ren ρ:=fun k o hk ho=>by
  rw[mergeR_in hk] at ho
  exact ren_some ho
 have hstp:Stp L μ w (L.mergeR ρ σ p L') μL w':=by
  refine⟨⟨?_,?_,?_,?_⟩,hs.os,hs.tape,hs.output,hs.size,fun b hb hn=>hs.same b hb fun hw=>hn (hW b hw),?_,Nat.le_refl _,rfl,rfl⟩
  ·intro k cs' hkl hc
   cases hp:p k with
   |true =>
    rw[mergeR_in hp] at hc
    rw[hμin k hp]
    obtain⟨c0,g1,_⟩:=ren_var hc
    obtain⟨cs,g2,g3⟩:=hs.evo.var (σ k) c0 (h2 k hp).1 g1
    obtain⟨a,a1,a2⟩:=hsub (σ k) _ g2
    rw[(h2 k hp).2] at a1
    cases a with
    |var ca=>exact⟨ca,a1,by rw[g3];show μ (ρ (σ k))=μ k;rw[(h2 k hp).2]⟩
    |arr=>simp[DObj.ren] at a2
    |fz=>simp[DObj.ren] at a2
    |mp=>simp[DObj.ren] at a2
    |gone=>simp[DObj.ren] at a2
   |false =>
    rw[mergeR_out hp] at hc
    rw[hμout k hp]
    exact⟨cs',hc,rfl⟩
  ·intro k cs' hkl hc
   cases hp:p k with
   |true =>
    rw[mergeR_in hp] at hc
    rw[hμin k hp]
    obtain⟨cs,g2,g3⟩:=hs.evo.mp (σ k) cs' (h2 k hp).1 (ren_mp hc)
    obtain⟨a,a1,a2⟩:=hsub (σ k) _ g2
    rw[(h2 k hp).2] at a1
    have a3:=ren_mp (ρ:=σ) (o:=some a) (es:=cs) (by rw[a2];rfl)
    exact⟨cs,by rw[a1];exact a3,by rw[g3];show μ (ρ (σ k))=μ k;rw[(h2 k hp).2]⟩
   |false =>
    rw[mergeR_out hp] at hc
    rw[hμout k hp]
    exact⟨cs',hc,rfl⟩
  ·intro k sz es' hkl hc
   cases hp:p k with
   |true =>
    rw[mergeR_in hp] at hc
    rw[hμin k hp]
    obtain⟨es,g2,g3⟩:=hs.evo.arr (σ k) sz es' (h2 k hp).1 (ren_arr hc)
    obtain⟨a,a1,a2⟩:=hsub (σ k) _ g2
    rw[(h2 k hp).2] at a1
    have a3:=ren_arr (ρ:=σ) (o:=some a) (sz:=sz) (es:=es) (by rw[a2];rfl)
    refine⟨es,by rw[a1];exact a3,?_⟩
    rcases g3 with g3|⟨g3,g4⟩
    ·exact .inl g3
    ·exact .inr ⟨g3,by rw[g4];show μ (ρ (σ k))=μ k;rw[(h2 k hp).2]⟩
   |false =>
    rw[mergeR_out hp] at hc
    rw[hμout k hp]
    exact⟨es',hc,.inr ⟨rfl,rfl⟩⟩
  ·intro k es' hkl hc
   cases hp:p k with
   |true =>
    rw[mergeR_in hp] at hc
    rw[hμin k hp]
    have em:μH (σ k)=μ k:=by show μ (ρ (σ k))=μ k;rw[(h2 k hp).2]
    rcases hs.evo.fz (σ k) es' (h2 k hp).1 (ren_fz hc) with⟨g2,g3⟩|⟨sz,es,g2,g3,g4⟩
    ·obtain⟨a,a1,a2⟩:=hsub (σ k) _ g2
     rw[(h2 k hp).2] at a1
     have a3:=ren_fz (ρ:=σ) (o:=some a) (es:=es') (by rw[a2];rfl)
     exact .inl ⟨by rw[a1];exact a3,by rw[g3];exact em⟩
    ·obtain⟨a,a1,a2⟩:=hsub (σ k) _ g2
     rw[(h2 k hp).2] at a1
     have a3:=ren_arr (ρ:=σ) (o:=some a) (sz:=sz) (es:=es) (by rw[a2];rfl)
     refine .inr ⟨sz,es,by rw[a1];exact a3,g3,?_⟩
     rcases g4 with g4|⟨g4,g5⟩
     ·exact .inl g4
     ·exact .inr ⟨g4,by rw[g5];exact em⟩
   |false =>
    rw[mergeR_out hp] at hc
    rw[hμout k hp]
    exact .inl ⟨hc,rfl⟩
  ·intro k o hc hl
   cases hp:p k with
   |true =>
    obtain⟨o',g1,rfl⟩:=hback k o hp hc
    rw[hμin k hp] at hl ⊢
    rcases hs.blk (σ k) o' g1 (live_ren.1 hl) with⟨q1,⟨o0,q2,q3⟩,q4⟩|q1
    ·obtain⟨a,a1,rfl⟩:=hsub (σ k) _ q2
     rw[(h2 k hp).2] at a1
     have em:μH (σ k)=μ k:=by show μ (ρ (σ k))=μ k;rw[(h2 k hp).2]
     rw[em] at q3 q4
     exact .inl ⟨(hr.keys k a a1).1,⟨a,a1,live_ren.1 q3⟩,q4⟩
    ·exact .inr q1
   |false =>
    rw[mergeR_out hp] at hc
    rw[hμout k hp] at hl ⊢
    exact .inl ⟨(hr.keys k o hc).1,⟨o,hc,hl⟩,rfl⟩
 have hT':∀ b,Tot M μL (L.mergeR ρ σ p L') b→Tot M' μ' L' b:=by
  rintro b (hb|⟨k,o,q1,q2,q3⟩)
  ·exact .inl (.inl hb)
  ·cases hp:p k with
   |true =>
    obtain⟨o',g1,rfl⟩:=hback k o hp q1
    rw[hμin k hp] at q2 q3
    exact .inr ⟨σ k,o',g1,live_ren.1 q2,q3⟩
   |false =>
    rw[mergeR_out hp] at q1
    rw[hμout k hp] at q2 q3
    exact .inl (.inr ⟨k,o,hp,q1,q2,q3⟩)
 have hL':∀ k,Nat.blt k H.next=true→(L.mergeR ρ σ p L').get (ρ k)=(L'.get k).map (DObj.ren ρ)∧μL (ρ k)=μ' k:=fun k hk=>by
  have hk:k<H.next:=by simpa using hk
  obtain⟨g1,g2,_⟩:=h1 k hk
  exact⟨by rw[mergeR_in g1,g2],by rw[hμin _ g1,g2]⟩
 have hnew:∀ k o,L'.get k=some o→liveAt (μ' k) o→∀ j oj,p j=false→L.get j=some oj→liveAt (μ j) oj→(μ' k).blk≠(μ j).blk:=by
  intro k o hk hl j oj hj q2 q3 he
  exact (hr'.live k o hk hl).2.1 (.inr ⟨j,oj,hj,q2,q3,he.symm⟩)
 have hdk:d.keys (fun k=>Nat.blt k H.next)=true:=by rw[keys_under,← hn'];exact hdu
 have hρu:∀ k,k<H.next→ρ k<L.next:=fun k hk=>(h1 k hk).2.2
 refine⟨⟨hr'.ext,fun b hb=>hr'.mlt b (.inl hb),?_,?_,?_,?_,hr.base,hr.lob,hr.glb⟩,hv.ren hdk hT' hL',ren_under hρu d (by rw[← hn'];exact hdu),hstp⟩
 ·intro k o hk
  cases hp:p k with
  |true =>
   obtain⟨o',g1,rfl⟩:=hback k o hp hk
   have g2:=(hr'.keys (σ k) o' g1).2
   rw[hn'] at g2
   have:=hρu (σ k) (h2 k hp).1
   rw[(h2 k hp).2] at this
   exact⟨this,obj_ren_under hρu g2⟩
  |false=>rw[mergeR_out hp] at hk;exact hr.keys k o hk
 ·intro k o hk hl
  cases hp:p k with
  |true =>
   obtain⟨o',g1,rfl⟩:=hback k o hp hk
   rw[hμin k hp] at hl ⊢
   obtain⟨q1,q2,q3⟩:=hr'.live (σ k) o' g1 (live_ren.1 hl)
   refine⟨q1,fun hM=>q2 (.inl hM),fun _=>q3 (by rw[hs.lo,hlo];exact Nat.zero_le _)⟩
  |false =>
   rw[mergeR_out hp] at hk
   rw[hμout k hp] at hl ⊢
   obtain⟨q1,q2,q3⟩:=hr.live k o hk hl
   exact⟨Nat.lt_of_lt_of_le q1 hs.size,q2,q3⟩
 ·intro k o k' o' q1 q2 q3 q4 q5
  cases hp:p k with
  |true =>
   cases hp':p k' with
   |true =>
    obtain⟨a,a1,rfl⟩:=hback k o hp q1
    obtain⟨b,b1,rfl⟩:=hback k' o' hp' q3
    rw[hμin k hp] at q2 q5
    rw[hμin k' hp'] at q4 q5
    have e:=hr'.inj (σ k) a (σ k') b a1 (live_ren.1 q2) b1 (live_ren.1 q4) q5
    rw[← (h2 k hp).2,← (h2 k' hp').2,e]
   |false =>
    obtain⟨a,a1,rfl⟩:=hback k o hp q1
    rw[mergeR_out hp'] at q3
    rw[hμin k hp] at q2 q5
    rw[hμout k' hp'] at q4 q5
    exact absurd q5 (hnew (σ k) a a1 (live_ren.1 q2) k' o' hp' q3 q4)
  |false =>
   cases hp':p k' with
   |true =>
    obtain⟨b,b1,rfl⟩:=hback k' o' hp' q3
    rw[mergeR_out hp] at q1
    rw[hμout k hp] at q2 q5
    rw[hμin k' hp'] at q4 q5
    exact absurd q5.symm (hnew (σ k') b b1 (live_ren.1 q4) k o hp q1 q2)
   |false =>
    rw[mergeR_out hp] at q1
    rw[mergeR_out hp'] at q3
    rw[hμout k hp] at q2 q5
    rw[hμout k' hp'] at q4 q5
    exact hr.inj k o k' o' q1 q2 q3 q4 q5
 ·intro k o hk
  cases hp:p k with
  |true =>
   obtain⟨a,a1,rfl⟩:=hback k o hp hk
   have g2:=(hr'.keys (σ k) a a1).2
   rw[hn'] at g2
   exact (hr'.obj (σ k) a a1).ren (obj_keys g2) (hμin k hp) hT' hL'
  |false =>
   rw[mergeR_out hp] at hk
   exact (hr.obj k o hk).stp hstp (hμout k hp) (hframe k o hp hk) (hr.keys k o hk).2
end
section
variable {P:Program} {M:Nat→Prop} {w0:W0}
theorem whenOff {c:Bool} {A B:DV→Prop} (hc:c=false) (h2:B (.pv (.bool false))):WhenQ (fun d=>c=true→A d) B :=
 WhenQ.mk (d:=.pv (.bool false)) (fun h=>by rw[hc] at h;cases h) h2
theorem get_eq {L:DH} {k:Nat} {o:Option DObj} (h:L.get k=o):L.get k=o:=h
theorem merge_same {L:DH} {ρ σ:Nat→Nat} {p:Nat→Bool} {L':DH} (h:∀ k,p k=true→(L'.get (σ k)).map (DObj.ren ρ)=L.get k):L.mergeR ρ σ p L'=L:=by
 unfold DH.mergeR
 cases L with
 |mk next lo base get =>
  simp only[DH.mk.injEq,true_and]
  funext k
  cases hk:p k with
  |true=>exact h k hk
  |false=>rfl
theorem DC.lend {f:FuncId} {rest:List DV} {L:DH} {K:DV→DH→Prop} {k n sz:Nat} {es:List PV} {q:DV} (hg:L.get k=some (.arr sz es)) (h0:L.lo=0) (hk:k<L.next) (hr:∀ σ,DV.rens σ rest=rest) (hrk:∀ p,DV.keyss p rest=true) (hru:DV.unders 1 rest=true) (hq:∀ ρ,q.ren ρ=q)
  (h:∀ M (K':DV→DH→Prop),K' q ⟨1,0,1,objsOf [(0,.arr sz es)]⟩→DC P M w0.no f (.buf 0 n::rest) ⟨1,0,1,objsOf [(0,.arr sz es)]⟩ K') (hK:K q L):DC P M w0 f (.buf k n::rest) L K:=by
 have hkk:Nat.beq k k=true:=Nat.beq_refl k
 refine DC.ren (H:=⟨1,0,1,objsOf [(0,.arr sz es)]⟩) (fun _=>k) (fun _=>0) (fun j=>Nat.beq j k) (fun j hj=>⟨hkk,?_,hk⟩) (fun j hj=>⟨Nat.zero_lt_one,(Nat.eq_of_beq_eq_true hj).symm⟩) (fun j hj => ?_) (fun j o hj ho => ?_) (fun j hj => ?_) rfl h0 (Nat.le_refl 1) (fun j o ho => ?_) ?_ ?_ fun M' => ?_
 ·have:j<1:=hj
  show 0=j
  omega
 ·have:j<1:=hj
  have:j=0:=by omega
  subst this
  show some (DObj.arr sz es)=(L.get k).map _
  rw[hg];rfl
 ·rw[hg] at ho
  obtain rfl:=Option.some.inj ho
  rfl
 ·have:1≤j:=hj
  show (bif Nat.beq j 0 then _ else none)=none
  have:Nat.beq j 0=false:=by
   cases hb:Nat.beq j 0 with
   |false=>rfl
   |true=>have:=Nat.eq_of_beq_eq_true hb;omega
  rw[this];rfl
 ·have:j=0∧o=.arr sz es:=by
   have ho:(bif Nat.beq j 0 then some (DObj.arr sz es) else none)=some o:=ho
   cases hb:Nat.beq j 0 with
   |false=>rw[hb] at ho;cases ho
   |true=>rw[hb] at ho;exact⟨Nat.eq_of_beq_eq_true hb,(Option.some.inj ho).symm⟩
  obtain⟨rfl,rfl⟩:=this
  rfl
 ·show (Nat.beq k k && DV.keyss _ rest)=true
  rw[hkk,hrk];rfl
 ·show (Nat.blt 0 1 && DV.unders 1 (DV.rens _ rest))=true
  rw[hr,hru];rfl
 ·show DC P M' w0.no f (.buf 0 n::DV.rens _ rest) _ _
  rw[hr]
  refine h M' _ ⟨rfl,?_⟩
  rw[hq,merge_same]
  ·exact hK
  ·intro j hj
   have:=Nat.eq_of_beq_eq_true hj
   subst this
   show (some (DObj.arr sz es)).map _=L.get j
   rw[hg];rfl
theorem Wk.ofN (f:Nat) {e:Env} {L:DH} {E:List (Nat×DV)} {nx:Nat} {H:List (Nat×DObj)} (h1:wkE e L H E) (h2:wkH L H (H.take f)) (h3:wkU nx E (H.take f)=true) (h4:Nat.ble L.lo nx=true) (h5:Nat.ble L.base nx=true)
  (ht:∀ q,q∈H.drop f→(L.get q.1=some q.2∨(L.get q.1=none∧L.next≤q.1∧∃ sz,q.2=.arr sz []))∧q.1<nx∧q.2.under nx=true):Wk e L E nx H:=by
 have hs:∀ q,q∈H→q∈H.take f∨q∈H.drop f:=fun q hq=>by
  rw[← List.take_append_drop f H] at hq
  exact List.mem_append.1 hq
 have hU:∀ q,q∈E→q.2.under nx=true:=by
  simp only[wkU,Bool.and_eq_true,List.all_eq_true] at h3
  exact fun q hq=>h3.1 q hq
 have hV:∀ q,q∈H.take f→Nat.blt q.1 nx=true∧q.2.under nx=true:=by
  simp only[wkU,Bool.and_eq_true,List.all_eq_true] at h3
  exact fun q hq=>h3.2 q hq
 have g1:∀ (l:List (Nat×DV)),wkE e L H l→∀ q,q∈l→WkD L H (e q.1) q.2:=by
  intro l
  induction l with
  |nil=>intro _ q hq;simp at hq
  |cons x r ih =>
   intro h q hq
   rcases List.mem_cons.1 hq with rfl|hq
   ·exact h.1
   ·exact ih h.2 q hq
 have g2:∀ (l:List (Nat×DObj)),wkH L H l→∀ q,q∈l→WkO L H q.1 q.2∧(L.get q.1=none→L.next≤q.1):=by
  intro l
  induction l with
  |nil=>intro _ q hq;simp at hq
  |cons x r ih =>
   intro h q hq
   rcases List.mem_cons.1 hq with rfl|hq
   ·refine⟨h.1,fun hn => ?_⟩
    have:=h.2.1
    rw[hn] at this
    simpa using this
   ·exact ih h.2.2 q hq
 refine⟨fun q hq=>g1 E h1 q hq,fun q hq => ?_,hU,fun q hq => ?_,by simpa using h4,by simpa using h5,fun q hq hn => ?_⟩
 ·rcases hs q hq with h|h
  ·exact (g2 _ h2 q h).1
  ·rcases (ht q h).1 with h|⟨hn,_,sz,e⟩
   ·exact .same _ _ h
   ·rw[e];exact .new _ sz hn
 ·rcases hs q hq with h|h
  ·exact hV q h
  ·exact⟨by rw[Nat.blt_eq];exact (ht q h).2.1,(ht q h).2.2⟩
 ·rcases hs q hq with h|h
  ·exact (g2 _ h2 q h).2 hn
  ·rcases (ht q h).1 with h|⟨_,h,_⟩
   ·rw[h] at hn;cases hn
   ·exact h
theorem Wk.ofP {e:Env} {L:DH} {E:List (Nat×DV)} {nx:Nat} {H:List (Nat×DObj)} (h1:wkE e L H E) (h3:wkU nx E []=true) (h4:Nat.ble L.lo nx=true) (h5:Nat.ble L.base nx=true)
  (ht:∀ q,q∈H→WkO L H q.1 q.2∧(L.get q.1=none→L.next≤q.1)∧q.1<nx∧q.2.under nx=true):Wk e L E nx H:=by
 have hU:∀ q,q∈E→q.2.under nx=true:=by
  simp only[wkU,Bool.and_eq_true,List.all_eq_true] at h3
  exact fun q hq=>h3.1 q hq
 have g1:∀ (l:List (Nat×DV)),wkE e L H l→∀ q,q∈l→WkD L H (e q.1) q.2:=by
  intro l
  induction l with
  |nil=>intro _ q hq;simp at hq
  |cons x r ih =>
   intro h q hq
   rcases List.mem_cons.1 hq with rfl|hq
   ·exact h.1
   ·exact ih h.2 q hq
 exact⟨fun q hq=>g1 E h1 q hq,fun q hq=>(ht q hq).1,hU,fun q hq=>⟨by rw[Nat.blt_eq];exact (ht q hq).2.2.1,(ht q hq).2.2.2⟩,by simpa using h4,by simpa using h5,fun q hq=>(ht q hq).2.1⟩
theorem DC.callS {f:FuncId} {args:List DV} {L:DH} {K:DV→DH→Prop} {q:DV} (n:Nat) (Hl:List (Nat×DObj)) (hag:∀ k,k<n→objsOf Hl k=L.get k) (hu:∀ q,q∈Hl→q.1<n∧q.2.under n=true) (hnx:Nat.ble n L.next=true) (hlo:Nat.ble L.lo n=true) (hargs:DV.unders n args=true)
  (h:∀ M (K':DV→DH→Prop),K' q ⟨n,L.lo,n,objsOf Hl⟩→DC P M w0.no f args ⟨n,L.lo,n,objsOf Hl⟩ K') (hK:K q L):DC P M w0 f args L K:=by
 refine DC.frame (H:=⟨n,L.lo,n,objsOf Hl⟩) hag (fun k hk => ?_) (by simpa using hnx) rfl (by simpa using hlo) (Nat.le_refl n) (fun k o hk=>(hu _ (objsOf_mem hk)).2) hargs fun M'=>h M' _ ⟨rfl,?_⟩
 ·cases hg:objsOf Hl k with
  |none=>exact hg
  |some o =>
   have:=(hu _ (objsOf_mem hg)).1
   simp only at hk this
   omega
 ·have e:L.merge ⟨n,L.lo,n,objsOf Hl⟩ n=L:=by
   cases L with
   |mk next lo base get =>
    simp only[DH.merge,DH.mk.injEq,true_and]
    funext k
    cases hk:Nat.blt k n with
    |true=>exact hag k (by simpa using hk)
    |false=>rfl
  exact e.symm▸hK
theorem DC.lendV {f:FuncId} {p:PV} {L:DH} {K:DV→DH→Prop} {k:Nat} {cs:List DV} {q:DV} (hg:L.get k=some (.var cs)) (h0:L.lo=0) (hk:k<L.next) (hr:∀ σ,DV.rens σ cs=cs) (hrk:∀ p,DV.keyss p cs=true) (hru:DV.unders 1 cs=true) (hq:∀ ρ,q.ren ρ=q)
  (h:∀ M (K':DV→DH→Prop),K' q ⟨1,0,1,objsOf [(0,.var cs)]⟩→DC P M w0.no f [.pv p,.ref 0 0] ⟨1,0,1,objsOf [(0,.var cs)]⟩ K') (hK:K q L):DC P M w0 f [.pv p,.ref k 0] L K:=by
 have hkk:Nat.beq k k=true:=Nat.beq_refl k
 refine DC.ren (H:=⟨1,0,1,objsOf [(0,.var cs)]⟩) (fun _=>k) (fun _=>0) (fun j=>Nat.beq j k) (fun j hj=>⟨hkk,?_,hk⟩) (fun j hj=>⟨Nat.zero_lt_one,(Nat.eq_of_beq_eq_true hj).symm⟩) (fun j hj => ?_) (fun j o hj ho => ?_) (fun j hj => ?_) rfl h0 (Nat.le_refl 1) (fun j o ho => ?_) ?_ rfl fun M' => ?_
 ·have:j<1:=hj
  show 0=j
  omega
 ·have:j<1:=hj
  have:j=0:=by omega
  subst this
  show some (DObj.var cs)=(L.get k).map _
  rw[hg]
  show _=some (DObj.var (DV.rens _ cs))
  rw[hr]
 ·rw[hg] at ho
  obtain rfl:=Option.some.inj ho
  exact hrk _
 ·have:1≤j:=hj
  show (bif Nat.beq j 0 then _ else none)=none
  have:Nat.beq j 0=false:=by
   cases hb:Nat.beq j 0 with
   |false=>rfl
   |true=>have:=Nat.eq_of_beq_eq_true hb;omega
  rw[this];rfl
 ·have:j=0∧o=.var cs:=by
   have ho:(bif Nat.beq j 0 then some (DObj.var cs) else none)=some o:=ho
   cases hb:Nat.beq j 0 with
   |false=>rw[hb] at ho;cases ho
   |true=>rw[hb] at ho;exact⟨Nat.eq_of_beq_eq_true hb,(Option.some.inj ho).symm⟩
  obtain⟨rfl,rfl⟩:=this
  exact hru
 ·show (true && (Nat.beq k k && true))=true
  rw[hkk];rfl
 ·refine h M' _ ⟨rfl,?_⟩
  rw[hq,merge_same]
  ·exact hK
  ·intro j hj
   have:=Nat.eq_of_beq_eq_true hj
   subst this
   show (some (DObj.var cs)).map _=L.get j
   rw[hg]
   show some (DObj.var (DV.rens _ cs))=_
   rw[hr]
theorem PureFn.res {f:FuncId} {ps:List PV} {p q:PV} (h:PureFn P f ps p) (hle:PLe p q):PureFn P f ps q :=
 PureFn.mk ⟨h.elim.1,fun M w vs hG hM hrel=>(h.elim.2 M w vs hG hM hrel).mono fun _ _ ⟨v,he,hv,hb⟩=>⟨v,he,hle.rel hv,hb⟩⟩
end
end Go.Dv
namespace Go.Proofs.YtejbieopeicgkaaGreatDoor
open Go Go.Dv
theorem red_apply0 (x:Nd) (X Y:List Nd) (hx:1≤x.op∧x.op≤13):PureFn Tryz.prog 155 [x.pv,fpv X,fpv Y] (npv (apN x X Y)):=by
 obtain⟨z,hz⟩:∃ z,apN x X Y=z:=⟨_,rfl⟩
 rw[hz]
 unfold apN at hz
 have c1:=fn_True
 have c2:=fn_False
 have c3:=fn_Fact x.i
 have c4:=fn_Not X
 have c5:=fn_And X Y
 have c6:=fn_Or X Y
 have c7:=fn_Imp X Y
 have c8:=fn_Iff X Y
 have c9:=fn_Know x.i X
 have c10:=fn_Poss x.i X
 have c11:=fn_Every x.g X
 have c12:=fn_Dist x.g X
 have c13:=fn_Common x.g X Y
 have e1:x.op=1→buildL (n0 1) []=z:=fun e=>by rw[← hz,e];exact build_one _
 have e2:x.op=2→buildL (n0 2) []=z:=fun e=>by rw[← hz,e];exact build_one _
 have e3:x.op=3→buildL (nI 3 x.i) []=z:=fun e=>by rw[← hz,e];exact build_one _
 have e4:x.op=4→buildL (n0 4) [X]=z:=fun e=>by rw[← hz,e];exact build_un _ _ rfl rfl rfl
 have e5:x.op=5→buildL (n0 5) [X,Y]=z:=fun e=>by rw[← hz,e];exact build_bin _ _ _ rfl rfl
 have e6:x.op=6→buildL (n0 6) [X,Y]=z:=fun e=>by rw[← hz,e];exact build_bin _ _ _ rfl rfl
 have e7:x.op=7→buildL (n0 7) [X,Y]=z:=fun e=>by rw[← hz,e];exact build_bin _ _ _ rfl rfl
 have e8:x.op=8→buildL (n0 8) [X,Y]=z:=fun e=>by rw[← hz,e];exact build_bin _ _ _ rfl rfl
 have e9:x.op=9→buildL (nI 9 x.i) [X]=z:=fun e=>by rw[← hz,e];exact build_un _ _ rfl rfl rfl
 have e10:x.op=10→buildL (nI 10 x.i) [X]=z:=fun e=>by rw[← hz,e];exact build_un _ _ rfl rfl rfl
 have e11:x.op=11→buildL (nG 11 x.g) [X]=z:=fun e=>by rw[← hz,e];exact build_un _ _ rfl rfl rfl
 have e12:x.op=12→buildL (nG 12 x.g) [X]=z:=fun e=>by rw[← hz,e];exact build_un _ _ rfl rfl rfl
 have e13:x.op=13→buildL (nG 13 x.g) [X,Y]=z:=fun e=>by rw[← hz,e];exact build_bin _ _ _ rfl rfl
 have d1:=fun e=>e1 e▸c1
 have d2:=fun e=>e2 e▸c2
 have d3:=fun e=>e3 e▸c3
 have d4:=fun e=>e4 e▸c4
 have d5:=fun e=>e5 e▸c5
 have d6:=fun e=>e6 e▸c6
 have d7:=fun e=>e7 e▸c7
 have d8:=fun e=>e8 e▸c8
 have d9:=fun e=>e9 e▸c9
 have d10:=fun e=>e10 e▸c10
 have d11:=fun e=>e11 e▸c11
 have d12:=fun e=>e12 e▸c12
 have d13:=fun e=>e13 e▸c13
 clear c1 c2 c3 c4 c5 c6 c7 c8 c9 c10 c11 c12 c13 e1 e2 e3 e4 e5 e6 e7 e8 e9 e10 e11 e12 e13 hz
 refine PureFn.intro mixed (fn:=Tryz.f155) rfl rfl rfl fun M w0 => ?_
 cases z with
 |nil =>
  (try conv=>whnf);repeat' (first|(apply And.intro<;>try conv=>whnf)|(intro h;try conv=>whnf)|(refine PureFn.dcq (f:=36) rfl ?_;try conv=>whnf)|(refine PureFn.dcq (f:=53) rfl ?_;try conv=>whnf)|(refine PureFn.dcq (f:=83) rfl ?_;try conv=>whnf)|(refine PureFn.dcq (f:=37) rfl ?_;try conv=>whnf)|(refine PureFn.dcq (f:=32) rfl ?_;try conv=>whnf)|(refine PureFn.dcq (f:=186) rfl ?_;try conv=>whnf)|(refine PureFn.dcq (f:=34) rfl ?_;try conv=>whnf)|(refine PureFn.dcq (f:=187) rfl ?_;try conv=>whnf)|(refine PureFn.dcq (f:=188) rfl ?_;try conv=>whnf)|(refine PureFn.dcq (f:=153) rfl ?_;try conv=>whnf)|(refine PureFn.dcq (f:=189) rfl ?_;try conv=>whnf)|(refine PureFn.dcq (f:=190) rfl ?_;try conv=>whnf)|(refine PureFn.dcq (f:=154) rfl ?_;try conv=>whnf)|(refine⟨_,_,d1 ?_,?_,?_⟩;rotate_left 1;(focus first|(refine⟨trivial⟩<;>first|exact PLe.refl _|exact PLe.nil)|exact trivial);try conv=>whnf)|(refine⟨_,_,d2 ?_,?_,?_⟩;rotate_left 1;(focus first|(refine⟨trivial⟩<;>first|exact PLe.refl _|exact PLe.nil)|exact trivial);try conv=>whnf)|(refine⟨_,_,d3 ?_,?_,?_⟩;rotate_left 1;(focus first|(refine⟨?_,trivial⟩<;>first|exact PLe.refl _|exact PLe.nil)|exact trivial);try conv=>whnf)|(refine⟨_,_,d4 ?_,?_,?_⟩;rotate_left 1;(focus first|(refine⟨?_,trivial⟩<;>first|exact PLe.refl _|exact PLe.nil)|exact trivial);try conv=>whnf)|(refine⟨_,_,d5 ?_,?_,?_⟩;rotate_left 1;(focus first|(refine⟨?_,?_,trivial⟩<;>first|exact PLe.refl _|exact PLe.nil)|exact trivial);try conv=>whnf)|(refine⟨_,_,d6 ?_,?_,?_⟩;rotate_left 1;(focus first|(refine⟨?_,?_,trivial⟩<;>first|exact PLe.refl _|exact PLe.nil)|exact trivial);try conv=>whnf)|(refine⟨_,_,d7 ?_,?_,?_⟩;rotate_left 1;(focus first|(refine⟨?_,?_,trivial⟩<;>first|exact PLe.refl _|exact PLe.nil)|exact trivial);try conv=>whnf)|(refine⟨_,_,d8 ?_,?_,?_⟩;rotate_left 1;(focus first|(refine⟨?_,?_,trivial⟩<;>first|exact PLe.refl _|exact PLe.nil)|exact trivial);try conv=>whnf)|(refine⟨_,_,d9 ?_,?_,?_⟩;rotate_left 1;(focus first|(refine⟨?_,?_,trivial⟩<;>first|exact PLe.refl _|exact PLe.nil)|exact trivial);try conv=>whnf)|(refine⟨_,_,d10 ?_,?_,?_⟩;rotate_left 1;(focus first|(refine⟨?_,?_,trivial⟩<;>first|exact PLe.refl _|exact PLe.nil)|exact trivial);try conv=>whnf)|(refine⟨_,_,d11 ?_,?_,?_⟩;rotate_left 1;(focus first|(refine⟨?_,?_,trivial⟩<;>first|exact PLe.refl _|exact PLe.nil)|exact trivial);try conv=>whnf)|(refine⟨_,_,d12 ?_,?_,?_⟩;rotate_left 1;(focus first|(refine⟨?_,?_,trivial⟩<;>first|exact PLe.refl _|exact PLe.nil)|exact trivial);try conv=>whnf)|(refine⟨_,_,d13 ?_,?_,?_⟩;rotate_left 1;(focus first|(refine⟨?_,?_,?_,trivial⟩<;>first|exact PLe.refl _|exact PLe.nil)|exact trivial);try conv=>whnf)|fail)
  all_goals first
   |exact .refl _
   |exact eq_of_beq (by with_reducible assumption)
   |(simp only[beq_eq_false_iff_ne,ne_eq] at *;omega)
 |cons a r =>
  (try conv=>whnf);repeat' (first|(apply And.intro<;>try conv=>whnf)|(intro h;try conv=>whnf)|(refine PureFn.dcq (f:=36) rfl ?_;try conv=>whnf)|(refine PureFn.dcq (f:=53) rfl ?_;try conv=>whnf)|(refine PureFn.dcq (f:=83) rfl ?_;try conv=>whnf)|(refine PureFn.dcq (f:=37) rfl ?_;try conv=>whnf)|(refine PureFn.dcq (f:=32) rfl ?_;try conv=>whnf)|(refine PureFn.dcq (f:=186) rfl ?_;try conv=>whnf)|(refine PureFn.dcq (f:=34) rfl ?_;try conv=>whnf)|(refine PureFn.dcq (f:=187) rfl ?_;try conv=>whnf)|(refine PureFn.dcq (f:=188) rfl ?_;try conv=>whnf)|(refine PureFn.dcq (f:=153) rfl ?_;try conv=>whnf)|(refine PureFn.dcq (f:=189) rfl ?_;try conv=>whnf)|(refine PureFn.dcq (f:=190) rfl ?_;try conv=>whnf)|(refine PureFn.dcq (f:=154) rfl ?_;try conv=>whnf)|(refine⟨_,_,d1 ?_,?_,?_⟩;rotate_left 1;(focus first|(refine⟨trivial⟩<;>first|exact PLe.refl _|exact PLe.nil)|exact trivial);try conv=>whnf)|(refine⟨_,_,d2 ?_,?_,?_⟩;rotate_left 1;(focus first|(refine⟨trivial⟩<;>first|exact PLe.refl _|exact PLe.nil)|exact trivial);try conv=>whnf)|(refine⟨_,_,d3 ?_,?_,?_⟩;rotate_left 1;(focus first|(refine⟨?_,trivial⟩<;>first|exact PLe.refl _|exact PLe.nil)|exact trivial);try conv=>whnf)|(refine⟨_,_,d4 ?_,?_,?_⟩;rotate_left 1;(focus first|(refine⟨?_,trivial⟩<;>first|exact PLe.refl _|exact PLe.nil)|exact trivial);try conv=>whnf)|(refine⟨_,_,d5 ?_,?_,?_⟩;rotate_left 1;(focus first|(refine⟨?_,?_,trivial⟩<;>first|exact PLe.refl _|exact PLe.nil)|exact trivial);try conv=>whnf)|(refine⟨_,_,d6 ?_,?_,?_⟩;rotate_left 1;(focus first|(refine⟨?_,?_,trivial⟩<;>first|exact PLe.refl _|exact PLe.nil)|exact trivial);try conv=>whnf)|(refine⟨_,_,d7 ?_,?_,?_⟩;rotate_left 1;(focus first|(refine⟨?_,?_,trivial⟩<;>first|exact PLe.refl _|exact PLe.nil)|exact trivial);try conv=>whnf)|(refine⟨_,_,d8 ?_,?_,?_⟩;rotate_left 1;(focus first|(refine⟨?_,?_,trivial⟩<;>first|exact PLe.refl _|exact PLe.nil)|exact trivial);try conv=>whnf)|(refine⟨_,_,d9 ?_,?_,?_⟩;rotate_left 1;(focus first|(refine⟨?_,?_,trivial⟩<;>first|exact PLe.refl _|exact PLe.nil)|exact trivial);try conv=>whnf)|(refine⟨_,_,d10 ?_,?_,?_⟩;rotate_left 1;(focus first|(refine⟨?_,?_,trivial⟩<;>first|exact PLe.refl _|exact PLe.nil)|exact trivial);try conv=>whnf)|(refine⟨_,_,d11 ?_,?_,?_⟩;rotate_left 1;(focus first|(refine⟨?_,?_,trivial⟩<;>first|exact PLe.refl _|exact PLe.nil)|exact trivial);try conv=>whnf)|(refine⟨_,_,d12 ?_,?_,?_⟩;rotate_left 1;(focus first|(refine⟨?_,?_,trivial⟩<;>first|exact PLe.refl _|exact PLe.nil)|exact trivial);try conv=>whnf)|(refine⟨_,_,d13 ?_,?_,?_⟩;rotate_left 1;(focus first|(refine⟨?_,?_,?_,trivial⟩<;>first|exact PLe.refl _|exact PLe.nil)|exact trivial);try conv=>whnf)|fail)
  all_goals first
   |exact .refl _
   |exact eq_of_beq (by with_reducible assumption)
   |(simp only[beq_eq_false_iff_ne,ne_eq] at *;omega)
theorem red_apply (x:Nd) (X Y:List Nd) (hx:1≤x.op∧x.op≤13):PureFn Tryz.prog 155 [x.pv,fpv X,fpv Y] (fpv (apN x X Y)):=(red_apply0 x X Y hx).res (npv_le _)
theorem opn_idx {x:Nd} {n:Nat} (h:OkNd x n) (h0:n≠0):(∃ k:Nat,x.x=k∧k<n∧x.x.toNat=k)∧∃ k:Nat,x.y=k∧k<n∧x.y.toNat=k:=by
 constructor
 ·cases hu:usesX x.op with
  |true=>have:=h.x hu;exact⟨x.x.toNat,by omega,by omega,rfl⟩
  |false=>have:=h.nox hu;exact⟨0,by omega,by omega,by omega⟩
 ·cases hu:usesY x.op with
  |true=>have:=h.y hu;exact⟨x.y.toNat,by omega,by omega,rfl⟩
  |false=>have:=h.noy hu;exact⟨0,by omega,by omega,by omega⟩
theorem fget {l:List (List Nd)} {k:Nat} (h:k<l.length):(l.map fpv)[k]? = some (fpv (l.getD k [])):=by
 rw[List.getElem?_map,getD_mem h (d:=[])];rfl
theorem op_own (x:Nd) (l:List (List Nd)) (hk:OkNd x l.length) (M:Nat→Prop) (w0:W0) (base:Nat) (K:DV→DH→Prop)
  (hK0:l=[]→K (.tup [.pv .nil,.pv .nil]) ⟨1,0,base,objsOf [(0,.arr 1 (l.map fpv))]⟩) (hK:l≠[]→K (.tup [.pv (fpv (l.getD x.x.toNat [])),.pv (fpv (l.getD x.y.toNat []))]) ⟨1,0,base,objsOf [(0,.arr 1 (l.map fpv))]⟩) :
  DC Tryz.prog M w0 118 [.buf 0 (l.map fpv).length,.agg x.dvs] ⟨1,0,base,objsOf [(0,.arr 1 (l.map fpv))]⟩ K:=by
 refine DC.weaken (DC.intro mixed (fn:=Tryz.f118) rfl rfl rfl ?_)
 (try conv=>whnf);repeat' (first|(apply And.intro<;>try conv=>whnf)|(intro h;try conv=>whnf)|(refine lin_plan (by kernel_rfl) ?_;try conv=>whnf)|fail)
 ·have hl:l=[]:=by
   have:(((l.map fpv).length:Nat):Int)=0:=by simpa using h
   rw[List.length_map] at this
   exact List.eq_nil_of_length_eq_zero (by omega)
  exact⟨.tup [.pv .nil,.pv .nil],1,[(0,.arr 1 (l.map fpv))],(by exact Wk.sm rfl rfl rfl rfl rfl),hK0 hl⟩
 ·have hl:l.length≠0:=by
   intro e
   rw[List.length_map,e] at h
   exact absurd h (by decide)
  have hlm:(l.map fpv).length=l.length:=List.length_map _
  obtain⟨⟨a,a1,a2,a3⟩,hb⟩:=opn_idx hk hl
  have hK:=hK (by rintro rfl;exact hl rfl)
  refine⟨a,a1,by omega,?_⟩
  (try conv=>whnf);repeat' (first|(apply And.intro<;>try conv=>whnf)|fail)
  refine⟨_,fget a2,?_⟩
  (try conv=>whnf);repeat' (first|(apply And.intro<;>try conv=>whnf)|fail)
  obtain⟨b,b1,b2,b3⟩:=hb
  rw[a3,b3] at hK
  refine⟨b,b1,by omega,?_⟩
  (try conv=>whnf);repeat' (first|(apply And.intro<;>try conv=>whnf)|fail)
  refine⟨_,fget b2,?_⟩
  try conv=>whnf
  exact⟨.tup [.pv (fpv (l.getD a [])),.pv (fpv (l.getD b []))],1,[(0,.arr 1 (l.map fpv))],(by exact Wk.sm rfl rfl rfl rfl rfl),hK⟩
theorem red_static (f:List Nd):PureFn Tryz.prog 87 [fpv f] (.bool (nand64' (frags f:Nat) 15==0)):=by
 refine PureFn.intro mixed (fn:=Tryz.f87) rfl rfl rfl fun M w0 => ?_
 (try conv=>whnf);repeat' (first|(refine PureFn.dcq (f:=104) rfl ?_;try conv=>whnf)|(refine⟨_,_,fm_Frags ?_,?_,?_⟩;rotate_left 1;(focus first|(refine⟨?_,trivial⟩<;>first|exact PLe.refl _|exact PLe.nil)|exact trivial);try conv=>whnf)|fail)
 exact .refl _
theorem map_snoc {l:List (List Nd)} {z:List Nd}:l.map fpv++[fpv z]=(l++[z]).map fpv:=by rw[List.map_append];rfl
theorem redE_yes {α:Type} {d:α} {h:Nd→α→α→α×Int} {c:List Nd} {l:List α} {i:Nat} {x:Nd} {z:α} {e:Int} (hx:c[i]? = some x) (hz:h x (l.getD x.x.toNat d) (l.getD x.y.toNat d)=(z,e)) (h0:e=0) :
  redE d h (c.drop i) l=redE d h (c.drop (i+1)) (l++[z]):=by rw[redE_drop hx,hz,h0];rfl
theorem redE_no {α:Type} {d:α} {h:Nd→α→α→α×Int} {c:List Nd} {l:List α} {i:Nat} {x:Nd} {z:α} {e:Int} (hx:c[i]? = some x) (hz:h x (l.getD x.x.toNat d) (l.getD x.y.toNat d)=(z,e)) (h0:(e != 0)=true) :
  redE d h (c.drop i) l=([],e):=by rw[redE_drop hx,hz];show (bif e != 0 then _ else _)=_;rw[h0];rfl
theorem le_pairF {a b:List Nd×Int} (h:a=b):PLe (pairF a) (pairF b):=h▸.refl _
def stB (f:List Nd):Bool:=nand64' (frags f:Nat) 15==0
theorem stB_ops {f:List Nd} (h:stB f=true):∀ x,x∈comp f→x.op≤13:=fun x hx=>by
 have hfr:frags f<2^62:=Nat.lt_of_lt_of_le (frags_lt f) (by decide)
 have h1:frags f<16:=(frag_low hfr).1 (by simpa [stB] using h)
 have h2:fragN x≤frags f:=orN_le hx
 obtain⟨k,hk⟩:=okl_mem (comp_okl f) hx
 have ho:=hk.op
 have key:∀ op:Nat,op<22→(frag (op:Int)).toNat<16→op≤13:=by decide
 have:=key x.op.toNat (by omega) (by rw[show ((x.op.toNat:Nat):Int)=x.op by omega];show fragN x<16;omega)
 omega
theorem allW_is:∀ n:Nat,n<9→allW n=2^n-1:=by decide +kernel
def tL:List Nd:=buildL (n0 1) []
def fL:List Nd:=buildL (n0 2) []
def conA (l:List (List Nd)):List Nd:=joinL 5 tL l
def disA (l:List (List Nd)):List Nd:=joinL 6 fL l
def sees (a:Act) (i e:Nat):List Nat:=evsL ((a.rel.getD i []).getD e 0) a.pre.length
def meetL (a:Act) (g:Int):List Nat:=togL (fun x y=>x&&&y) a g (allW a.pre.length)
def grpL (a:Act) (g:Int):List Nat:=(List.range a.rel.length).filter fun j=>and64 (shr64 g j) 1==1
def knoL (a:Act) (i e:Nat) (X:List (List Nd)):List Nd:=conA ((sees a i e).map fun d=>buildL (nI 9 i) [X.getD d []])
def evBod (a:Act) (e:Nat) (x:Nd) (X Y:List (List Nd)):List Nd :=
 bif x.op==3 then (valI a e x.i).1
 else bif x.op==9 then knoL a x.i.toNat e X
 else bif x.op==10 then disA ((sees a x.i.toNat e).map fun d=>buildL (nI 10 x.i) [conL (a.pre.getD d []) (X.getD d [])])
 else bif x.op==11 then conA ((grpL a x.g).map fun j=>knoL a j e X)
 else bif x.op==12 then conA ((evsL ((meetL a x.g).getD e 0) a.pre.length).map fun d=>buildL (nG 12 x.g) [X.getD d []])
 else apN x (X.getD e []) (Y.getD e [])
def evRow (a:Act) (x:Nd) (X Y:List (List Nd)):List (List Nd):=(List.range a.pre.length).map fun e=>impL (a.pre.getD e []) (evBod a e x X Y)
def evHd (a:Act) (x:Nd) (X Y:List (List Nd)):List (List Nd)×Int:=(evRow a x X Y,bif (evRow a x X Y).any List.isEmpty then 8 else 0)
def aftF (a:Act) (ev:Nat) (c:List Nd):List Nd×Int :=
 bif (redE [] (evHd a) c []).2 != 0 then ([],(redE [] (evHd a) c []).2) else (((redE [] (evHd a) c []).1.getD ((redE [] (evHd a) c []).1.length-1) []).getD ev [],0)
theorem evs_lt {s n d:Nat} (h:d∈evsL s n):d<n:=List.mem_range.1 (List.mem_filter.1 h).1
theorem any_empty {l:List (List Nd)}:l.any List.isEmpty=false↔∀ z,z∈l→z≠[]:=by
 rw[List.any_eq_false]
 constructor
 ·intro h z hz e;subst e;exact h _ hz rfl
 ·intro h z hz e;exact h z hz (List.isEmpty_iff.1 e)
end Go.Proofs.YtejbieopeicgkaaGreatDoor
