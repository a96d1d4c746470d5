/- Parts of the proof, one after the other: The checker of the program walked: Sets, Holds, At, Valid. The checker of the program walked: Holds, At, Valid. Products: Worlds of the program walked. Products: Update of the program walked. Products: Update of the program walked. Models: the reference's All, Check, Same, Few walked. Products: At of the program walked; the examples of the law. Lists taken element by element. The number of trailing zeros: the library's function walked, over its table. Models: the members of a set, and Restrict of the program walked. The members of a set, handed on one by one: the iterator of the program walked. Reductions: what is known of a formula that a constructor returned (plain). Formulas: constructors, where nothing is told from an empty list. Reductions of announcements: what they are (plain). The layer Dv, part 23: a call sees a part of the heap, under other numbers. -/
import Derived.Test.YtejbieopeicgkaaGreatDoorChecked
import Derived.WalkKit
import Derived.Laws.Bits64b
import Derived.Lib.TrailingZeros
import Derived.TacticsIn
import Derived.BigFrameIn
import Derived.RangeFuncSeq
import Derived.Test.YtejbieopeicgkaaGreatDoorM7
set_option maxRecDepth 100000
set_option maxHeartbeats 4000000
namespace Go.Proofs.YtejbieopeicgkaaGreatDoor
open Go Go.Dv
def arrG (N:Nat) (g:Nat×Bool->PV) (acc:List (Nat×Bool)):List PV:=(List.range N).map fun j=>g (acc.getD j (0,false))
theorem arrG_len (N:Nat) (g:Nat×Bool->PV) (acc:List (Nat×Bool)):(arrG N g acc).length=N:=by simp[arrG]
theorem arrG_get {N:Nat} {g:Nat×Bool->PV} {acc:List (Nat×Bool)} {j:Nat} (h:j<N):(arrG N g acc)[j]? = some (g (acc.getD j (0,false))):=by
 simp[arrG,List.getElem?_map,List.getElem?_range h]
theorem getD_snoc {acc:List (Nat×Bool)} {v:Nat×Bool} {j:Nat}:(acc++[v]).getD j (0,false)=if j=acc.length then v else acc.getD j (0,false):=by
 rw[List.getD_eq_getElem?_getD,List.getD_eq_getElem?_getD]
 by_cases h:j=acc.length
 ·subst h;simp
 ·rw[if_neg h]
  by_cases q:j<acc.length
  ·rw[List.getElem?_append_left q]
  ·rw[List.getElem?_eq_none (by simp;omega),List.getElem?_eq_none (by omega)]
theorem arrG_set {N:Nat} {g:Nat×Bool->PV} {acc:List (Nat×Bool)} {v:Nat×Bool} {i:Nat} (hi:i<N) (hl:acc.length=i):(arrG N g acc).set i (g v)=arrG N g (acc++[v]):=by
 apply List.ext_getElem?;intro j;rw[List.getElem?_set,arrG_len]
 by_cases hj:j<N
 ·rw[arrG_get hj,arrG_get hj,getD_snoc,hl]
  by_cases e:i=j
  ·subst e;simp[hi]
  ·rw[if_neg e,if_neg (fun h=>e h.symm)]
 ·rw[List.getElem?_eq_none (by rw[arrG_len];omega),List.getElem?_eq_none (by rw[arrG_len];omega)];rw[if_neg (show ¬ i=j by omega)]
theorem arrG_skip {N:Nat} {g:Nat×Bool->PV} {acc:List (Nat×Bool)}:arrG N g (acc++[(0,false)])=arrG N g acc:=by
 apply List.map_congr_left;intro j _;rw[getD_snoc]
 split
 ·rename_i h;rw[List.getD_eq_getElem?_getD,List.getElem?_eq_none (by omega)];rfl
 ·rfl
theorem arrG_nil (N:Nat) (g:Nat×Bool->PV):arrG N g []=List.replicate N (g (0,false)):=by
 apply List.ext_getElem (by simp[arrG]);intro i h1 h2;simp[arrG]
theorem arrG_full {N:Nat} {g:Nat×Bool->PV} {acc:List (Nat×Bool)} (h:acc.length=N):arrG N g acc=acc.map g:=by subst h;exact map_getD rfl
def gS (v:Nat×Bool):PV:=u64 v.1
def gF (v:Nat×Bool):PV:=.bool v.2
def setsI (m:Mo) (f:List Nd):List Nat×Int:=bif reqI m f != 0 then ([],reqI m f) else ((z0m m m.n.toNat f).map (·.1),0)
def setsPV (x:List Nat×Int):PV:=.tup [q0b x.1,.int .i64 x.2]
theorem setsV_lt {m:Mo} {n:Nat} (hM:OkM m n) (f:List Nd):∀ v,v∈z0m m n f->v.1<2^n:=by
 have key:∀ (l:List Nd) (acc:List (Nat×Bool)),(∀ v,v∈acc->v.1<2^n)->∀ v,v∈l.foldl (fun acc x=>acc++[nodeV m n acc x]) acc->v.1<2^n:=by
  intro l
  induction l with
  |nil=>intro acc h;exact h
  |cons x r ih =>
   intro acc h;refine ih _ fun v hv => ?_
   rcases List.mem_append.1 hv with hv|hv
   ·exact h v hv
   ·rw[List.mem_singleton.1 hv]
    have hg:∀ j,(acc.getD j (0,false)).1<2^n:=fun j=>by
     rw[List.getD_eq_getElem?_getD]
     cases hq:acc[j]? with
     |none=>exact Nat.two_pow_pos n
     |some w=>exact h w (List.mem_iff_getElem?.2 ⟨j,hq⟩)
    unfold nodeV
    cases okV acc x with
    |false=>exact Nat.two_pow_pos n
    |true =>
     show (valV m n x _ _).1<2^n
     unfold valV
     cases fitQ m x.op x.i x.e x.g with
     |false=>exact Nat.two_pow_pos n
     |true=>exact vlN_lt hM.vbits (hg _) (hg _)
 exact key f [] (by simp)
theorem ck_Sets (m:Mo) (f:List Nd) (hf:FitM m):PureFn Tryz.prog 94 [m.pv,fpv f] (setsPV (setsI m f)):=by
 refine PureFn.introC [4,6,12,14,16] mixed (fn:=Tryz.f94) rfl rfl rfl fun M w0 => ?_
 have hR:=ck_request m f hf
 try conv=>whnf
 refine⟨{ _x:Unit // (reqI m f != 0)=false },fun _=>[(1,.pv (fpv f)),(2,.ref 0 0)],fun _=>1,fun _=>HM m,?_,?_⟩
 ·(try conv=>whnf);repeat' (first|((first|apply And.intro|intro h)<;>try conv=>whnf)|(refine PureFn.dy hR rfl ?_;try conv=>whnf)|fail)
  ·rw[setsI,h];exact PLe.tups ⟨.nil,.refl _,trivial⟩
  ·exact⟨⟨(),h⟩,(by exact Wk.s rfl)⟩
 rintro⟨_,h0⟩;obtain⟨⟨n,hM⟩,hst⟩:=reqI_ok (show reqI m f=0 by simpa using h0);have hch:=(statM_iff.1 hst).1;have hok:=check_okl hch;have hfl:f.length<=200:=(y0h hch).2.1;have hres:setsI m f=((z0m m n f).map (·.1),0):=by rw[setsI,h0,hM.nn,Int.toNat_natCast];rfl
 rw[hres];clear hres;have hN:((f.map Nd.pv).length:Int).toNat=f.length:=by rw[List.length_map];rfl
 have hz1:List.replicate ((f.map Nd.pv).length:Int).toNat (PV.int .u64 0)=arrG f.length gS []:=by rw[arrG_nil,hN];rfl
 have hz2:List.replicate ((f.map Nd.pv).length:Int).toNat (PV.bool false)=arrG f.length gF []:=by rw[arrG_nil,hN];rfl
 have hbig:((f.map Nd.pv).length:Int)<=(big:Int):=by
  show ((f.map Nd.pv).length:Int)<=4294967296
  rw[List.length_map];omega
 (try conv=>whnf);repeat' (first|(apply And.intro<;>try conv=>whnf)|(apply Or.inl;try conv=>whnf)|fail)
 ·rfl
 ·exact Int.natCast_nonneg _
 ·exact hbig
 refine⟨Unit,fun _=>[(1,.pv (fpv f)),(2,.ref 0 0),(7,.buf 1 (arrG f.length gS []).length),(8,.buf 2 (arrG f.length gF []).length)],fun _=>3,fun _=>[(0,.var (q0e m)),(1,.arr 1 (arrG f.length gS [])),(2,.arr 1 (arrG f.length gF []))],?_,?_⟩
 ·(try conv=>whnf);repeat' (first|(apply And.intro<;>try conv=>whnf)|(apply Or.inl;try conv=>whnf)|fail)
  ·rfl
  ·exact Int.natCast_nonneg _
  ·exact hbig
  refine⟨(),?_⟩
  (refine Wk.of ?_ ?_ rfl rfl rfl<;>repeat' (first|exact trivial|exact WkD.same _|exact WkO.same _ _ rfl|refine⟨?_,?_⟩|fail))
  ·exact WkD.eq (congrArg (fun z:List PV=>DV.buf 1 z.length) hz1)
  ·exact WkD.eq (congrArg (fun z:List PV=>DV.buf 2 z.length) hz2)
  ·exact WkO.same _ _ (congrArg (fun z=>some (DObj.arr 1 z)) hz1)
  ·exact WkO.same _ _ (congrArg (fun z=>some (DObj.arr 1 z)) hz2)
 rintro⟨⟩
 try conv=>whnf
 have hvl:=setsV_lt hM;refine⟨{ i:Nat // i<=f.length },fun i=>[(2,.ref 0 0),(7,.buf 1 (arrG f.length gS (z0m m n (f.take i.1))).length),(8,.buf 2 (arrG f.length gF (z0m m n (f.take i.1))).length),(24,.pv (fpv f)),(25,.pv (i64 (f.map Nd.pv).length)),(26,.pv (i64 i.1))],fun _=>3,fun i=>[(0,.var (q0e m)),(1,.arr 1 (arrG f.length gS (z0m m n (f.take i.1)))),(2,.arr 1 (arrG f.length gF (z0m m n (f.take i.1))))],fun i=>f.length-i.1,⟨⟨0,Nat.zero_le _⟩,(by exact Wk.s rfl)⟩,?_⟩;rintro⟨i,hi⟩;have hA2:=fun (h:i<f.length)=>setsV_take (m:=m) (n:=n) h
 have hAl:=setsV_len (m:=m) (n:=n) (f:=f) i hi
 have hAb:∀ j,((z0m m n (f.take i)).getD j (0,false)).1<2^n:=fun j=>by
  rw[List.getD_eq_getElem?_getD]
  cases hq:(z0m m n (f.take i))[j]? with
  |none=>exact Nat.two_pow_pos n
  |some w=>exact setsV_lt hM _ w (List.mem_iff_getElem?.2 ⟨j,hq⟩)
 have hfin:z0m m n f=z0m m n (f.take f.length):=by rw[List.take_length]
 (try conv=>whnf);repeat' (first|((first|apply And.intro|intro h)<;>try conv=>whnf)|(apply bleI;rfl))
 ·have hi':i<f.length:=by simpa using q0j h
  have hx:f[i]? = some f[i]:=List.getElem?_eq_getElem hi';have hk:=hok i _ hx;have hA3:=hA2 hi';clear hA2;refine⟨Unit,fun _=>[(2,.ref 0 0),(7,.buf 1 (arrG f.length gS (z0m m n (f.take (i+1)))).length),(8,.buf 2 (arrG f.length gF (z0m m n (f.take (i+1)))).length),(24,.pv (fpv f)),(25,.pv (i64 (f.map Nd.pv).length)),(26,.pv (i64 i))],fun _=>3,fun _=>[(0,.var (q0e m)),(1,.arr 1 (arrG f.length gS (z0m m n (f.take (i+1))))),(2,.arr 1 (arrG f.length gF (z0m m n (f.take (i+1)))))],?_,?_⟩
  ·rw[hA3];clear hA3;generalize f[i]=x at hx hk |-;obtain⟨op,io,eo,g,xx,yy⟩:=x
   obtain⟨X,rfl,hXi⟩:∃ X:Nat,xx=X/\X<f.length:=by
    cases hu:q0n op with
    |true=>have:=hk.x hu;simp only at this;exact⟨xx.toNat,by omega,by omega⟩
    |false=>have:=hk.nox hu;simp only at this;exact⟨0,this,by omega⟩
   obtain⟨Y,rfl,hYi⟩:∃ Y:Nat,yy=Y/\Y<f.length:=by
    cases hu:q0o op with
    |true=>have:=hk.y hu;simp only at this;exact⟨yy.toNat,by omega,by omega⟩
    |false=>have:=hk.noy hu;simp only at this;exact⟨0,this,by omega⟩
   (try conv=>whnf);repeat' (first|(apply And.intro<;>try conv=>whnf)|(apply q0i;rfl)|(refine⟨_,_,rfl,q0a (by with_reducible assumption),rfl,?_⟩;try conv=>whnf)|fail)
   refine⟨Unit,fun _=>[(2,.ref 0 0),(7,.buf 1 (arrG f.length gS (z0m m n (f.take i))).length),(8,.buf 2 (arrG f.length gF (z0m m n (f.take i))).length),(9,.pv (i64 i)),(10,.ref 3 0),(11,.pv (.bool (bif decide (op>=4) then ((z0m m n (f.take i)).getD X (0,false)).2 else true))),(24,.pv (fpv f)),(25,.pv (i64 (f.map Nd.pv).length)),(26,.pv (i64 i))],fun _=>4,fun _=>[(0,.var (q0e m)),(1,.arr 1 (arrG f.length gS (z0m m n (f.take i)))),(2,.arr 1 (arrG f.length gF (z0m m n (f.take i)))),(3,.var (cellsN op io eo g X Y))],?_,?_⟩
   ·(try conv=>whnf);repeat' (first|((first|apply And.intro|intro h)<;>try conv=>whnf))
    ·rw[show decide (op>=4)=true from h];refine⟨X,rfl,by rw[arrG_len];exact hXi,?_⟩
     (try conv=>whnf);repeat' (first|(apply And.intro<;>try conv=>whnf))
     refine⟨_,arrG_get hXi,?_⟩
     try conv=>whnf
     exact⟨(),(by exact Wk.s rfl)⟩
    ·rw[show decide (op>=4)=false from h];exact⟨(),(by exact Wk.s rfl)⟩
   rintro⟨⟩;refine⟨Unit,fun _=>[(2,.ref 0 0),(7,.buf 1 (arrG f.length gS (z0m m n (f.take i))).length),(8,.buf 2 (arrG f.length gF (z0m m n (f.take i))).length),(9,.pv (i64 i)),(10,.ref 3 0),(11,.pv (.bool (okV (z0m m n (f.take i)) ⟨op,io,eo,g,X,Y⟩))),(24,.pv (fpv f)),(25,.pv (i64 (f.map Nd.pv).length)),(26,.pv (i64 i))],fun _=>4,fun _=>[(0,.var (q0e m)),(1,.arr 1 (arrG f.length gS (z0m m n (f.take i)))),(2,.arr 1 (arrG f.length gF (z0m m n (f.take i)))),(3,.var (cellsN op io eo g X Y))],?_,?_⟩
   ·have hokv:okV (z0m m n (f.take i)) ⟨op,io,eo,g,X,Y⟩=bif usY op then (bif (bif decide (op>=4) then ((z0m m n (f.take i)).getD X (0,false)).2 else true) then ((z0m m n (f.take i)).getD Y (0,false)).2 else false) else (bif decide (op>=4) then ((z0m m n (f.take i)).getD X (0,false)).2 else true):=rfl
    rw[hokv];generalize (bif decide (op>=4) then ((z0m m n (f.take i)).getD X (0,false)).2 else true)=c1
    (try conv=>whnf);repeat' (first|((first|apply And.intro|intro h)<;>try conv=>whnf)|apply True.intro|(apply WhenQ.mk;(try conv=>whnf);rotate_left;(try conv=>whnf);rotate_right)|with_reducible assumption|(apply q0x;with_reducible assumption))
    ·refine⟨Y,rfl,by rw[arrG_len];exact hYi,?_⟩
     (try conv=>whnf);repeat' (first|(apply And.intro<;>try conv=>whnf))
    ·(try conv=>whnf);repeat' (first|(apply And.intro<;>try conv=>whnf))
     refine⟨_,arrG_get hYi,?_⟩
     (try conv=>whnf);repeat' (first|(apply And.intro<;>try conv=>whnf))
    ·(try conv=>whnf);repeat' (first|((first|apply And.intro|intro h)<;>try conv=>whnf)|with_reducible assumption)
     rw[show usY op=true from h];exact⟨(),(by exact Wk.s rfl)⟩
    ·rw[show usY op=false from h];exact⟨(),(by exact Wk.s rfl)⟩
   rintro⟨⟩;have hnv:nodeV m n (z0m m n (f.take i)) ⟨op,io,eo,g,X,Y⟩=bif okV (z0m m n (f.take i)) ⟨op,io,eo,g,X,Y⟩ then valV m n ⟨op,io,eo,g,X,Y⟩ ((z0m m n (f.take i)).getD X (0,false)).1 ((z0m m n (f.take i)).getD Y (0,false)).1 else (0,false):=rfl
   have hV:=ck_value m n hM ⟨op,io,eo,g,X,Y⟩ i hk _ _ (hAb X) (hAb Y);rw[hnv];generalize okV (z0m m n (f.take i)) ⟨op,io,eo,g,X,Y⟩=c2
   (try conv=>whnf);repeat' (first|((first|apply And.intro|intro h)<;>try conv=>whnf))
   ·rw[show c2=true from h,cond_true];have hs1:=arrG_set (g:=gS) (v:=valV m n ⟨op,io,eo,g,X,Y⟩ ((z0m m n (f.take i)).getD X (0,false)).1 ((z0m m n (f.take i)).getD Y (0,false)).1) hi' hAl;have hs2:=arrG_set (g:=gF) (v:=valV m n ⟨op,io,eo,g,X,Y⟩ ((z0m m n (f.take i)).getD X (0,false)).1 ((z0m m n (f.take i)).getD Y (0,false)).1) hi' hAl;have hll:=fun (g:Nat×Bool->PV) (B:List (Nat×Bool))=>(arrG_len f.length g (z0m m n (f.take i))).trans (arrG_len f.length g B).symm
    refine⟨Plan.lin 0 24,[21,23],by kernel_rfl,?_⟩
    (try conv=>whnf);repeat' (first|(apply And.intro<;>try conv=>whnf))
    refine⟨X,rfl,by rw[arrG_len];exact hXi,?_⟩
    (try conv=>whnf);repeat' (first|(apply And.intro<;>try conv=>whnf))
    refine⟨_,arrG_get hXi,?_⟩
    (try conv=>whnf);repeat' (first|(apply And.intro<;>try conv=>whnf))
    refine⟨Y,rfl,by rw[arrG_len];exact hYi,?_⟩
    (try conv=>whnf);repeat' (first|(apply And.intro<;>try conv=>whnf))
    refine⟨_,arrG_get hYi,?_⟩
    (try conv=>whnf);repeat' (first|(apply And.intro<;>try conv=>whnf)|(refine⟨_,(by (conv=>whnf);exact hV),rfl,?_⟩;try conv=>whnf)|fail)
    refine⟨i,rfl,by rw[arrG_len];exact hi',?_⟩
    (try conv=>whnf);repeat' (first|(apply And.intro<;>try conv=>whnf))
    refine⟨_,arrG_get hi',Nat.le_refl 1,?_⟩
    (try conv=>whnf);repeat' (first|(apply And.intro<;>try conv=>whnf))
    refine⟨i,rfl,by rw[arrG_len];exact hi',?_⟩
    (try conv=>whnf);repeat' (first|(apply And.intro<;>try conv=>whnf))
    refine⟨_,arrG_get hi',Nat.le_refl 1,?_⟩
    try conv=>whnf
    refine⟨(),?_⟩
    (refine Wk.of ?_ ?_ rfl rfl rfl<;>repeat' (first|exact trivial|exact WkD.same _|exact WkO.same _ _ rfl|refine⟨?_,?_⟩|fail))
    ·exact WkD.eq (congrArg (DV.buf 1) (hll gS _))
    ·exact WkD.eq (congrArg (DV.buf 2) (hll gF _))
    ·exact WkO.same _ _ (congrArg (fun z=>some (DObj.arr 1 z)) hs1)
    ·exact WkO.same _ _ (congrArg (fun z=>some (DObj.arr 1 z)) hs2)
   ·rw[show c2=false from h,cond_false,arrG_skip,arrG_skip];exact⟨(),(by exact Wk.s rfl)⟩
  rintro⟨⟩
  try conv=>whnf
  exact⟨⟨i+1,hi'⟩,by show f.length-(i+1)<f.length-i;omega,(by refine Wk.of ?_ ?_ rfl rfl rfl<;>repeat' (first|exact trivial|exact WkD.same _|exact WkO.same _ _ rfl|refine WkD.int ?_|refine⟨?_,?_⟩|(apply q0h;(focus simp;done);all_goals (try dsimp only);omega)|fail))⟩
 ·have hi':i=f.length:=by have:=q0k (m:=(f.map Nd.pv).length) h (by simpa using hi);simpa using this
  subst hi';rw[hfin];refine PLe.tups ⟨?_,.refl _,trivial⟩
  show PLe (.sl (arrG f.length gS (z0m m n (f.take f.length)))) (q0b ((z0m m n (f.take f.length)).map (·.1)))
  rw[arrG_full hAl,q0b,List.map_map];exact .refl _
def holdsPV (x:Nat×Int):PV:=.tup [u64 x.1,.int .i64 x.2]
theorem ck_Holds (m:Mo) (f:List Nd) (hf:FitM m):PureFn Tryz.prog 41 [m.pv,fpv f] (holdsPV (holdsI m f)):=by
 have hS:=ck_Sets m f hf
 cases h0:(reqI m f != 0) with
 |true =>
  rw[setsI,h0] at hS;have hS:PureFn Tryz.prog 94 [m.pv,fpv f] (.tup [q0b [],.int .i64 (reqI m f)]):=hS;rw[holdsI,h0];refine PureFn.intro mixed (fn:=Tryz.f41) rfl rfl rfl fun M w0 => ?_
  (try conv=>whnf);repeat' (first|(apply And.intro<;>try conv=>whnf)|(intro h;first|with_reducible exact tf (by assumption) h|try conv=>whnf)|(refine PureFn.dy hS rfl ?_;try conv=>whnf)|fail)
  exact .refl _
 |false =>
  obtain⟨⟨n,hM⟩,hst⟩:=reqI_ok (show reqI m f=0 by simpa using h0);have hch:=(statM_iff.1 hst).1;have hfl:f.length<=200:=(y0h hch).2.1;have hp:1<=f.length:=(y0h hch).1;have hlen:(z0m m n f).length=f.length:=by have:=setsV_len (m:=m) (n:=n) (f:=f) f.length (Nat.le_refl _);rwa [List.take_length] at this
  obtain⟨v,hv,hv1⟩:=last_V (n:=n) hM.ag hst;rw[setsI,h0,hM.nn,Int.toNat_natCast] at hS;rw[holdsI,h0,hM.nn,Int.toNat_natCast,<- hv1];have hl2:(((z0m m n f).map (·.1)).length:Int)=(f.length:Int):=by rw[List.length_map,hlen]
  have hidx:((z0m m n f).map (·.1))[f.length-1]? = some v.1:=q0a hv;have hS:PureFn Tryz.prog 94 [m.pv,fpv f] (.tup [q0b ((z0m m n f).map (·.1)),.int .i64 0]):=hS;generalize (z0m m n f).map (·.1)=L at hS hl2 hidx;have hl3:((L.map u64).length:Int)=(f.length:Int):=by rw[List.length_map];exact hl2
  refine PureFn.intro mixed (fn:=Tryz.f41) rfl rfl rfl fun M w0 => ?_
  (try conv=>whnf);repeat' (first|((first|apply And.intro|intro h)<;>try conv=>whnf)|(apply q0i;rfl)|(refine PureFn.dy hS rfl ?_;try conv=>whnf)|fail)
  ·cases h
  refine⟨f.length-1,_,?_,q0a hidx,rfl,?_⟩
  ·show IntKind.wrap .i64 (((L.map u64).length:Int)-1)=((f.length-1:Nat):Int)
   rw[hl3,Go.Dv.wrap_small (by omega) (by omega)];omega
  try conv=>whnf
  exact .refl _
def HMA (m:Mo) (a:Act):List (Nat×DObj):=[(0,.var (q0e m)),(1,.var (q0c a))]
theorem pr_Worlds (m:Mo) (a:Act) (hf:FitM m) (hfa:Fit a) (hl:a.rel.length<=1000) (hp:∀ l,l∈a.post->l.length<=1000):PureFn Tryz.prog 59 [m.pv,a.pv] (worldsPV (z0q m a)):=by
 refine PureFn.introC [4,7,8,16,26] mixed (fn:=Tryz.f59) rfl rfl rfl fun M w0 => ?_
 have hC:=md_Check m hf;have hK:=ac_Check a (m.rel.length:Nat) (m.val.length:Nat) hfa hl hp;rw[show PV.int .i64 ((m.rel.length:Nat):Int)=.int .i64 ((m.rel.map q0b).length:Nat) by rw[List.length_map],show PV.int .i64 ((m.val.length:Nat):Int)=.int .i64 ((m.val.map u64).length:Nat) by rw[List.length_map]] at hK
 try conv=>whnf
 refine⟨{ _x:Unit // (moI m != 0)=false },fun _=>[(2,.ref 0 0),(3,.ref 1 0)],fun _=>2,fun _=>HMA m a,?_,?_⟩
 ·(try conv=>whnf);repeat' (first|((first|apply And.intro|intro h)<;>try conv=>whnf)|(refine PureFn.dy hC rfl ?_;try conv=>whnf)|fail)
  ·have h9:moaI m a=moI m:=by rw[moaI,h];rfl
   rw[z0q,h9,h];exact le_worlds _
  ·exact⟨⟨(),h⟩,(by exact Wk.s rfl)⟩
 rintro⟨_,h1⟩;have hmo:moaI m a=actI a (m.rel.length:Int) (m.val.length:Int):=by rw[moaI,h1];rfl
 refine⟨{ _x:Unit // (moaI m a != 0)=false },fun _=>[(2,.ref 0 0),(3,.ref 1 0)],fun _=>2,fun _=>HMA m a,?_,?_⟩
 ·(try conv=>whnf);repeat' (first|((first|apply And.intro|intro h)<;>try conv=>whnf)|(refine PureFn.dy hK rfl ?_;try conv=>whnf)|fail)
  ·have h9:(moaI m a != 0)=true:=by rw[hmo];exact h
   rw[z0q,h9,hmo];exact le_worlds _
  ·exact⟨⟨(),by rw[hmo];exact h⟩,(by exact Wk.s rfl)⟩
 rintro⟨_,h2⟩;have h20:moaI m a=0:=by simpa using h2
 obtain⟨⟨n,hM⟩,hAc⟩:=moaI_ok h20;have hO:=actI_ok hAc;have hn8:=hO.n8;have hn1:=hO.n1;have hn64:=hM.n64;have hres:z0q m a=bif ((z0o m a).length:Int)==0 then ([],11) else (z0o m a,0):=by rw[z0q,h2];rfl
 have hpl:z0o m a=pairsW (possP m a) a.pre.length n:=by rw[z0o,hM.nn];rfl
 rw[hres,hpl];clear hres hpl;have hph:=fun (e:Nat) (he:e<a.pre.length)=>pre_holds h20 he
 rw[hM.nn,Int.toNat_natCast] at hph;generalize hpe:possP m a=p at hph |-;have hN:((a.pre.map fpv).length:Int).toNat=a.pre.length:=by rw[List.length_map];rfl
 have hz1:List.replicate ((a.pre.map fpv).length:Int).toNat (PV.int .u64 0)=mixV a.pre.length (fun e=>u64 (p e)) (fun _=>u64 0) 0:=by rw[hN];exact mixV_rep _ _ _
 have hbig:((a.pre.map fpv).length:Int)<=(big:Int):=by
  show ((a.pre.map fpv).length:Int)<=4294967296
  rw[List.length_map];omega
 have hml:=mixV_len a.pre.length (fun e=>u64 (p e)) (fun _=>u64 0);refine⟨Unit,fun _=>[(2,.ref 0 0),(3,.ref 1 0),(8,.buf 2 (mixV a.pre.length (fun e=>u64 (p e)) (fun _=>u64 0) 0).length)],fun _=>3,fun _=>[(0,.var (q0e m)),(1,.var (q0c a)),(2,.arr 1 (mixV a.pre.length (fun e=>u64 (p e)) (fun _=>u64 0) 0))],?_,?_⟩
 ·(try conv=>whnf);repeat' (first|(apply And.intro<;>try conv=>whnf)|(apply Or.inl;try conv=>whnf)|fail)
  ·rfl
  ·exact Int.natCast_nonneg _
  ·exact hbig
  refine⟨(),?_⟩
  (refine Wk.of ?_ ?_ rfl rfl rfl<;>repeat' (first|exact trivial|exact WkD.same _|exact WkO.same _ _ rfl|refine⟨?_,?_⟩|fail))
  ·exact WkD.eq (congrArg (fun z:List PV=>DV.buf 2 z.length) hz1)
  ·exact WkO.same _ _ (congrArg (fun z=>some (DObj.arr 1 z)) hz1)
 rintro⟨⟩;clear hz1 hN hbig;refine⟨Unit,fun _=>[(2,.ref 0 0),(8,.pv (.sl (mixV a.pre.length (fun e=>u64 (p e)) (fun _=>u64 0) a.pre.length)))],fun _=>3,fun _=>[(0,.var (q0e m))],?_,?_⟩
 ·try conv=>whnf
  refine⟨{ i:Nat // i<=a.pre.length },fun i=>[(2,.ref 0 0),(3,.ref 1 0),(8,.buf 2 (mixV a.pre.length (fun e=>u64 (p e)) (fun _=>u64 0) i.1).length),(38,.pv (.sl (a.pre.map fpv))),(39,.pv (i64 (a.pre.map fpv).length)),(40,.pv (i64 i.1))],fun _=>3,fun i=>[(0,.var (q0e m)),(1,.var (q0c a)),(2,.arr 1 (mixV a.pre.length (fun e=>u64 (p e)) (fun _=>u64 0) i.1))],fun i=>a.pre.length-i.1,⟨⟨0,Nat.zero_le _⟩,(by exact Wk.s rfl)⟩,?_⟩;rintro⟨i,hi⟩;have hmi:=hml i;have hmi1:=hml (i+1)
  (try conv=>whnf);repeat' (first|((first|apply And.intro|intro h)<;>try conv=>whnf)|(apply q0i;rfl))
  ·have hi':i<a.pre.length:=by simpa using q0j h
   obtain⟨f,hn,hw⟩:∃ f,a.pre[i]? = some f/\a.pre.getD i []=f:=⟨_,q0f hi',rfl⟩;obtain⟨hh,hlt⟩:=hph i hi';have hH:=ck_Holds m f hf;rw[hw] at hh;rw[hh] at hH;have hst:=mixV_set (n:=a.pre.length) (p:=fun e=>u64 (p e)) (q:=fun _=>u64 0) (e:=i);refine⟨_,_,rfl,q0a hn,rfl,?_⟩
   (try conv=>whnf);repeat' (first|((first|apply And.intro|intro h)<;>try conv=>whnf)|(refine PureFn.dy hH rfl ?_;try conv=>whnf)|fail)
   ·cases h
   refine⟨i,rfl,by rw[hmi];exact hi',?_⟩
   (try conv=>whnf);repeat' (first|(apply And.intro<;>try conv=>whnf))
   refine⟨_,mixV_old hi',Nat.le_refl 1,?_⟩
   try conv=>whnf
   refine⟨⟨i+1,hi'⟩,by show a.pre.length-(i+1)<a.pre.length-i;omega,?_⟩
   (refine Wk.of ?_ ?_ rfl rfl rfl<;>repeat' (first|exact trivial|exact WkD.same _|exact WkO.same _ _ rfl|refine WkD.int ?_|refine⟨?_,?_⟩|(apply q0h;(focus simp;done);all_goals (try dsimp only);omega)|fail))
   ·exact WkD.eq (congrArg (DV.buf 2) (hmi.trans hmi1.symm))
   ·exact WkO.same _ _ (congrArg (fun z=>some (DObj.arr 1 z)) hst)
  ·have hi':i=a.pre.length:=by have:=q0k (m:=(a.pre.map fpv).length) h (by simpa using hi);simpa using this
   subst hi';exact⟨(),(by refine Wk.of ?_ ?_ rfl rfl rfl<;>repeat' (first|exact trivial|exact WkD.same _|exact WkO.same _ _ rfl|exact WkD.fz _ _ _ rfl (Or.inl ⟨_,rfl⟩) rfl|refine⟨?_,?_⟩|fail))⟩
 rintro⟨⟩
 have hPl:∀ w e,w<=n->e<=a.pre.length->((z0u p a.pre.length w e).map q0g).length<=1000:=fun w e hw he=>by
  have h1:=pairsW_len p a.pre.length w;have h2:=pairsE_len p w e;have h3:w*a.pre.length<=64*8:=Nat.mul_le_mul (by omega) hn8;rw[List.length_map,z0u,List.length_append];omega
 have hmN:=hml a.pre.length;have hmnn:=hM.nn
 try conv=>whnf
 refine⟨Unit,fun _=>[(13,.pv (.sl ((z0u p a.pre.length n 0).map q0g)))],fun _=>4,fun _=>[],?_,?_⟩
 ·try conv=>whnf
  refine⟨{ w:Nat // w<=n },fun w=>[(2,.ref 0 0),(8,.pv (.sl (mixV a.pre.length (fun e=>u64 (p e)) (fun _=>u64 0) a.pre.length))),(13,.buf 3 ((z0u p a.pre.length w.1 0).map q0g).length),(14,.pv (i64 w.1))],fun _=>4,fun w=>[(0,.var (q0e m)),(3,.arr 2 ((z0u p a.pre.length w.1 0).map q0g))],fun w=>n-w.1,⟨⟨0,Nat.zero_le _⟩,(by refine Wk.of ?_ ?_ rfl rfl rfl<;>repeat' (first|exact trivial|exact WkD.same _|exact WkO.same _ _ rfl|exact WkD.new' rfl rfl rfl|exact WkO.new _ _ rfl|exact rfl|refine⟨?_,?_⟩|fail))⟩,?_⟩;rintro⟨w,hw⟩
  try conv=>whnf
  refine⟨{ e:Nat // e<=a.pre.length/\(w=n->e=0) },fun e=>[(2,.ref 0 0),(8,.pv (.sl (mixV a.pre.length (fun e=>u64 (p e)) (fun _=>u64 0) a.pre.length))),(13,.buf 3 ((z0u p a.pre.length w e.1).map q0g).length),(14,.pv (i64 w)),(61,.pv (.sl (mixV a.pre.length (fun e=>u64 (p e)) (fun _=>u64 0) a.pre.length))),(62,.pv (i64 (mixV a.pre.length (fun e=>u64 (p e)) (fun _=>u64 0) a.pre.length).length)),(63,.pv (i64 e.1))],fun _=>4,fun e=>[(0,.var (q0e m)),(3,.arr 2 ((z0u p a.pre.length w e.1).map q0g))],fun e=>a.pre.length-e.1,⟨⟨0,Nat.zero_le _,fun _=>rfl⟩,(by exact Wk.s rfl)⟩,?_⟩;rintro⟨e,he,hwe⟩;have hple:=hPl w e hw he
  (try conv=>whnf);repeat' (first|((first|apply And.intro|intro h)<;>try conv=>whnf)|(apply q0i;rfl))
  ·have he':e<a.pre.length:=by have:=q0j h;rwa [hmN] at this
   obtain⟨_,hlt⟩:=hph e he';have h64:p e<2^64:=Nat.lt_of_lt_of_le hlt (z0j hn64);have hsu:=pairsB_succ p a.pre.length w e;refine⟨e,_,rfl,mixV_new he' he',rfl,?_⟩;have hb0:w≠n->(andU (shrU (p e) w) 1==0)=!(p e).testBit w:=fun hwn=>bit_zero h64 (by omega)
   (try conv=>whnf);repeat' (first|((first|apply And.intro|intro h)<;>try conv=>whnf)|(apply q0p;rfl)|(apply szI;rfl))
   ·have hwn:w=n:=by
     have:(w:Int)=m.n:=by simpa using h
     omega
    subst hwn;obtain rfl:e=0:=hwe rfl;exact⟨(),(by refine Wk.of ?_ ?_ rfl rfl rfl<;>repeat' (first|exact trivial|exact WkD.fz _ _ _ rfl (Or.inl ⟨_,rfl⟩) rfl|refine⟨?_,?_⟩|fail))⟩
   ·exact Int.natCast_nonneg _
   ·rename_i hw9
    have hwn:w≠n:=fun e=>by
     have:¬ (w:Int)=m.n:=by simpa using hw9
     omega
    have ht:(p e).testBit w=false:=by
     have:(!(p e).testBit w)=true:=by rw[<- hb0 hwn];exact h
     simpa using this
    rw[ht,cond_false] at hsu;refine⟨⟨e+1,he',fun q=>absurd q hwn⟩,by show a.pre.length-(e+1)<a.pre.length-e;omega,?_⟩
    (refine Wk.of ?_ ?_ rfl rfl rfl<;>repeat' (first|exact trivial|exact WkD.same _|exact WkO.same _ _ rfl|refine WkD.int ?_|refine⟨?_,?_⟩|(apply q0h;(focus simp;done);all_goals (try dsimp only);omega)|fail))
    ·exact WkD.eq (congrArg (fun l:List (Nat×Nat)=>DV.buf 3 (l.map q0g).length) hsu.symm)
    ·exact WkO.same _ _ (congrArg (fun l:List (Nat×Nat)=>some (DObj.arr 2 (l.map q0g))) hsu.symm)
   ·exact z0l (n:=1000) hple (by decide)
   ·rename_i hw9
    have hwn:w≠n:=fun e=>by
     have:¬ (w:Int)=m.n:=by simpa using hw9
     omega
    have ht:(p e).testBit w=true:=by
     have:(!(p e).testBit w)=false:=by rw[<- hb0 hwn];exact h
     simpa using this
    rw[ht,cond_true] at hsu;have er:(z0u p a.pre.length w e).map q0g++[.agg [.int .i64 (w:Int),.int .i64 (e:Int)]]=(z0u p a.pre.length w (e+1)).map q0g:=by rw[hsu,List.map_append];rfl
    refine⟨⟨e+1,he',fun q=>absurd q hwn⟩,by show a.pre.length-(e+1)<a.pre.length-e;omega,?_⟩
    (refine Wk.of ?_ ?_ rfl rfl rfl<;>repeat' (first|exact trivial|exact WkD.same _|exact WkO.same _ _ rfl|exact WkD.eq (congrArg (fun z:List PV=>DV.buf _ z.length) er)|exact WkO.same _ _ (congrArg (fun z=>some (DObj.arr _ z)) er)|refine WkD.int ?_|refine⟨?_,?_⟩|(apply q0h;(focus simp;done);all_goals (try dsimp only);omega)|fail))
  ·have he':e=a.pre.length:=by have:=q0k h (by rw[hmN];exact he);rwa [hmN] at this
   have hwn:w<n:=by
    rcases Nat.lt_or_ge w n with q|q
    ·exact q
    ·have:=hwe (by omega);omega
   subst he';have hew:z0u p a.pre.length w a.pre.length=z0u p a.pre.length (w+1) 0:=by rw[pairsB_full,pairsB_zero]
   try conv=>whnf
   refine⟨⟨w+1,hwn⟩,by show n-(w+1)<n-w;omega,?_⟩
   (refine Wk.of ?_ ?_ rfl rfl rfl<;>repeat' (first|exact trivial|exact WkD.same _|exact WkO.same _ _ rfl|refine WkD.int ?_|refine⟨?_,?_⟩|(apply q0h;(focus simp;done);all_goals (try dsimp only);omega)|fail))
   ·exact WkD.eq (congrArg (fun l:List (Nat×Nat)=>DV.buf 3 (l.map q0g).length) hew)
   ·exact WkO.same _ _ (congrArg (fun l:List (Nat×Nat)=>some (DObj.arr 2 (l.map q0g))) hew)
 rintro⟨⟩;rw[<- pairsB_zero];generalize z0u p a.pre.length n 0=L;have e9:((L.map q0g).length:Int)=(L.length:Int):=by simp
 (try conv=>whnf);repeat' (first|((first|apply And.intro|intro h)<;>try conv=>whnf))
 ·rw[show ((L.length:Int)==0)=true by rw[<- e9];exact h];exact le_worlds _
 ·rw[show ((L.length:Int)==0)=false by rw[<- e9];exact h];exact .refl _
def cells0:List DV:=[.pv (.int .i64 0),.pv .nil,.pv .nil]
def pairD (q:Nat×Nat):List DV:=[.pv (i64 q.1),.pv (i64 q.2)]
def HV (m:Mo) (a:Act) (l:List (Nat×Nat)) (vs vl:List Nat):List (Nat×DObj) :=
 [(0,.var (q0e m)),(1,.var (q0c a)),(2,.var cells0),(3,.var [.pv (.sl (l.map q0g))]),(4,.var [.pv (i64 (l.map q0g).length),.buf 5 (vs.map u64).length,.pv .nil]),(5,.arr 1 (vs.map u64)),(7,.var [.pv (q0b vl)])]
theorem upd2 {M:Nat->Prop} {w0:W0} (m:Mo) (a:Act) (l:List (Nat×Nat)) (vs vl:List Nat) (q:Nat×Nat) (h1:q.1<64) (h2:q.2<vl.length) (hv:∀ s,s∈vl->s<2^64) (base:Nat) (K:DV->DH->Prop) (hK:K (.pv (.bool ((vl.getD q.2 0).testBit q.1))) ⟨8,0,base,objsOf (HV m a l vs vl)⟩) :
  DC Tryz.prog M w0 62 [.agg (pairD q),.ref 7 0] ⟨8,0,base,objsOf (HV m a l vs vl)⟩ K:=by
 refine DC.weaken (DC.intro mixed (fn:=Tryz.f62) rfl rfl rfl ?_);obtain⟨x,hx,hw⟩:∃ x,vl[q.2]? = some x/\vl.getD q.2 0=x:=⟨_,q0f h2,rfl⟩;have hx64:=hv x (List.mem_iff_getElem?.2 ⟨_,hx⟩);rw[hw,<- bit_one hx64 h1] at hK
 (try conv=>whnf);repeat' (first|(apply And.intro<;>try conv=>whnf)|(apply q0i;rfl)|(refine q0w (by kernel_rfl) ?_;try conv=>whnf)|(refine⟨_,_,rfl,q0a (by with_reducible assumption),rfl,?_⟩;try conv=>whnf)|fail)
 ·exact Int.natCast_nonneg _
 ·exact⟨_,8,HV m a l vs vl,(by exact Wk.s rfl),hK⟩
def HW (m:Mo) (a:Act) (l:List (Nat×Nat)) (vs:List Nat) (rs:List (List Nat)) (i:Nat) (r:List Nat) (mx:List PV) (x:Nat×Nat):List (Nat×DObj) :=
 [(0,.var (q0e m)),(1,.var (q0c a)),(2,.var cells0),(3,.var [.pv (.sl (l.map q0g))]),(4,.var [.pv (i64 (l.map q0g).length),.pv (q0b vs),.buf 5 (rs.map q0b).length]),(5,.arr 1 (rs.map q0b)),(6,.var [.pv (i64 i)]),(7,.var [.pv (q0b r)]),(8,.arr 1 mx),(9,.var (pairD x))]
theorem upd3 {M:Nat->Prop} {w0:W0} (m:Mo) (a:Act) (l:List (Nat×Nat)) (vs:List Nat) (rs:List (List Nat)) (i:Nat) (r:List Nat) (mx:List PV) (x q:Nat×Nat) (ra:List Nat) (hra:a.rel[i]? = some ra)
  (hx1:x.1<r.length) (hx2:x.2<ra.length) (hq1:q.1<64) (hq2:q.2<64) (hr:∀ s,s∈r->s<2^64) (hr2:∀ s,s∈ra->s<2^64) (base:Nat) (K:DV->DH->Prop) (hK:K (.pv (.bool (seesP r ra x q))) ⟨10,0,base,objsOf (HW m a l vs rs i r mx x)⟩) :
  DC Tryz.prog M w0 63 [.agg (pairD q),.ref 7 0,.ref 9 0,.ref 1 0,.ref 6 0] ⟨10,0,base,objsOf (HW m a l vs rs i r mx x)⟩ K:=by
 refine DC.weaken (DC.intro mixed (fn:=Tryz.f63) rfl rfl rfl ?_);obtain⟨u,hu,hw⟩:∃ u,r[x.1]? = some u/\r.getD x.1 0=u:=⟨_,q0f hx1,rfl⟩;obtain⟨v,hv,hw2⟩:∃ v,ra[x.2]? = some v/\ra.getD x.2 0=v:=⟨_,q0f hx2,rfl⟩;have hu64:=hr u (List.mem_iff_getElem?.2 ⟨_,hu⟩);have hv64:=hr2 v (List.mem_iff_getElem?.2 ⟨_,hv⟩);rw[seesP,hw,hw2,<- bit_one hu64 hq1,<- bit_one hv64 hq2] at hK
 (try conv=>whnf);repeat' (first|((first|apply And.intro|intro h)<;>try conv=>whnf)|apply True.intro|(apply q0i;rfl)|(apply WhenQ.mk;(try conv=>whnf);rotate_left;(try conv=>whnf);rotate_right)|with_reducible assumption|(refine q0w (by kernel_rfl) ?_;try conv=>whnf)|(refine⟨_,_,rfl,q0a (by with_reducible assumption),rfl,?_⟩;try conv=>whnf)|fail)
 ·exact Int.natCast_nonneg _
 ·exact Int.natCast_nonneg _
 ·exact⟨_,10,HW m a l vs rs i r mx x,(by exact Wk.s rfl),hK⟩
theorem whr_V {M:Nat->Prop} {w0:W0} (m:Mo) (a:Act) (l:List (Nat×Nat)) (vs vl:List Nat) (hlp:∀ y,y∈l->y.1<64/\y.2<vl.length) (hv:∀ s,s∈vl->s<2^64) (hl:l.length<=64) (base:Nat) (K:DV->DH->Prop) (hK:K (.pv (u64 (z0g (fun k=>(fun q:Nat×Nat=>(vl.getD q.2 0).testBit q.1) (l.getD k (0,0))) l.length))) ⟨8,0,base,objsOf (HV m a l vs vl)⟩) :
  DC Tryz.prog M w0 60 [.clo 62 [] [.ref 7 0],.ref 3 0] ⟨8,0,base,objsOf (HV m a l vs vl)⟩ K:=by
 refine DC.weaken (DC.intro mixed (fn:=Tryz.f60) rfl rfl rfl ?_)
 try conv=>whnf
 refine⟨{ i:Nat // i<=l.length },fun i=>[(0,.clo 62 [] [.ref 7 0]),(4,.pv (u64 (z0g (fun k=>(fun q:Nat×Nat=>(vl.getD q.2 0).testBit q.1) (l.getD k (0,0))) i.1))),(7,.pv (.sl (l.map q0g))),(8,.pv (i64 (l.map q0g).length)),(9,.pv (i64 i.1))],fun _=>8,fun _=>HV m a l vs vl,fun i=>l.length-i.1,⟨⟨0,Nat.zero_le _⟩,(by exact Wk.s rfl)⟩,?_⟩;rintro⟨j,hj⟩
 (try conv=>whnf);repeat' (first|((first|apply And.intro|intro h)<;>try conv=>whnf)|(apply q0i;rfl))
 ·have hj':j<l.length:=by simpa using q0j h
  obtain⟨y,hy,hyw⟩:∃ y,l[j]? = some y/\l.getD j (0,0)=y:=⟨_,q0f hj',rfl⟩;have hym:y∈l:=List.mem_iff_getElem?.2 ⟨j,hy⟩;refine⟨_,_,rfl,q0a hy,rfl,?_⟩
  try conv=>whnf
  refine DC.call 8 (HV m a l vs vl) ⟨rfl,rfl,rfl,rfl,rfl,rfl,rfl,rfl,trivial⟩ rfl rfl rfl rfl fun M' => ?_
  refine upd2 m a l vs vl y (hlp y hym).1 (hlp y hym).2 hv _ _ ?_;refine⟨rfl,?_⟩
  (try conv=>whnf);repeat' (first|((first|apply And.intro|intro h)<;>try conv=>whnf))
  ·exact Int.natCast_nonneg _
  ·have hq:(fun q:Nat×Nat=>(vl.getD q.2 0).testBit q.1) (l.getD j (0,0))=true:=by rw[hyw];exact h
   refine⟨⟨j+1,hj'⟩,by show l.length-(j+1)<l.length-j;omega,?_⟩
   (refine Wk.of ?_ ?_ rfl rfl rfl<;>repeat' (first|exact trivial|exact WkD.same _|exact WkO.same _ _ rfl|refine WkD.int ?_|refine⟨?_,?_⟩|(apply q0h;(focus simp;done);all_goals (try dsimp only);omega)|fail))
   exact or_shl (q:=fun k=>(fun q:Nat×Nat=>(vl.getD q.2 0).testBit q.1) (l.getD k (0,0))) (w:=j) (by omega) hq
  ·have hq:(fun q:Nat×Nat=>(vl.getD q.2 0).testBit q.1) (l.getD j (0,0))=false:=by rw[hyw];exact h
   refine⟨⟨j+1,hj'⟩,by show l.length-(j+1)<l.length-j;omega,?_⟩
   (refine Wk.of ?_ ?_ rfl rfl rfl<;>repeat' (first|exact trivial|exact WkD.same _|exact WkO.same _ _ rfl|refine WkD.int ?_|refine⟨?_,?_⟩|(apply q0h;(focus simp;done);all_goals (try dsimp only);omega)|fail))
   exact congrArg (fun z:Nat=>(z:Int)) (mask_no (q:=fun k=>(fun q:Nat×Nat=>(vl.getD q.2 0).testBit q.1) (l.getD k (0,0))) hq)
 ·have hj':j=l.length:=by have:=q0k (m:=(l.map q0g).length) h (by simpa using hj);simpa using this
  subst hj';exact⟨_,8,HV m a l vs vl,(by exact Wk.s rfl),hK⟩
theorem whr_W {M:Nat->Prop} {w0:W0} (m:Mo) (a:Act) (l:List (Nat×Nat)) (vs:List Nat) (rs:List (List Nat)) (i:Nat) (r:List Nat) (mx:List PV) (x:Nat×Nat) (ra:List Nat) (hra:a.rel[i]? = some ra) (hx1:x.1<r.length) (hx2:x.2<ra.length) (hlp:∀ y,y∈l->y.1<64/\y.2<64) (hr:∀ s,s∈r->s<2^64) (hr2:∀ s,s∈ra->s<2^64) (hl:l.length<=64) (base:Nat) (K:DV->DH->Prop) (hK:K (.pv (u64 (z0g (fun k=>(fun q:Nat×Nat=>seesP r ra x q) (l.getD k (0,0))) l.length))) ⟨10,0,base,objsOf (HW m a l vs rs i r mx x)⟩) :
  DC Tryz.prog M w0 60 [.clo 63 [] [.ref 7 0,.ref 9 0,.ref 1 0,.ref 6 0],.ref 3 0] ⟨10,0,base,objsOf (HW m a l vs rs i r mx x)⟩ K:=by
 refine DC.weaken (DC.intro mixed (fn:=Tryz.f60) rfl rfl rfl ?_)
 try conv=>whnf
 refine⟨{ i:Nat // i<=l.length },fun i=>[(0,.clo 63 [] [.ref 7 0,.ref 9 0,.ref 1 0,.ref 6 0]),(4,.pv (u64 (z0g (fun k=>(fun q:Nat×Nat=>seesP r ra x q) (l.getD k (0,0))) i.1))),(7,.pv (.sl (l.map q0g))),(8,.pv (i64 (l.map q0g).length)),(9,.pv (i64 i.1))],fun _=>10,fun _=>HW m a l vs rs i r mx x,fun i=>l.length-i.1,⟨⟨0,Nat.zero_le _⟩,(by exact Wk.s rfl)⟩,?_⟩;rintro⟨j,hj⟩
 (try conv=>whnf);repeat' (first|((first|apply And.intro|intro h)<;>try conv=>whnf)|(apply q0i;rfl))
 ·have hj':j<l.length:=by simpa using q0j h
  obtain⟨y,hy,hyw⟩:∃ y,l[j]? = some y/\l.getD j (0,0)=y:=⟨_,q0f hj',rfl⟩;have hym:y∈l:=List.mem_iff_getElem?.2 ⟨j,hy⟩;refine⟨_,_,rfl,q0a hy,rfl,?_⟩
  try conv=>whnf
  refine DC.call 10 (HW m a l vs rs i r mx x) ⟨rfl,rfl,rfl,rfl,rfl,rfl,rfl,rfl,rfl,rfl,trivial⟩ rfl rfl rfl rfl fun M' => ?_
  refine upd3 m a l vs rs i r mx x y ra hra hx1 hx2 (hlp y hym).1 (hlp y hym).2 hr hr2 _ _ ?_;refine⟨rfl,?_⟩
  (try conv=>whnf);repeat' (first|((first|apply And.intro|intro h)<;>try conv=>whnf))
  ·exact Int.natCast_nonneg _
  ·have hq:(fun q:Nat×Nat=>seesP r ra x q) (l.getD j (0,0))=true:=by rw[hyw];exact h
   refine⟨⟨j+1,hj'⟩,by show l.length-(j+1)<l.length-j;omega,?_⟩
   (refine Wk.of ?_ ?_ rfl rfl rfl<;>repeat' (first|exact trivial|exact WkD.same _|exact WkO.same _ _ rfl|refine WkD.int ?_|refine⟨?_,?_⟩|(apply q0h;(focus simp;done);all_goals (try dsimp only);omega)|fail))
   exact or_shl (q:=fun k=>(fun q:Nat×Nat=>seesP r ra x q) (l.getD k (0,0))) (w:=j) (by omega) hq
  ·have hq:(fun q:Nat×Nat=>seesP r ra x q) (l.getD j (0,0))=false:=by rw[hyw];exact h
   refine⟨⟨j+1,hj'⟩,by show l.length-(j+1)<l.length-j;omega,?_⟩
   (refine Wk.of ?_ ?_ rfl rfl rfl<;>repeat' (first|exact trivial|exact WkD.same _|exact WkO.same _ _ rfl|refine WkD.int ?_|refine⟨?_,?_⟩|(apply q0h;(focus simp;done);all_goals (try dsimp only);omega)|fail))
   exact congrArg (fun z:Nat=>(z:Int)) (mask_no (q:=fun k=>(fun q:Nat×Nat=>seesP r ra x q) (l.getD k (0,0))) hq)
 ·have hj':j=l.length:=by have:=q0k (m:=(l.map q0g).length) h (by simpa using hj);simpa using this
  subst hj';exact⟨_,10,HW m a l vs rs i r mx x,(by exact Wk.s rfl),hK⟩
def vsU (m:Mo) (a:Act) (l:List (Nat×Nat)) (i:Nat):List Nat:=(List.range i).map (valP m a l)
def rsU (m:Mo) (a:Act) (l:List (Nat×Nat)) (i:Nat):List (List Nat):=(List.range i).map (relP m a l)
theorem vsU_succ (m:Mo) (a:Act) (l:List (Nat×Nat)) (i:Nat):vsU m a l (i+1)=vsU m a l i++[valP m a l i]:=by rw[vsU,List.range_succ,List.map_append];rfl
theorem rsU_succ (m:Mo) (a:Act) (l:List (Nat×Nat)) (i:Nat):rsU m a l (i+1)=rsU m a l i++[relP m a l i]:=by rw[rsU,List.range_succ,List.map_append];rfl
def vlU (m:Mo) (a:Act) (i:Nat):List Nat:=(List.range a.pre.length).map fun e=>valuP m a e i
theorem vlU_get {m:Mo} {a:Act} {i e:Nat} (h:e<a.pre.length):(vlU m a i).getD e 0=valuP m a e i:=by
 rw[vlU,List.getD_eq_getElem?_getD,List.getElem?_map,List.getElem?_range h];rfl
def updPlan:Plan:=.one 2 (.one 3 (.two 0 (.two 1 (.one 4 (.one 5 (.one 6 (.one 7 (.one 8 .done))))) 4 (.one 1 (.one 5 (.one 6 (.one 7 (.one 8 .done)))))) 4 (.one 0 (.one 1 (.one 5 (.one 6 (.one 7 (.one 8 .done))))))))
theorem pr_Update (m:Mo) (a:Act) (hf:FitM m) (hfa:Fit a) (hl:a.rel.length<=1000) (hp:∀ l,l∈a.post->l.length<=1000):PureFn Tryz.prog 18 [m.pv,a.pv] (updPV (updI m a)):=by
 refine PureFn.introC [4,6,20,22,31,33] mixed (fn:=Tryz.f18) rfl rfl rfl fun M w0 => ?_
 have hW:=pr_Worlds m a hf hfa hl hp;obtain⟨l,e,hX⟩:∃ l e,z0q m a=(l,e):=⟨_,_,rfl⟩;have hwo:=worldsI_ok (m:=m) (a:=a);rw[updI];rw[hX] at hW hwo |-;clear hX;have e9:((l.map q0g).length:Int)=(l.length:Int):=by simp
 (try conv=>whnf);repeat' (first|(refine PureFn.dy hW rfl ?_;try conv=>whnf)|fail)
 refine⟨{ _x:Unit // (e != 0)=false },fun _=>[(2,.ref 0 0),(3,.ref 1 0),(4,.ref 2 0),(7,.ref 3 0)],fun _=>4,fun _=>[(0,.var (q0e m)),(1,.var (q0c a)),(2,.var cells0),(3,.var [.pv (.sl (l.map q0g))])],?_,?_⟩
 ·(try conv=>whnf);repeat' (first|((first|apply And.intro|intro h)<;>try conv=>whnf))
  ·rw[show (((l,e):List (Nat×Nat)×Int).2 != 0)=true from h];exact le_upd _
  ·exact⟨⟨(),h⟩,(by exact Wk.s rfl)⟩
 rintro⟨_,h1⟩;obtain⟨hma,hpl,hl1⟩:=hwo (show e=0 by simpa using h1);obtain⟨⟨n,hM⟩,hAc⟩:=moaI_ok hma;have hO:=actI_ok hAc;have hn8:=hO.n8;have hn64:=hM.n64;have hfa8:=hM.fa;have hag:=hM.ag;have hpl:l=z0o m a:=hpl
 have hmem:∀ y,y∈l->y.1<n/\y.2<a.pre.length:=fun y hy=>by
  rw[hpl,z0o,hM.nn] at hy;have:=pairsW_mem.1 hy;exact⟨this.1,this.2.1⟩
 clear hpl hl1;refine⟨{ _x:Unit // decide ((l.length:Int)>64)=false },fun _=>[(2,.ref 0 0),(3,.ref 1 0),(4,.ref 2 0),(7,.ref 3 0)],fun _=>4,fun _=>[(0,.var (q0e m)),(1,.var (q0c a)),(2,.var cells0),(3,.var [.pv (.sl (l.map q0g))])],?_,?_⟩
 ·(try conv=>whnf);repeat' (first|((first|apply And.intro|intro h)<;>try conv=>whnf))
  ·have h9:decide ((l.length:Int)>64)=true:=by rw[<- e9];exact h
   rw[show (((l,e):List (Nat×Nat)×Int).2 != 0)=false from h1,show decide ((((l,e):List (Nat×Nat)×Int).1.length:Int)>64)=true from h9];exact le_upd _
  ·exact⟨⟨(),by rw[<- e9];exact h⟩,(by exact Wk.s rfl)⟩
 rintro⟨_,h2⟩;have hl64:l.length<=64:=by have:=of_decide_eq_false h2;omega
 have hres:(bif (((l,e):List (Nat×Nat)×Int).2 != 0) then (noMo,([]:List (Nat×Nat)),((l,e):List (Nat×Nat)×Int).2) else bif decide ((((l,e):List (Nat×Nat)×Int).1.length:Int)>64) then (noMo,[],8) else (prodM m a ((l,e):List (Nat×Nat)×Int).1,((l,e):List (Nat×Nat)×Int).1,(0:Int)))=(prodM m a l,l,0):=by
  rw[show (((l,e):List (Nat×Nat)×Int).2 != 0)=false from h1,show decide ((((l,e):List (Nat×Nat)×Int).1.length:Int)>64)=false from h2];rfl
 rw[hres];clear hres
 try conv=>whnf
 refine⟨Unit,fun _=>[(2,.ref 0 0),(3,.ref 1 0),(4,.ref 2 0),(7,.ref 3 0),(9,.clo 60 [] [.ref 3 0]),(10,.ref 4 0)],fun _=>5,fun _=>[(0,.var (q0e m)),(1,.var (q0c a)),(2,.var cells0),(3,.var [.pv (.sl (l.map q0g))]),(4,.var [.pv (i64 (l.map q0g).length),.pv (q0b (vsU m a l m.val.length)),.pv .nil])],?_,?_⟩
 ·try conv=>whnf
  refine⟨{ i:Nat // i<=m.val.length },fun i=>[(2,.ref 0 0),(3,.ref 1 0),(4,.ref 2 0),(7,.ref 3 0),(9,.clo 60 [] [.ref 3 0]),(10,.ref 4 0),(41,.pv (i64 (m.val.map u64).length)),(42,.pv (i64 i.1))],fun _=>6,fun i=>[(0,.var (q0e m)),(1,.var (q0c a)),(2,.var cells0),(3,.var [.pv (.sl (l.map q0g))]),(4,.var [.pv (i64 (l.map q0g).length),.buf 5 ((vsU m a l i.1).map u64).length,.pv .nil]),(5,.arr 1 ((vsU m a l i.1).map u64))],fun i=>m.val.length-i.1,⟨⟨0,Nat.zero_le _⟩,(by refine Wk.of ?_ ?_ rfl rfl rfl<;>repeat' (first|exact trivial|exact WkD.same _|exact WkO.same _ _ rfl|exact WkD.new' rfl rfl rfl|exact WkO.new _ _ rfl|refine WkO.vars rfl ?_|exact rfl|refine⟨?_,?_⟩|fail))⟩,?_⟩;rintro⟨i,hi⟩
  (try conv=>whnf);repeat' (first|((first|apply And.intro|intro h)<;>try conv=>whnf)|(apply Or.inl;try conv=>whnf)|fail)
  ·rfl
  ·exact Int.natCast_nonneg _
  ·show ((a.pre.map fpv).length:Int)<=4294967296
   rw[List.length_map];omega
  ·have hi':i<m.val.length:=by simpa using q0j h
   have hN:((a.pre.map fpv).length:Int).toNat=a.pre.length:=by rw[List.length_map];rfl
   have hz1:List.replicate ((a.pre.map fpv).length:Int).toNat (PV.int .u64 0)=(mixV a.pre.length (fun e=>u64 (valuP m a e i)) (fun _=>u64 0) 0):=by rw[hN];exact mixV_rep _ _ _
   have hmlv:=mixV_len a.pre.length (fun e=>u64 (valuP m a e i)) (fun _=>u64 0);refine⟨Unit,fun _=>[(2,.ref 0 0),(3,.ref 1 0),(4,.ref 2 0),(7,.ref 3 0),(9,.clo 60 [] [.ref 3 0]),(10,.ref 4 0),(12,.ref 7 0),(41,.pv (i64 (m.val.map u64).length)),(42,.pv (i64 i))],fun _=>8,fun _=>[(0,.var (q0e m)),(1,.var (q0c a)),(2,.var cells0),(3,.var [.pv (.sl (l.map q0g))]),(4,.var [.pv (i64 (l.map q0g).length),.buf 5 ((vsU m a l i).map u64).length,.pv .nil]),(5,.arr 1 ((vsU m a l i).map u64)),(7,.var [.pv (.sl (mixV a.pre.length (fun e=>u64 (valuP m a e i)) (fun _=>u64 0) a.pre.length))])],?_,?_⟩
   ·try conv=>whnf
    refine⟨{ k:Nat // k<=a.pre.length },fun k=>[(2,.ref 0 0),(3,.ref 1 0),(4,.ref 2 0),(7,.ref 3 0),(9,.clo 60 [] [.ref 3 0]),(10,.ref 4 0),(11,.pv (i64 i)),(12,.ref 7 0),(41,.pv (i64 (m.val.map u64).length)),(42,.pv (i64 i)),(50,.pv (i64 a.pre.length)),(51,.pv (i64 k.1))],fun _=>8,fun k=>[(0,.var (q0e m)),(1,.var (q0c a)),(2,.var cells0),(3,.var [.pv (.sl (l.map q0g))]),(4,.var [.pv (i64 (l.map q0g).length),.buf 5 ((vsU m a l i).map u64).length,.pv .nil]),(5,.arr 1 ((vsU m a l i).map u64)),(6,.arr 1 (mixV a.pre.length (fun e=>u64 (valuP m a e i)) (fun _=>u64 0) k.1)),(7,.var [.buf 6 (mixV a.pre.length (fun e=>u64 (valuP m a e i)) (fun _=>u64 0) k.1).length])],fun k=>a.pre.length-k.1,⟨⟨0,Nat.zero_le _⟩,?_⟩,?_⟩
    ·(refine Wk.of ?_ ?_ rfl rfl rfl<;>repeat' (first|exact trivial|exact WkD.same _|exact WkO.same _ _ rfl|refine WkD.int ?_|refine WkO.vars rfl ?_|refine⟨?_,?_⟩|fail))
     ·exact congrArg (fun z:Nat=>(z:Int)) ((List.length_replicate ..).trans hN)
     ·exact WkO.same _ _ (congrArg (fun z=>some (DObj.arr 1 z)) hz1)
     ·exact WkD.eq (congrArg (fun z:List PV=>DV.buf 6 z.length) hz1)
    rintro⟨k,hk⟩;have hmk:=hmlv k;have hmk1:=hmlv (k+1);have hst:=mixV_set (n:=a.pre.length) (p:=fun e=>u64 (valuP m a e i)) (q:=fun _=>u64 0) (e:=k)
    (try conv=>whnf);repeat' (first|((first|apply And.intro|intro h)<;>try conv=>whnf))
    ·have hk':k<a.pre.length:=q0j h;have hV:=ac_Value a k i hfa hl hp;have hv0:=valI_ok hma hk' hi';obtain⟨g,hg⟩:∃ g,valI a k i=(g,0):=⟨(valI a k i).1,Prod.ext rfl hv0⟩;rw[hg] at hV;have hH:=ck_Holds m g hf;have hvp:(holdsI m g).1=valuP m a k i:=by rw[valuP,hg]
     obtain⟨z,hz⟩:∃ z,holdsI m g=(valuP m a k i,z):=⟨(holdsI m g).2,Prod.ext hvp rfl⟩;rw[hz] at hH
     (try conv=>whnf);repeat' (first|((first|apply And.intro|intro h)<;>try conv=>whnf)|(refine PureFn.dy hV rfl ?_;try conv=>whnf)|fail)
     ·cases h
     refine⟨Plan.lin 0 10,[9],by kernel_rfl,?_⟩
     (try conv=>whnf);repeat' (first|(apply And.intro<;>try conv=>whnf)|(refine⟨_,(by (conv=>whnf);exact hH),rfl,?_⟩;try conv=>whnf)|fail)
     refine⟨k,rfl,by rw[hmk];exact hk',?_⟩
     (try conv=>whnf);repeat' (first|(apply And.intro<;>try conv=>whnf))
     refine⟨_,mixV_old hk',Nat.le_refl 1,?_⟩
     try conv=>whnf
     refine⟨⟨k+1,hk'⟩,by show a.pre.length-(k+1)<a.pre.length-k;omega,?_⟩
     (refine Wk.of ?_ ?_ rfl rfl rfl<;>repeat' (first|exact trivial|exact WkD.same _|exact WkO.same _ _ rfl|refine WkD.int ?_|refine WkO.vars rfl ?_|refine⟨?_,?_⟩|(apply q0h;(focus simp;done);all_goals (try dsimp only);omega)|fail))
     ·exact WkO.same _ _ (congrArg (fun z=>some (DObj.arr 1 z)) hst)
     ·exact WkD.eq (congrArg (DV.buf 6) (hmk.trans hmk1.symm))
    ·have hk':k=a.pre.length:=q0k h hk;subst hk';exact⟨(),(by refine Wk.of ?_ ?_ rfl rfl rfl<;>repeat' (first|exact trivial|exact WkD.same _|exact WkO.same _ _ rfl|exact WkD.fz _ _ _ rfl (Or.inl ⟨_,rfl⟩) rfl|refine WkO.vars rfl ?_|refine⟨?_,?_⟩|fail))⟩
   rintro⟨⟩;have hvl:(mixV a.pre.length (fun e=>u64 (valuP m a e i)) (fun _=>u64 0) a.pre.length)=(vlU m a i).map u64:=by rw[mixV_full,vlU,List.map_map];rfl
   have hlv:(vlU m a i).length=a.pre.length:=by simp[vlU]
   have hv64:∀ s,s∈vlU m a i->s<2^64:=fun s hs=>by
    obtain⟨e,_,rfl⟩:=List.mem_map.1 hs;exact Nat.lt_of_lt_of_le (holds_lt n hM) (z0j hn64)
   have hmk:z0g (fun k=>((vlU m a i).getD (l.getD k (0,0)).2 0).testBit (l.getD k (0,0)).1) l.length=valP m a l i:=maskOf_congr fun k hk=>by
    rw[vlU_get (hmem _ (List.mem_iff_getElem?.2 ⟨k,q0f hk⟩)).2]
   have hvs:=vsU_succ m a l i;have hvsl:((vsU m a l i).map u64).length<=1000:=by simp[vsU];omega
   rw[hvl]
   try conv=>whnf
   have er:(vsU m a l i).map u64++[PV.int .u64 ((valP m a l i:Nat):Int)]=(vsU m a l (i+1)).map u64:=by rw[hvs,List.map_append];rfl
   have hlpV:∀ y,y∈l->y.1<64/\y.2<(vlU m a i).length:=fun y hy=>⟨by have:=(hmem y hy).1;omega,by rw[hlv];exact (hmem y hy).2⟩
   refine⟨updPlan,[4,6,8],by kernel_rfl,?_⟩
   (try conv=>whnf);repeat' (first|(apply And.intro<;>try conv=>whnf))
   all_goals (refine whr_V m a l (vsU m a l i) (vlU m a i) hlpV hv64 hl64 _ _ ?_)
   all_goals (rw[hmk])
   all_goals ((try conv=>whnf);repeat' (first|(apply And.intro<;>try conv=>whnf)|(apply q0p;rfl)|(apply szI;rfl)))
   ·exact z0l (n:=1000) hvsl (by decide)
   ·refine⟨⟨i+1,hi'⟩,by show m.val.length-(i+1)<m.val.length-i;omega,?_⟩
    (refine Wk.of ?_ ?_ rfl rfl rfl<;>repeat' (first|exact trivial|exact WkD.same _|exact WkO.same _ _ rfl|exact WkD.eq (congrArg (fun z:List PV=>DV.buf _ z.length) er)|exact WkO.same _ _ (congrArg (fun z=>some (DObj.arr _ z)) er)|refine WkD.int ?_|refine WkO.vars rfl ?_|refine⟨?_,?_⟩|(apply q0h;(focus simp;done);all_goals (try dsimp only);omega)|fail))
   ·exact z0l (n:=1000) hvsl (by decide)
   ·refine⟨⟨i+1,hi'⟩,by show m.val.length-(i+1)<m.val.length-i;omega,?_⟩
    (refine Wk.of ?_ ?_ rfl rfl rfl<;>repeat' (first|exact trivial|exact WkD.same _|exact WkO.same _ _ rfl|exact WkD.eq (congrArg (fun z:List PV=>DV.buf _ z.length) er)|exact WkO.same _ _ (congrArg (fun z=>some (DObj.arr _ z)) er)|refine WkD.int ?_|refine WkO.vars rfl ?_|refine⟨?_,?_⟩|(apply q0h;(focus simp;done);all_goals (try dsimp only);omega)|fail))
   ·exact z0l (n:=1000) hvsl (by decide)
   ·refine⟨⟨i+1,hi'⟩,by show m.val.length-(i+1)<m.val.length-i;omega,?_⟩
    (refine Wk.of ?_ ?_ rfl rfl rfl<;>repeat' (first|exact trivial|exact WkD.same _|exact WkO.same _ _ rfl|exact WkD.eq (congrArg (fun z:List PV=>DV.buf _ z.length) er)|exact WkO.same _ _ (congrArg (fun z=>some (DObj.arr _ z)) er)|refine WkD.int ?_|refine WkO.vars rfl ?_|refine⟨?_,?_⟩|(apply q0h;(focus simp;done);all_goals (try dsimp only);omega)|fail))
  ·have hi':i=m.val.length:=by have:=q0k (m:=(m.val.map u64).length) h (by simpa using hi);simpa using this
   subst hi';exact⟨(),(by refine Wk.of ?_ ?_ rfl rfl rfl<;>repeat' (first|exact trivial|exact WkD.same _|exact WkO.same _ _ rfl|exact WkD.fz _ _ _ rfl (Or.inl ⟨_,rfl⟩) rfl|refine WkO.vars rfl ?_|refine⟨?_,?_⟩|fail))⟩
 rintro⟨⟩;generalize hVS:(vsU m a l m.val.length)=vs;refine⟨Unit,fun _=>[(4,.ref 2 0),(7,.ref 3 0),(10,.ref 4 0)],fun _=>5,fun _=>[(2,.var cells0),(3,.var [.pv (.sl (l.map q0g))]),(4,.var [.pv (i64 (l.map q0g).length),.pv (q0b vs),.pv (.sl ((rsU m a l m.rel.length).map q0b))])],?_,?_⟩
 ·try conv=>whnf
  refine⟨{ i:Nat // i<=m.rel.length },fun i=>[(2,.ref 0 0),(3,.ref 1 0),(4,.ref 2 0),(7,.ref 3 0),(9,.clo 60 [] [.ref 3 0]),(10,.ref 4 0),(85,.pv (.sl (m.rel.map q0b))),(86,.pv (i64 (m.rel.map q0b).length)),(87,.pv (i64 i.1))],fun _=>6,fun i=>[(0,.var (q0e m)),(1,.var (q0c a)),(2,.var cells0),(3,.var [.pv (.sl (l.map q0g))]),(4,.var [.pv (i64 (l.map q0g).length),.pv (q0b vs),.buf 5 ((rsU m a l i.1).map q0b).length]),(5,.arr 1 ((rsU m a l i.1).map q0b))],fun i=>m.rel.length-i.1,⟨⟨0,Nat.zero_le _⟩,(by refine Wk.of ?_ ?_ rfl rfl rfl<;>repeat' (first|exact trivial|exact WkD.same _|exact WkO.same _ _ rfl|exact WkD.new' rfl rfl rfl|exact WkO.new _ _ rfl|refine WkO.vars rfl ?_|exact rfl|refine⟨?_,?_⟩|fail))⟩,?_⟩;rintro⟨i,hi⟩
  (try conv=>whnf);repeat' (first|((first|apply And.intro|intro h)<;>try conv=>whnf)|(apply q0i;rfl))
  ·have hi':i<m.rel.length:=by simpa using q0j h
   obtain⟨r,hr,hrw⟩:∃ r,m.rel[i]? = some r/\m.rel.getD i []=r:=⟨_,q0f hi',rfl⟩;have hrm:r∈m.rel:=List.mem_iff_getElem?.2 ⟨i,hr⟩;have hrl:=hM.rows r hrm;have hrb:=hf.2 r hrm;obtain⟨ra,hra,hraw⟩:∃ r,a.rel[i]? = some r/\a.rel.getD i []=r:=⟨_,q0f (by have:=hO.ags;omega),rfl⟩;have hram:ra∈a.rel:=List.mem_iff_getElem?.2 ⟨i,hra⟩;have hral:=hO.rows ra hram;have hrab:=hfa ra hram;have hN:((l.map q0g).length:Int).toNat=l.length:=by rw[List.length_map];rfl
   have hz1:List.replicate ((l.map q0g).length:Int).toNat (PV.int .u64 0)=(mixV l.length (fun k=>u64 (rowP r ra l (l.getD k (0,0)))) (fun _=>u64 0) 0):=by rw[hN];exact mixV_rep _ _ _
   have hmlv:=mixV_len l.length (fun k=>u64 (rowP r ra l (l.getD k (0,0)))) (fun _=>u64 0);refine⟨_,_,rfl,q0a hr,rfl,?_⟩
   (try conv=>whnf);repeat' (first|(apply And.intro<;>try conv=>whnf)|(apply Or.inl;try conv=>whnf)|fail)
   ·rfl
   ·exact Int.natCast_nonneg _
   ·show ((l.map q0g).length:Int)<=4294967296
    rw[List.length_map];omega
   refine⟨Unit,fun _=>[(2,.ref 0 0),(3,.ref 1 0),(4,.ref 2 0),(7,.ref 3 0),(9,.clo 60 [] [.ref 3 0]),(10,.ref 4 0),(18,.pv (.sl (mixV l.length (fun k=>u64 (rowP r ra l (l.getD k (0,0)))) (fun _=>u64 0) l.length))),(85,.pv (.sl (m.rel.map q0b))),(86,.pv (i64 (m.rel.map q0b).length)),(87,.pv (i64 i))],fun _=>6,fun _=>[(0,.var (q0e m)),(1,.var (q0c a)),(2,.var cells0),(3,.var [.pv (.sl (l.map q0g))]),(4,.var [.pv (i64 (l.map q0g).length),.pv (q0b vs),.buf 5 ((rsU m a l i).map q0b).length]),(5,.arr 1 ((rsU m a l i).map q0b))],?_,?_⟩
   ·try conv=>whnf
    refine⟨{ k:Nat // k<=l.length },fun k=>[(2,.ref 0 0),(3,.ref 1 0),(4,.ref 2 0),(7,.ref 3 0),(9,.clo 60 [] [.ref 3 0]),(10,.ref 4 0),(16,.ref 6 0),(17,.ref 7 0),(18,.buf 8 (mixV l.length (fun k=>u64 (rowP r ra l (l.getD k (0,0)))) (fun _=>u64 0) k.1).length),(85,.pv (.sl (m.rel.map q0b))),(86,.pv (i64 (m.rel.map q0b).length)),(87,.pv (i64 i)),(95,.pv (.sl (l.map q0g))),(96,.pv (i64 (l.map q0g).length)),(97,.pv (i64 k.1))],fun _=>9,fun k=>[(0,.var (q0e m)),(1,.var (q0c a)),(2,.var cells0),(3,.var [.pv (.sl (l.map q0g))]),(4,.var [.pv (i64 (l.map q0g).length),.pv (q0b vs),.buf 5 ((rsU m a l i).map q0b).length]),(5,.arr 1 ((rsU m a l i).map q0b)),(6,.var [.pv (i64 i)]),(7,.var [.pv (q0b r)]),(8,.arr 1 (mixV l.length (fun k=>u64 (rowP r ra l (l.getD k (0,0)))) (fun _=>u64 0) k.1))],fun k=>l.length-k.1,⟨⟨0,Nat.zero_le _⟩,?_⟩,?_⟩
    ·(refine Wk.of ?_ ?_ rfl rfl rfl<;>repeat' (first|exact trivial|exact WkD.same _|exact WkO.same _ _ rfl|refine⟨?_,?_⟩|fail))
     ·exact WkD.eq (congrArg (fun z:List PV=>DV.buf 8 z.length) hz1)
     ·exact WkO.same _ _ (congrArg (fun z=>some (DObj.arr 1 z)) hz1)
    rintro⟨k,hk⟩;have hmk:=hmlv k;have hmk1:=hmlv (k+1);have hst:=mixV_set (n:=l.length) (p:=fun k=>u64 (rowP r ra l (l.getD k (0,0)))) (q:=fun _=>u64 0) (e:=k)
    (try conv=>whnf);repeat' (first|((first|apply And.intro|intro h)<;>try conv=>whnf)|(apply q0i;rfl))
    ·have hk':k<l.length:=by simpa using q0j h
     obtain⟨x,hx,hxw⟩:∃ y,l[k]? = some y/\l.getD k (0,0)=y:=⟨_,q0f hk',rfl⟩;have hxm:=hmem x (List.mem_iff_getElem?.2 ⟨k,hx⟩);refine⟨_,_,rfl,q0a hx,rfl,?_⟩
     try conv=>whnf
     refine DC.call 10 (HW m a l vs (rsU m a l i) i r (mixV l.length (fun k=>u64 (rowP r ra l (l.getD k (0,0)))) (fun _=>u64 0) k) x) ⟨rfl,rfl,rfl,rfl,rfl,rfl,rfl,rfl,rfl,rfl,trivial⟩ rfl rfl rfl rfl fun M' => ?_
     refine whr_W m a l vs (rsU m a l i) i r (mixV l.length (fun k=>u64 (rowP r ra l (l.getD k (0,0)))) (fun _=>u64 0) k) x ra hra (by omega) (by omega) (fun y hy=>by have:=hmem y hy;exact⟨by omega,by omega⟩) hrb hrab hl64 _ _ ?_;refine⟨rfl,?_⟩
     (try conv=>whnf);repeat' (first|(apply And.intro<;>try conv=>whnf))
     refine⟨k,rfl,by rw[hmk];exact hk',?_⟩
     (try conv=>whnf);repeat' (first|(apply And.intro<;>try conv=>whnf))
     refine⟨_,mixV_old hk',Nat.le_refl 1,?_⟩
     try conv=>whnf
     rw[hxw] at hst;refine⟨⟨k+1,hk'⟩,by show l.length-(k+1)<l.length-k;omega,?_⟩
     (refine Wk.of ?_ ?_ rfl rfl rfl<;>repeat' (first|exact trivial|exact WkD.same _|exact WkO.same _ _ rfl|refine WkD.int ?_|refine⟨?_,?_⟩|(apply q0h;(focus simp;done);all_goals (try dsimp only);omega)|fail))
     ·exact WkD.eq (congrArg (DV.buf 8) (hmk.trans hmk1.symm))
     ·exact WkO.same _ _ (congrArg (fun z=>some (DObj.arr 1 z)) hst)
    ·have hk':k=l.length:=by have:=q0k (m:=(l.map q0g).length) h (by simpa using hk);simpa using this
     subst hk';exact⟨(),(by refine Wk.of ?_ ?_ rfl rfl rfl<;>repeat' (first|exact trivial|exact WkD.same _|exact WkO.same _ _ rfl|exact WkD.fz _ _ _ rfl (Or.inl ⟨_,rfl⟩) rfl|refine⟨?_,?_⟩|fail))⟩
   rintro⟨⟩;have hrs:=rsU_succ m a l i;have hrsl:((rsU m a l i).map q0b).length<=1000:=by simp[rsU];omega
   have er:(rsU m a l i).map q0b++[PV.sl (mixV l.length (fun k=>u64 (rowP r ra l (l.getD k (0,0)))) (fun _=>u64 0) l.length)]=(rsU m a l (i+1)).map q0b:=by
    rw[hrs,List.map_append,mixV_full,relP,hrw,hraw]
    congr 1
    show[PV.sl _]=[q0b (l.map (rowP r ra l))]
    rw[q0b,List.map_map]
    congr 2
    exact map_getD (g:=fun x=>u64 (rowP r ra l x)) (d:=(0,0)) rfl
   (try conv=>whnf);repeat' (first|(apply And.intro<;>try conv=>whnf)|(apply q0p;rfl)|(apply szI;rfl))
   ·exact z0l (n:=1000) hrsl (by decide)
   refine⟨⟨i+1,hi'⟩,by show m.rel.length-(i+1)<m.rel.length-i;omega,?_⟩
   (refine Wk.of ?_ ?_ rfl rfl rfl<;>repeat' (first|exact trivial|exact WkD.same _|exact WkO.same _ _ rfl|exact WkD.eq (congrArg (fun z:List PV=>DV.buf _ z.length) er)|exact WkO.same _ _ (congrArg (fun z=>some (DObj.arr _ z)) er)|refine WkD.int ?_|refine WkO.vars rfl ?_|refine⟨?_,?_⟩|(apply q0h;(focus simp;done);all_goals (try dsimp only);omega)|fail))
  ·have hi':i=m.rel.length:=by have:=q0k (m:=(m.rel.map q0b).length) h (by simpa using hi);simpa using this
   subst hi';exact⟨(),(by refine Wk.of ?_ ?_ rfl rfl rfl<;>repeat' (first|exact trivial|exact WkD.same _|exact WkO.same _ _ rfl|exact WkD.fz _ _ _ rfl (Or.inl ⟨_,rfl⟩) rfl|refine WkO.vars rfl ?_|refine⟨?_,?_⟩|fail))⟩
 rintro⟨⟩
 try conv=>whnf
 refine⟨.one 0 (.two 1 (.one 2 (.one 3 (.one 4 .done))) 2 (.one 1 (.one 3 (.one 4 .done)))),[2],by kernel_rfl,?_⟩;have hfin:updPV (prodM m a l,l,0)=.tup [.agg [i64 (l.map q0g).length,q0b vs,.sl ((rsU m a l m.rel.length).map q0b)],.sl (l.map q0g),.int .i64 0]:=by rw[<- hVS,List.length_map];rfl
 (try conv=>whnf);repeat' (first|(apply And.intro<;>try conv=>whnf))
 all_goals (rw[hfin];exact .refl _)
theorem rm_All (n:Nat) (hn:n<=64):PureFn Tryz.prog 130 [i64 n] (u64 (2^n-1)):=by
 refine PureFn.intro mixed (fn:=Tryz.f130) rfl rfl rfl fun M w0 => ?_
 (try conv=>whnf);repeat' (first|((first|apply And.intro|intro h)<;>try conv=>whnf))
 ·have h1:=of_decide_eq_true h;obtain rfl:n=64:=by omega
  exact .refl _
 ·exact Int.natCast_nonneg _
 ·have h1:=of_decide_eq_false h;exact q0r (all_nat (by omega))
theorem rm_beyond (n:Nat) (l:List Nat) (hn:n<=64) (hl:l.length<=1000) (hs:∀ s,s∈l->s<2^64):PureFn Tryz.prog 96 [.sl (l.map u64),i64 n] (.bool (outB n l)):=by
 refine PureFn.intro mixed (fn:=Tryz.f96) rfl rfl rfl fun M w0 => ?_
 have hA:=rm_All n hn
 try conv=>whnf
 refine⟨{ i:Nat // i<=l.length/\(l.take i).any (fun s=>!decide (s<2^n))=false },fun i=>[(0,.pv (.sl (l.map u64))),(1,.pv (i64 n)),(5,.pv (i64 i.1))],fun _=>0,fun _=>[],fun i=>l.length-i.1,⟨⟨0,Nat.zero_le _,rfl⟩,(by exact Wk.s rfl)⟩,?_⟩;rintro⟨i,hi,ha⟩
 (try conv=>whnf);repeat' (first|((first|apply And.intro|intro h)<;>try conv=>whnf)|(apply q0i;rfl)|(refine q0w (by kernel_rfl) ?_;try conv=>whnf)|fail)
 ·have hi':i<l.length:=by simpa using q0j h
  have hm:l[i]? = some l[i]:=List.getElem?_eq_getElem hi';have hsi:=hs _ (List.getElem_mem hi');have hob:=andNotU_out (s:=l[i]) hn hsi;refine⟨_,_,rfl,q0a hm,rfl,?_⟩
  (try conv=>whnf);repeat' (first|((first|apply And.intro|intro h)<;>try conv=>whnf)|(refine⟨_,(by (conv=>whnf);exact hA),rfl,?_⟩;try conv=>whnf)|fail)
  ·have e:outB n l=true:=any_at hi' (by rw[<- hob];exact h);rw[e];exact .refl _
  ·exact⟨⟨i+1,hi',y0b hi' ha (by rw[<- hob];exact h)⟩,by show l.length-(i+1)<l.length-i;omega,(by refine Wk.of ?_ ?_ rfl rfl rfl<;>repeat' (first|exact trivial|exact WkD.same _|refine WkD.int ?_|refine⟨?_,?_⟩|(apply q0h;(focus simp;done);all_goals (try dsimp only);omega)|fail))⟩
 ·have hi':i=l.length:=by have:=q0k (m:=(l.map u64).length) h (by simpa using hi);simpa using this
  subst hi';rw[List.take_length] at ha;rw[show outB n l=false from ha];exact .refl _
theorem rm_Check (m:Mo) (hf:FitM m):PureFn Tryz.prog 43 [m.pv] (.int .i64 (moI m)):=by
 refine PureFn.introC [3,5,10,12] mixed (fn:=Tryz.f43) rfl rfl rfl fun M w0 => ?_
 have e1:((m.val.map u64).length:Int)=(m.val.length:Int):=by simp
 have e2:((m.rel.map q0b).length:Int)=(m.rel.length:Int):=by simp
 try conv=>whnf
 refine⟨{ _x:Unit // moB1 m=false },fun _=>[(1,.ref 0 0)],fun _=>1,fun _=>HM m,?_,?_⟩
 ·(try conv=>whnf);repeat' (first|((first|apply And.intro|intro h)<;>try conv=>whnf)|apply True.intro|(apply WhenQ.mk;(try conv=>whnf);rotate_left;(try conv=>whnf);rotate_right)|with_reducible assumption|(apply q0x;with_reducible assumption))
  ·refine q0r ?_;rw[moI,show moB1 m=true from h];rfl
  ·exact⟨⟨(),h⟩,(by exact Wk.s rfl)⟩
 rintro⟨_,h1⟩;obtain⟨n,hmn,n1,n64⟩:=moB1_no h1;refine⟨{ _x:Unit // moB2 m=false },fun _=>[(1,.ref 0 0)],fun _=>1,fun _=>HM m,?_,?_⟩
 ·(try conv=>whnf);repeat' (first|((first|apply And.intro|intro h)<;>try conv=>whnf)|apply True.intro|(apply WhenQ.mk;(try conv=>whnf);rotate_left;(try conv=>whnf);rotate_right)|with_reducible assumption|(apply q0x;with_reducible assumption))
  ·have h9:moB2 m=true:=by rw[moB2,<- e1,<- e2];exact h
   refine q0r ?_;rw[moI,h1,h9];rfl
  ·have h9:moB2 m=false:=by rw[moB2,<- e1,<- e2];exact h
   exact⟨⟨(),h9⟩,(by exact Wk.s rfl)⟩
 rintro⟨_,h2⟩;obtain⟨ag,fa⟩:=moB2_no h2;refine⟨{ _x:Unit // moB3 m=false },fun _=>[(1,.ref 0 0)],fun _=>1,fun _=>HM m,?_,?_⟩
 ·try conv=>whnf
  refine⟨{ i:Nat // i<=m.rel.length/\(m.rel.take i).any (fun r=>(r.length:Int) != m.n)=false },fun i=>[(1,.ref 0 0),(3,.pv (i64 i.1))],fun _=>1,fun _=>HM m,fun i=>m.rel.length-i.1,⟨⟨0,Nat.zero_le _,rfl⟩,(by exact Wk.s rfl)⟩,?_⟩;rintro⟨i,hi,ha⟩
  (try conv=>whnf);repeat' (first|((first|apply And.intro|intro h)<;>try conv=>whnf)|(apply q0i;rfl)|(refine q0w (by kernel_rfl) ?_;try conv=>whnf)|fail)
  ·have hi':i<m.rel.length:=by simpa using q0j h
   have hm:m.rel[i]? = some m.rel[i]:=List.getElem?_eq_getElem hi';have e3:(((m.rel[i]).map u64).length:Int)=((m.rel[i]).length:Int):=by simp
   refine⟨_,_,rfl,q0a hm,rfl,?_⟩
   (try conv=>whnf);repeat' (first|((first|apply And.intro|intro h)<;>try conv=>whnf))
   ·have e:moB3 m=true:=any_at hi' (by rw[<- e3];exact h);refine q0r ?_;rw[moI,h1,h2,e];rfl
   ·exact⟨⟨i+1,hi',y0b hi' ha (by rw[<- e3];exact h)⟩,by show m.rel.length-(i+1)<m.rel.length-i;omega,(by refine Wk.of ?_ ?_ rfl rfl rfl<;>repeat' (first|exact trivial|exact WkD.same _|exact WkO.same _ _ rfl|refine WkD.int ?_|refine⟨?_,?_⟩|(apply q0h;(focus simp;done);all_goals (try dsimp only);omega)|fail))⟩
  ·have hi':i=m.rel.length:=by have:=q0k (m:=(m.rel.map q0b).length) h (by simpa using hi);simpa using this
   subst hi';rw[List.take_length] at ha;exact⟨⟨(),ha⟩,(by exact Wk.s rfl)⟩
 rintro⟨_,h3⟩
 have hrl:∀ r,r∈m.rel->r.length<=1000:=fun r hr=>by
  have:=List.any_eq_false.1 h3 r hr;have h6:((r.length:Int) != m.n)=false:=by simpa using this
  have h7:(r.length:Int)=m.n:=by simpa using h6
  omega
 have hO:=rm_beyond n m.val n64 (by omega) hf.1;rw[show i64 n=.int .i64 m.n by rw[hmn];rfl] at hO;have e4:moB4 m=bif outB n m.val then true else m.rel.any fun r=>outB n r:=by rw[moB4,hmn,Int.toNat_natCast]
 refine⟨{ _x:Unit // outB n m.val=false },fun _=>[(1,.ref 0 0)],fun _=>1,fun _=>HM m,?_,?_⟩
 ·(try conv=>whnf);repeat' (first|((first|apply And.intro|intro h)<;>try conv=>whnf)|(refine PureFn.dy hO rfl ?_;try conv=>whnf)|fail)
  ·refine q0r ?_;rw[moI,h1,h2,h3,e4,h];rfl
  ·exact⟨⟨(),h⟩,(by exact Wk.s rfl)⟩
 rintro⟨_,h4⟩
 try conv=>whnf
 refine⟨{ i:Nat // i<=m.rel.length/\(m.rel.take i).any (fun r=>outB n r)=false },fun i=>[(1,.ref 0 0),(4,.pv (i64 i.1))],fun _=>1,fun _=>HM m,fun i=>m.rel.length-i.1,⟨⟨0,Nat.zero_le _,rfl⟩,(by exact Wk.s rfl)⟩,?_⟩;rintro⟨i,hi,ha⟩
 (try conv=>whnf);repeat' (first|((first|apply And.intro|intro h)<;>try conv=>whnf)|(apply q0i;rfl)|(refine q0w (by kernel_rfl) ?_;try conv=>whnf)|fail)
 ·have hi':i<m.rel.length:=by simpa using q0j h
  have hm:m.rel[i]? = some m.rel[i]:=List.getElem?_eq_getElem hi';have hrm:=List.getElem_mem hi';have hO2:=rm_beyond n m.rel[i] n64 (hrl _ hrm) (hf.2 _ hrm);rw[show i64 n=.int .i64 m.n by rw[hmn];rfl] at hO2;refine⟨_,_,rfl,q0a hm,rfl,?_⟩
  (try conv=>whnf);repeat' (first|((first|apply And.intro|intro h)<;>try conv=>whnf)|(refine⟨_,(by (conv=>whnf);exact hO2),rfl,?_⟩;try conv=>whnf)|fail)
  ·have e:(m.rel.any fun r=>outB n r)=true:=any_at hi' h;refine q0r ?_;rw[moI,h1,h2,h3,e4,h4,e];rfl
  ·exact⟨⟨i+1,hi',y0b hi' ha h⟩,by show m.rel.length-(i+1)<m.rel.length-i;omega,(by refine Wk.of ?_ ?_ rfl rfl rfl<;>repeat' (first|exact trivial|exact WkD.same _|exact WkO.same _ _ rfl|refine WkD.int ?_|refine⟨?_,?_⟩|(apply q0h;(focus simp;done);all_goals (try dsimp only);omega)|fail))⟩
 ·have hi':i=m.rel.length:=by have:=q0k (m:=(m.rel.map q0b).length) h (by simpa using hi);simpa using this
  subst hi';rw[List.take_length] at ha;refine q0r ?_;rw[moI,h1,h2,h3,e4,h4,ha];rfl
def fewB (m:Mo) (k:Int):Bool:=bif bif bif decide (m.n>k) then decide (m.n<=64) else false then true else decide ((m.val.length:Int)>20) then true else decide ((m.rel.length:Int)>10)
def fewM (m:Mo) (k:Int):Bool:=bif fewB m k then false else !(m.rel.any fun r=>decide ((r.length:Int)>70))
theorem rm_Few (m:Mo) (k:Int):PureFn Tryz.prog 11 [m.pv,.int .i64 k] (.bool (fewM m k)):=by
 refine PureFn.introC [3] mixed (fn:=Tryz.f11) rfl rfl rfl fun M w0 => ?_
 have e1:((m.val.map u64).length:Int)=(m.val.length:Int):=by simp
 have e2:((m.rel.map q0b).length:Int)=(m.rel.length:Int):=by simp
 try conv=>whnf
 refine⟨{ _x:Unit // fewB m k=false },fun _=>[(2,.ref 0 0)],fun _=>1,fun _=>HM m,?_,?_⟩
 ·(try conv=>whnf);repeat' (first|((first|apply And.intro|intro h)<;>try conv=>whnf)|apply True.intro|(apply WhenQ.mk;(try conv=>whnf);rotate_left;(try conv=>whnf);rotate_right)|with_reducible assumption|(apply q0x;with_reducible assumption))
  ·have h9:fewB m k=true:=by rw[fewB,<- e1,<- e2];exact h
   rw[fewM,h9];exact .refl _
  ·have h9:fewB m k=false:=by rw[fewB,<- e1,<- e2];exact h
   exact⟨⟨(),h9⟩,(by exact Wk.s rfl)⟩
 rintro⟨_,h1⟩
 have hrl:m.rel.length<=10:=by
  unfold fewB at h1
  cases q1:(bif bif decide (m.n>k) then decide (m.n<=64) else false then true else decide ((m.val.length:Int)>20)) with
  |true=>rw[q1] at h1;cases h1
  |false =>
   rw[q1] at h1;have:=of_decide_eq_false (show decide ((m.rel.length:Int)>10)=false from h1);omega
 try conv=>whnf
 refine⟨{ i:Nat // i<=m.rel.length/\(m.rel.take i).any (fun r=>decide ((r.length:Int)>70))=false },fun i=>[(2,.ref 0 0),(5,.pv (i64 i.1))],fun _=>1,fun _=>HM m,fun i=>m.rel.length-i.1,⟨⟨0,Nat.zero_le _,rfl⟩,(by exact Wk.s rfl)⟩,?_⟩;rintro⟨i,hi,ha⟩
 (try conv=>whnf);repeat' (first|((first|apply And.intro|intro h)<;>try conv=>whnf)|(apply q0i;rfl))
 ·have hi':i<m.rel.length:=by simpa using q0j h
  have hm:m.rel[i]? = some m.rel[i]:=List.getElem?_eq_getElem hi';have e3:(((m.rel[i]).map u64).length:Int)=((m.rel[i]).length:Int):=by simp
  refine⟨_,_,rfl,q0a hm,rfl,?_⟩
  (try conv=>whnf);repeat' (first|((first|apply And.intro|intro h)<;>try conv=>whnf))
  ·have e:(m.rel.any fun r=>decide ((r.length:Int)>70))=true:=any_at hi' (by rw[<- e3];exact h);rw[fewM,h1,e];exact .refl _
  ·exact⟨⟨i+1,hi',y0b hi' ha (by rw[<- e3];exact h)⟩,by show m.rel.length-(i+1)<m.rel.length-i;omega,(by refine Wk.of ?_ ?_ rfl rfl rfl<;>repeat' (first|exact trivial|exact WkD.same _|exact WkO.same _ _ rfl|refine WkD.int ?_|refine⟨?_,?_⟩|(apply q0h;(focus simp;done);all_goals (try dsimp only);omega)|fail))⟩
 ·have hi':i=m.rel.length:=by have:=q0k (m:=(m.rel.map q0b).length) h (by simpa using hi);simpa using this
  subst hi';rw[List.take_length] at ha;rw[fewM,h1,ha];exact .refl _
def isP (w e:Int) (q:Nat×Nat):Bool:=bif (q.1:Int)==w then (q.2:Int)==e else false
def ixP (l:List (Nat×Nat)) (w e:Int):Int:=match l.findIdx? (isP w e) with|none => -1|some i=>(i:Int)
theorem find_at {α:Type} {p:α->Bool}:∀ {l:List α} {i:Nat} {x:α},l[i]? = some x->p x=true->(l.take i).any p=false->l.findIdx? p=some i
 | [],i,x,h,_,_=>by simp at h
 |a::r,0,x,h,hx,_=>by
  have:a=x:=by simpa using h
  subst this;simp[List.findIdx?_cons,hx]
 |a::r,i+1,x,h,hx,hn=>by
  have h1:r[i]? = some x:=by simpa using h
  have hn2:(p a||(r.take i).any p)=false:=by simpa using hn
  rw[Bool.or_eq_false_iff] at hn2;rw[List.findIdx?_cons,hn2.1,find_at h1 hx hn2.2];rfl
theorem find_none {α:Type} {p:α->Bool} {l:List α} (h:l.any p=false):l.findIdx? p=none:=by
 rw[List.findIdx?_eq_none_iff];exact fun x hx=>by simpa using List.any_eq_false.1 h x hx
theorem fit_pair (x y:Int):fitT Tryz.prog 66 (.agg [.int .i64 x,.int .i64 y])=true:=by kernel_rfl
theorem eq_pair (w e:Int) (q:Nat×Nat):eqPVs [.int .i64 w,.int .i64 e] [i64 q.1,i64 q.2]=isP w e q:=by
 show ((w==(q.1:Int)) && ((e==(q.2:Int)) && true))=bif (q.1:Int)==w then (q.2:Int)==e else false
 rw[Bool.and_true,show (w==(q.1:Int))=((q.1:Int)==w) by rw[Bool.eq_iff_iff,beq_iff_eq,beq_iff_eq];exact⟨Eq.symm,Eq.symm⟩,show (e==(q.2:Int))=((q.2:Int)==e) by rw[Bool.eq_iff_iff,beq_iff_eq,beq_iff_eq];exact⟨Eq.symm,Eq.symm⟩]
 cases ((q.1:Int)==w)<;>rfl
theorem sl_IndexP (l:List (Nat×Nat)) (w e:Int) (hl:l.length<=1000):PureFn Tryz.prog 64 [.sl (l.map q0g),.agg [.int .i64 w,.int .i64 e]] (.int .i64 (ixP l w e)):=by
 refine PureFn.intro mixed (fn:=Tryz.f64) rfl rfl rfl fun M w0 => ?_
 try conv=>whnf
 refine⟨{ i:Nat // i<=l.length/\(l.take i).any (isP w e)=false },fun i=>[(0,.pv (.sl (l.map q0g))),(3,.ref 0 0),(7,.pv (i64 (l.map q0g).length)),(8,.pv (i64 i.1))],fun _=>1,fun _=>[(0,.var [.pv (.int .i64 w),.pv (.int .i64 e)])],fun i=>l.length-i.1,⟨⟨0,Nat.zero_le _,rfl⟩,(by exact Wk.s rfl)⟩,?_⟩;rintro⟨i,hi,hn⟩
 (try conv=>whnf);repeat' (first|((first|apply And.intro|intro h)<;>try conv=>whnf)|(apply q0i;rfl)|(refine q0w (by kernel_rfl) ?_;try conv=>whnf)|fail)
 ·have hi':i<l.length:=by simpa using q0j h
  obtain⟨y,hy,hyw⟩:∃ y,l[i]? = some y/\l[i]=y:=⟨_,List.getElem?_eq_getElem hi',rfl⟩;refine⟨_,_,rfl,q0a hy,rfl,?_⟩
  (try conv=>whnf);repeat' (first|((first|apply And.intro|intro h)<;>try conv=>whnf)|(apply guardI;kernel_rfl)|fail)
  ·exact fit_pair _ _
  ·exact fit_pair _ _
  ·have hq:isP w e y=true:=by rw[<- eq_pair];exact h
   rw[ixP,find_at hy hq hn];exact .refl _
  ·have hq:isP w e y=false:=by rw[<- eq_pair];exact h
   exact⟨⟨i+1,hi',y0b hi' hn (by rw[hyw];exact hq)⟩,by show l.length-(i+1)<l.length-i;omega,(by refine Wk.of ?_ ?_ rfl rfl rfl<;>repeat' (first|exact trivial|exact WkD.same _|exact WkO.same _ _ rfl|refine WkD.int ?_|refine⟨?_,?_⟩|(apply q0h;(focus simp;done);all_goals (try dsimp only);omega)|fail))⟩
 ·have hi':i=l.length:=by have:=q0k (m:=(l.map q0g).length) h (by simpa using hi);simpa using this
  subst hi';rw[List.take_length] at hn;rw[ixP,find_none hn];exact .refl _
theorem updI_len (m:Mo) (a:Act):(updI m a).2.1.length<=64:=by
 unfold updI
 cases ((z0q m a).2 != 0) with
 |true=>exact Nat.zero_le _
 |false =>
  cases h:decide (((z0q m a).1.length:Int)>64) with
  |true=>exact Nat.zero_le _
  |false =>
   have:=of_decide_eq_false h
   show (z0q m a).1.length<=64
   omega
theorem pr_At (m:Mo) (w:Int) (a:Act) (e:Int) (hf:FitM m) (hfa:Fit a) (hl:a.rel.length<=1000) (hp:∀ l,l∈a.post->l.length<=1000):PureFn Tryz.prog 19 [m.pv,.int .i64 w,a.pv,.int .i64 e] (atPV (atI m w a e)):=by
 refine PureFn.introC [2,8,9] mixed (fn:=Tryz.f19) rfl rfl rfl fun M w0 => ?_
 have hU:=pr_Update m a hf hfa hl hp;have hlen:=updI_len m a;obtain⟨R,hR⟩:∃ R,R=atI m w a e:=⟨_,rfl⟩;rw[<- hR];rw[atI] at hR;generalize updI m a=X at hU hlen hR;obtain⟨p,l,c⟩:=X;have hlen:l.length<=64:=hlen;have hg:((p,l,c):Mo×List (Nat×Nat)×Int).2.2=c:=rfl;rw[hg] at hR;have e1:((a.pre.map fpv).length:Int)=(a.pre.length:Int):=by simp
 have hI:=sl_IndexP l w e (by omega)
 try conv=>whnf
 refine⟨Unit,fun _=>[(1,.pv (.int .i64 w)),(3,.pv (.int .i64 e)),(4,.ref 0 0),(6,.ref 1 0),(8,.ref 2 0),(11,.ref 3 0),(12,.pv (.sl (l.map q0g))),(13,.pv (.int .i64 c))],fun _=>4,fun _=>[(0,.var (q0e m)),(1,.var (q0c a)),(2,.var cells0),(3,.var (q0e p))],?_,?_⟩
 ·(try conv=>whnf);repeat' (first|(refine PureFn.dy hU rfl ?_;try conv=>whnf)|fail)
  exact⟨(),(by exact Wk.s rfl)⟩
 rintro⟨⟩;refine⟨{ _x:Unit // (c != 0)=false/\badW m w=false/\z0p a e=false },fun _=>[(1,.pv (.int .i64 w)),(3,.pv (.int .i64 e)),(8,.ref 2 0),(11,.ref 3 0),(12,.pv (.sl (l.map q0g)))],fun _=>4,fun _=>[(2,.var cells0),(3,.var (q0e p))],?_,?_⟩
 ·(try conv=>whnf);repeat' (first|((first|apply And.intro|intro h)<;>try conv=>whnf)|apply True.intro|(apply WhenQ.mk;(try conv=>whnf);rotate_left;(try conv=>whnf);rotate_right)|with_reducible assumption|(apply q0x;with_reducible assumption))
  ·have h0:(c != 0)=true:=h;rw[hR,h0];exact PLe.tups ⟨le_noMo,.refl _,.refl _,trivial⟩
  ·rename_i h0;rw[hR,show (c != 0)=false from h0,show badW m w=true from h];exact PLe.tups ⟨le_noMo,.refl _,.refl _,trivial⟩
  ·rename_i h0 h1;have h9:z0p a e=true:=by rw[z0p,<- e1];exact h
   rw[hR,show (c != 0)=false from h0,show badW m w=false from h1,h9];exact PLe.tups ⟨le_noMo,.refl _,.refl _,trivial⟩
  ·rename_i h0 h1;have h9:z0p a e=false:=by rw[z0p,<- e1];exact h
   exact⟨⟨(),h0,h1,h9⟩,(by exact Wk.s rfl)⟩
 rintro⟨_,h0,h1,h2⟩;rw[h0,h1,h2] at hR;have hR:R=match l.findIdx? (isP w e) with|none=>(noMo,0,11)|some i=>(p,(i:Int),0):=hR
 rw[ixP] at hI
 cases hx:l.findIdx? (isP w e) with
 |none =>
  rw[hx] at hI hR;have hI:PureFn Tryz.prog 64 [.sl (l.map q0g),.agg [.int .i64 w,.int .i64 e]] (.int .i64 (-1)):=hI;rw[hR];refine⟨Unit,fun _=>[(8,.ref 2 0),(11,.ref 3 0),(14,.pv (.int .i64 (-1)))],fun _=>4,fun _=>[(2,.var cells0),(3,.var (q0e p))],?_,?_⟩
  ·(try conv=>whnf);repeat' (first|(refine PureFn.dy hI rfl ?_;try conv=>whnf)|fail)
   exact⟨(),(by exact Wk.s rfl)⟩
  rintro⟨⟩
  (try conv=>whnf);repeat' (first|((first|apply And.intro|intro h)<;>try conv=>whnf))
  ·exact PLe.tups ⟨le_noMo,.refl _,.refl _,trivial⟩
  ·simp at h
 |some i =>
  rw[hx] at hI hR;have hI:PureFn Tryz.prog 64 [.sl (l.map q0g),.agg [.int .i64 w,.int .i64 e]] (.int .i64 (i:Nat)):=hI;rw[hR];refine⟨Unit,fun _=>[(8,.ref 2 0),(11,.ref 3 0),(14,.pv (i64 i))],fun _=>4,fun _=>[(2,.var cells0),(3,.var (q0e p))],?_,?_⟩
  ·(try conv=>whnf);repeat' (first|(refine PureFn.dy hI rfl ?_;try conv=>whnf)|fail)
   exact⟨(),(by exact Wk.s rfl)⟩
  rintro⟨⟩
  (try conv=>whnf);repeat' (first|((first|apply And.intro|intro h)<;>try conv=>whnf))
  ·have:=of_decide_eq_true h;omega
  ·exact .refl _
theorem take_map {α β:Type} {f:α->β} {l:List α} {i:Nat} {x:α} (h:l[i]? = some x):(l.take (i+1)).map f=(l.take i).map f++[f x]:=by
 obtain⟨h1,h2⟩:=List.getElem?_eq_some_iff.1 h;rw[List.take_succ_eq_append_getElem h1,List.map_append,h2];rfl
open Go Go.RowKit
theorem tz64_core (x k idx:Nat) (w:World) (hx0:((x:Int)==0)=false)
  (key:IntKind.u64.wrap (bits BinOp.and IntKind.u64 (x:Int) (IntKind.u64.wrap (-(x:Int)))*285870213051353865) / 288230376151711744=(idx:Int))
  (hi:idx<64) (hk:k<64) (hcell:w.cell? ⟨0,idx,none⟩=some (.int .u8 k)) :
  Calls Tryz.prog 149 #[.int .u64 x] w fun e w'=>e=.returned (.int .i64 k)/\w'=w:=by
 go_enter Tryz.func149,Tryz.ntmps149
 go_wp2_with (simp only[key])
 go_ret
 exact⟨rfl,rfl⟩
theorem tz64_zero (w:World):Calls Tryz.prog 149 #[.int .u64 0] w fun e w'=>e=.returned (.int .i64 64)/\w'=w:=by
 go_enter Tryz.func149,Tryz.ntmps149
 go_wp2
 go_ret
 exact⟨rfl,rfl⟩
theorem tz64_key (x a:Nat) (hx:x<18446744073709551616) (hx0:x≠0) (hlow:x&&&(18446744073709551616-x)=a) :
  IntKind.u64.wrap (bits BinOp.and IntKind.u64 (x:Int) (IntKind.u64.wrap (-(x:Int)))*285870213051353865) / 288230376151711744=((a*285870213051353865 % 18446744073709551616 / 288230376151711744:Nat):Int):=by
 have e1:IntKind.u64.wrap (-(x:Int))=((18446744073709551616-x:Nat):Int):=by rw[IntKind.wrap_u64];omega
 rw[e1,bits_and_u64_nat x _ hx (by omega),hlow,IntKind.wrap_u64];omega
theorem tz64 (x:Nat) (hx:x<18446744073709551616) (w:World) (hT:∀ j,j<Lib.deBruijn64tab.length->w.cell? ⟨0,j,none⟩=some (.int .u8 (Lib.deBruijn64tab.getD j 0))) :
  Calls Tryz.prog 149 #[.int .u64 x] w fun e w'=>e=.returned (.int .i64 (Lib.ctz 64 x))/\w'=w:=by
 by_cases hx0:x=0
 ·subst hx0;exact tz64_zero w
 ·obtain⟨hlow,hk⟩:=Lib.lowest_bit 64 x hx0 hx;obtain⟨hi,htab⟩:=Lib.deBruijn64_at _ hk;have hcell:=hT _ hi;rw[htab] at hcell;exact tz64_core x _ _ w (by simp;omega) (tz64_key x _ hx hx0 hlow) hi hk hcell
open Go.RowKit (Below)
def memL (s:Nat):List Nat:=(List.range 64).filter s.testBit
theorem memL_mem {s i:Nat}:i∈memL s↔i<64/\s.testBit i=true:=by rw[memL,List.mem_filter,List.mem_range]
theorem filter_first {p:Nat->Bool} {k:Nat} (hk:p k=true) (h:∀ i,i<k->p i=false):∀ n,k<n->(List.range n).filter p=k::(List.range n).filter (fun i=>p i && !(i==k))
 |0,h0=>by omega
 |n+1,h0=>by
  rw[List.range_succ,List.filter_append,List.filter_append]
  by_cases e:n=k
  ·have e1:(List.range n).filter p=[]:=List.filter_eq_nil_iff.2 fun i hi=>by rw[h i (by have:=List.mem_range.1 hi;omega)];simp
   have e2:(List.range n).filter (fun i=>p i && !(i==k))=[]:=List.filter_eq_nil_iff.2 fun i hi=>by rw[h i (by have:=List.mem_range.1 hi;omega)];simp
   rw[e1,e2,e];simp[hk]
  ·have e3:(n==k)=false:=by simpa using e
   rw[filter_first hk h n (by omega),List.cons_append]
   congr 2
   simp only[List.filter_cons,List.filter_nil,e3,Bool.not_false,Bool.and_true]
theorem ctz_bits {x:Nat} (h0:x≠0) (h:x<2^64):Lib.ctz 64 x<64/\x.testBit (Lib.ctz 64 x)=true/\(∀ i,i<Lib.ctz 64 x->x.testBit i=false)/\∀ i,(x&&&(x-1)).testBit i=(x.testBit i && !(i==Lib.ctz 64 x)):=by
 obtain⟨q,hq,hk⟩:=Lib.ctzFrom_spec 64 x (by omega) h;have e:Lib.ctz 64 x=Lib.ctzFrom 64 x:=by simp[Lib.ctz,h0]
 rw[e];generalize Lib.ctzFrom 64 x=k at hq hk |-
 have hb:∀ i,x.testBit i=(decide (k<=i) && (2*q+1).testBit (i-k)):=fun i=>by
  rw[hq,Nat.testBit_two_pow_mul]
 have hp:=Nat.two_pow_pos k;have hx1:x-1=2^k*(2*q)+(2^k-1):=by rw[hq,Nat.mul_add];omega
 have hc:∀ i,(x-1).testBit i=if i<k then (2^k-1).testBit i else (2*q).testBit (i-k):=fun i=>by
  rw[hx1,Nat.testBit_two_pow_mul_add _ (by omega)]
 refine⟨hk,?_,fun i hi => ?_,fun i => ?_⟩
 ·rw[hb,decide_eq_true (Nat.le_refl k),Nat.sub_self];simp
 ·rw[hb,decide_eq_false (by omega)];rfl
 ·rw[Nat.testBit_and,hb,hc]
  by_cases hi:i<k
  ·rw[decide_eq_false (by omega)];rfl
  ·rw[if_neg hi,decide_eq_true (by omega),Bool.true_and]
   by_cases e:i=k
   ·rw[e,Nat.sub_self];simp
   ·obtain⟨j,hj⟩:∃ j,i-k=j+1:=⟨i-k-1,by omega⟩;have e3:(i==k)=false:=by simpa using e
    rw[hj,e3,Nat.testBit_succ,Nat.testBit_succ,show (2*q+1) / 2=q by omega,show 2*q / 2=q by omega]
    cases q.testBit j<;>rfl
theorem memL_step {x:Nat} (h0:x≠0) (h:x<2^64):memL x=Lib.ctz 64 x::memL (x&&&(x-1)):=by
 obtain⟨h1,h2,h3,h4⟩:=ctz_bits h0 h;rw[memL,filter_first h2 h3 64 h1,memL]
 congr 2
 funext i
 rw[h4 i]
theorem memL_zero:memL 0=[]:=by rw[memL];exact List.filter_eq_nil_iff.2 fun i _=>by rw[Nat.zero_testBit];simp
def q0z (l:List Nat):PV:=.sl (l.map i64)
def pullN (s:Nat) (ws:List Nat):Nat:=z0g (fun i=>s.testBit (ws.getD i 0)) ws.length
theorem pull_step {q:Nat->Bool} {s w i:Nat} (hs:s<2^64) (hw:w<64) (hi:i<64) (hq:q i=s.testBit w):orU (z0g q i:Nat) (shlU (andU (shrU (s:Nat) (w:Nat)) 1) (i:Nat))=((z0g q (i+1):Nat):Int):=by
 rw[bit_and s w hs hw]
 cases h:s.testBit w with
 |true=>rw[if_pos rfl];exact or_shl hi (by rw[hq,h])
 |false =>
  rw[if_neg (by decide),<- mask_no (q:=q) (w:=i) (by rw[hq,h]),show shlU 0 (i:Nat)=((0:Nat):Int) by show IntKind.wrap .u64 (0*_)=0;rw[Int.zero_mul];rfl,orU_nat (mask_lt64 q (by omega)) (by decide),Nat.or_zero]
open Go.RowKit (Below)
theorem cl_cell {W:World} {b:Nat} {v:Value} (h:Cl W b v):W.cell? ⟨b,0,none⟩=some v/\W.frozen? ⟨b,0,none⟩=false:=by
 obtain⟨ty,h⟩:=h;constructor
 ·simp[World.cell?,h]
 ·simp[World.frozen?,h]
theorem it_members (s:Nat) (hs:s<2^64):IterC Tryz.prog 163 (s:Nat) ((memL s).map Int.ofNat):=by
 refine⟨by kernel_rfl,fun l blk J Jx W hG hset hy h0 hc => ?_⟩;refine (callsIn_wide (n:=0)).1 (callsIn_of_wp Tryz.func163 rfl trivial ?_);simp only[Tryz.ntmps163,List.size_toArray,List.length_cons,List.length_nil,Nat.reduceAdd,Nat.reduceSub,Array.replicate_succ,Array.replicate_zero,List.push_toArray,List.append_toArray,List.nil_append,List.cons_append];refine wpIn_block ?_
 refine loop_sound (r:=none) (fun n a w=>∃ (i x:Nat) (v2 v3 v4 v5 v6 v7 v8 v9 v10 v11 v12 v13:Value),n=(memL x).length/\x<2^64/\i<=(memL s).length/\J i w/\Cl w blk (.int .u64 x)/\(memL s).drop i=memL x /\
  a={ tmps := #[.func (.yield l) #[] #[],.pointer (some ⟨blk,0,none⟩),v2,v3,v4,v5,v6,v7,v8,v9,v10,v11,v12,v13],defers:=[] }) ?_ ⟨_,0,s,_,_,_,_,_,_,_,_,_,_,_,_,rfl,hs,Nat.zero_le _,h0,hc,rfl,rfl⟩
 rintro n a w ⟨i,x,v2,v3,v4,v5,v6,v7,v8,v9,v10,v11,v12,v13,rfl,hx,hil0,hJ,hcl,hd,rfl⟩;obtain⟨hc1,hf1⟩:=cl_cell hcl;refine (show Code.wpIn Fence.wide 0 _ _ _ _ _ from ?_)
 by_cases hx0:x=0
 ·subst hx0
  gi_wp2
  have hl:i=(memL s).length:=by
   rw[memL_zero] at hd;have:=List.drop_eq_nil_iff.1 hd;omega
  first|go_end0|go_ret
  refine⟨⟨_,rfl⟩,.inl ?_⟩;rw[List.length_map,<- hl];exact hJ
 ·have hst:=memL_step hx0 hx
  have hil:(memL s)[i]? = some (Lib.ctz 64 x):=by
   have:(List.drop i (memL s))[0]? = some (Lib.ctz 64 x):=by rw[hd,hst];rfl
   rwa [List.getElem?_drop,Nat.add_zero] at this
  have hlt:i<(memL s).length:=(List.getElem?_eq_some_iff.1 hil).1;have hix:((memL s).map Int.ofNat)[i]? = some ((Lib.ctz 64 x:Nat):Int):=by rw[List.getElem?_map,hil];rfl
  have hd2:(memL s).drop (i+1)=memL (x&&&(x-1)):=by
   rw[<- List.drop_drop,hd,hst];rfl
  have hne:((x:Int)==0)=false:=by simpa using hx0
  have e1:IntKind.wrap .u64 ((x:Int)-1)=((x-1:Nat):Int):=by
   rw[wrapU (by omega) (by omega)];omega
  have e2:andU (x:Nat) ((x-1:Nat):Int)=((x&&&(x-1):Nat):Int):=andU_nat hx (by omega)
  gi_wp2
  refine⟨trivial,rfl,(callsIn_wide (n:=0)).2 ((tz64 x hx w (hG i w hJ).2).mono ?_)⟩;rintro e w' ⟨rfl,rfl⟩;obtain⟨fn,tm,asg,bod,hy1,hround⟩:=hy i _ w' _ hix hJ hcl
  gi_wp2
  refine⟨rfl,hround.mono ?_⟩;rintro e W2 (⟨rfl,hJ2,hcl2⟩|⟨rfl,hx2⟩)
  ·obtain⟨hc2,hf2⟩:=cl_cell hcl2;have e3:bits BinOp.and .u64 (x:Int) ((x-1:Nat):Int)=((x&&&(x-1):Nat):Int):=bits_and_u64_nat x _ hx (by omega)
   gi_wp2
   exact⟨_,by rw[hst];exact Nat.lt_succ_self _,i+1,x&&&(x-1),_,_,_,_,_,_,_,_,_,_,_,_,rfl,Nat.and_lt_two_pow _ (by omega),hlt,hset (i+1) W2 _ _ hJ2 hcl2,hcl2.set,hd2,rfl⟩
  ·gi_wp2
   refine⟨rfl,.tuple #[],?_,⟨_,rfl⟩,.inr hx2⟩;simp[results,show Tryz.f163.results = #[] from rfl]
def apN (x:Nd) (X Y:List Nd):List Nd:=wantL x.op x.i x.e x.g X Y
def impL (p q:List Nd):List Nd:=q0d (n0 7) [p,q]
def conL (p q:List Nd):List Nd:=q0d (n0 5) [p,q]
theorem fn_True:PureFn Tryz.prog 36 [] (npv (q0d (n0 1) [])):=by
 have hb:=y0g (n0 1) [] (by simp);generalize q0d (n0 1) []=z at hb |-;refine PureFn.intro mixed (fn:=Tryz.f36) rfl rfl rfl fun M w0 => ?_
 cases z with
 |nil =>
  (try conv=>whnf);repeat' (first|(refine PureFn.dcq (f:=89) rfl ?_;try conv=>whnf)|(refine⟨_,_,hb,?_,?_⟩;(focus refine⟨?_,?_,trivial⟩<;>first|exact PLe.refl _|exact PLe.nil);try conv=>whnf)|fail)
  exact .refl _
 |cons a r =>
  (try conv=>whnf);repeat' (first|(refine PureFn.dcq (f:=89) rfl ?_;try conv=>whnf)|(refine⟨_,_,hb,?_,?_⟩;(focus refine⟨?_,?_,trivial⟩<;>first|exact PLe.refl _|exact PLe.nil);try conv=>whnf)|fail)
  exact .refl _
theorem fn_False:PureFn Tryz.prog 53 [] (npv (q0d (n0 2) [])):=by
 have hb:=y0g (n0 2) [] (by simp);generalize q0d (n0 2) []=z at hb |-;refine PureFn.intro mixed (fn:=Tryz.f53) rfl rfl rfl fun M w0 => ?_
 cases z with
 |nil =>
  (try conv=>whnf);repeat' (first|(refine PureFn.dcq (f:=89) rfl ?_;try conv=>whnf)|(refine⟨_,_,hb,?_,?_⟩;(focus refine⟨?_,?_,trivial⟩<;>first|exact PLe.refl _|exact PLe.nil);try conv=>whnf)|fail)
  exact .refl _
 |cons a r =>
  (try conv=>whnf);repeat' (first|(refine PureFn.dcq (f:=89) rfl ?_;try conv=>whnf)|(refine⟨_,_,hb,?_,?_⟩;(focus refine⟨?_,?_,trivial⟩<;>first|exact PLe.refl _|exact PLe.nil);try conv=>whnf)|fail)
  exact .refl _
theorem fn_Fact (i:Int):PureFn Tryz.prog 83 [.int .i64 i] (npv (q0d (nI 3 i) [])):=by
 have hb:=y0g (nI 3 i) [] (by simp);generalize q0d (nI 3 i) []=z at hb |-;refine PureFn.intro mixed (fn:=Tryz.f83) rfl rfl rfl fun M w0 => ?_
 cases z with
 |nil =>
  (try conv=>whnf);repeat' (first|(refine PureFn.dcq (f:=89) rfl ?_;try conv=>whnf)|(refine⟨_,_,hb,?_,?_⟩;(focus refine⟨?_,?_,trivial⟩<;>first|exact PLe.refl _|exact PLe.nil);try conv=>whnf)|fail)
  exact .refl _
 |cons a r =>
  (try conv=>whnf);repeat' (first|(refine PureFn.dcq (f:=89) rfl ?_;try conv=>whnf)|(refine⟨_,_,hb,?_,?_⟩;(focus refine⟨?_,?_,trivial⟩<;>first|exact PLe.refl _|exact PLe.nil);try conv=>whnf)|fail)
  exact .refl _
theorem fn_Not (f:List Nd):PureFn Tryz.prog 37 [fpv f] (npv (q0d (n0 4) [f])):=by
 have hb:=y0g (n0 4) [f] (by simp);generalize q0d (n0 4) [f]=z at hb |-;refine PureFn.intro mixed (fn:=Tryz.f37) rfl rfl rfl fun M w0 => ?_
 cases z with
 |nil =>
  (try conv=>whnf);repeat' (first|(apply And.intro<;>try conv=>whnf)|(apply q0p;rfl)|(refine PureFn.dy hb rfl ?_;try conv=>whnf)|fail)
  exact .refl _
 |cons a r =>
  (try conv=>whnf);repeat' (first|(apply And.intro<;>try conv=>whnf)|(apply q0p;rfl)|(refine PureFn.dy hb rfl ?_;try conv=>whnf)|fail)
  exact .refl _
theorem fn_And (f g:List Nd):PureFn Tryz.prog 32 [fpv f,fpv g] (npv (q0d (n0 5) [f,g])):=by
 have hb:=y0g (n0 5) [f,g] (by simp);generalize q0d (n0 5) [f,g]=z at hb |-;refine PureFn.intro mixed (fn:=Tryz.f32) rfl rfl rfl fun M w0 => ?_
 cases z with
 |nil =>
  (try conv=>whnf);repeat' (first|(apply And.intro<;>try conv=>whnf)|(apply q0p;rfl)|(refine PureFn.dy hb rfl ?_;try conv=>whnf)|fail)
  exact .refl _
 |cons a r =>
  (try conv=>whnf);repeat' (first|(apply And.intro<;>try conv=>whnf)|(apply q0p;rfl)|(refine PureFn.dy hb rfl ?_;try conv=>whnf)|fail)
  exact .refl _
theorem fn_Or (f g:List Nd):PureFn Tryz.prog 186 [fpv f,fpv g] (npv (q0d (n0 6) [f,g])):=by
 have hb:=y0g (n0 6) [f,g] (by simp);generalize q0d (n0 6) [f,g]=z at hb |-;refine PureFn.intro mixed (fn:=Tryz.f186) rfl rfl rfl fun M w0 => ?_
 cases z with
 |nil =>
  (try conv=>whnf);repeat' (first|(apply And.intro<;>try conv=>whnf)|(apply q0p;rfl)|(refine PureFn.dy hb rfl ?_;try conv=>whnf)|fail)
  exact .refl _
 |cons a r =>
  (try conv=>whnf);repeat' (first|(apply And.intro<;>try conv=>whnf)|(apply q0p;rfl)|(refine PureFn.dy hb rfl ?_;try conv=>whnf)|fail)
  exact .refl _
theorem fn_Imp (f g:List Nd):PureFn Tryz.prog 34 [fpv f,fpv g] (npv (q0d (n0 7) [f,g])):=by
 have hb:=y0g (n0 7) [f,g] (by simp);generalize q0d (n0 7) [f,g]=z at hb |-;refine PureFn.intro mixed (fn:=Tryz.f34) rfl rfl rfl fun M w0 => ?_
 cases z with
 |nil =>
  (try conv=>whnf);repeat' (first|(apply And.intro<;>try conv=>whnf)|(apply q0p;rfl)|(refine PureFn.dy hb rfl ?_;try conv=>whnf)|fail)
  exact .refl _
 |cons a r =>
  (try conv=>whnf);repeat' (first|(apply And.intro<;>try conv=>whnf)|(apply q0p;rfl)|(refine PureFn.dy hb rfl ?_;try conv=>whnf)|fail)
  exact .refl _
theorem fn_Iff (f g:List Nd):PureFn Tryz.prog 187 [fpv f,fpv g] (npv (q0d (n0 8) [f,g])):=by
 have hb:=y0g (n0 8) [f,g] (by simp);generalize q0d (n0 8) [f,g]=z at hb |-;refine PureFn.intro mixed (fn:=Tryz.f187) rfl rfl rfl fun M w0 => ?_
 cases z with
 |nil =>
  (try conv=>whnf);repeat' (first|(apply And.intro<;>try conv=>whnf)|(apply q0p;rfl)|(refine PureFn.dy hb rfl ?_;try conv=>whnf)|fail)
  exact .refl _
 |cons a r =>
  (try conv=>whnf);repeat' (first|(apply And.intro<;>try conv=>whnf)|(apply q0p;rfl)|(refine PureFn.dy hb rfl ?_;try conv=>whnf)|fail)
  exact .refl _
theorem fn_Know (i:Int) (f:List Nd):PureFn Tryz.prog 188 [.int .i64 i,fpv f] (npv (q0d (nI 9 i) [f])):=by
 have hb:=y0g (nI 9 i) [f] (by simp);generalize q0d (nI 9 i) [f]=z at hb |-;refine PureFn.intro mixed (fn:=Tryz.f188) rfl rfl rfl fun M w0 => ?_
 cases z with
 |nil =>
  (try conv=>whnf);repeat' (first|(apply And.intro<;>try conv=>whnf)|(apply q0p;rfl)|(refine PureFn.dy hb rfl ?_;try conv=>whnf)|fail)
  exact .refl _
 |cons a r =>
  (try conv=>whnf);repeat' (first|(apply And.intro<;>try conv=>whnf)|(apply q0p;rfl)|(refine PureFn.dy hb rfl ?_;try conv=>whnf)|fail)
  exact .refl _
theorem fn_Poss (i:Int) (f:List Nd):PureFn Tryz.prog 153 [.int .i64 i,fpv f] (npv (q0d (nI 10 i) [f])):=by
 have hb:=y0g (nI 10 i) [f] (by simp);generalize q0d (nI 10 i) [f]=z at hb |-;refine PureFn.intro mixed (fn:=Tryz.f153) rfl rfl rfl fun M w0 => ?_
 cases z with
 |nil =>
  (try conv=>whnf);repeat' (first|(apply And.intro<;>try conv=>whnf)|(apply q0p;rfl)|(refine PureFn.dy hb rfl ?_;try conv=>whnf)|fail)
  exact .refl _
 |cons a r =>
  (try conv=>whnf);repeat' (first|(apply And.intro<;>try conv=>whnf)|(apply q0p;rfl)|(refine PureFn.dy hb rfl ?_;try conv=>whnf)|fail)
  exact .refl _
theorem fn_Every (i:Int) (f:List Nd):PureFn Tryz.prog 189 [.int .i64 i,fpv f] (npv (q0d (nG 11 i) [f])):=by
 have hb:=y0g (nG 11 i) [f] (by simp);generalize q0d (nG 11 i) [f]=z at hb |-;refine PureFn.intro mixed (fn:=Tryz.f189) rfl rfl rfl fun M w0 => ?_
 cases z with
 |nil =>
  (try conv=>whnf);repeat' (first|(apply And.intro<;>try conv=>whnf)|(apply q0p;rfl)|(refine PureFn.dy hb rfl ?_;try conv=>whnf)|fail)
  exact .refl _
 |cons a r =>
  (try conv=>whnf);repeat' (first|(apply And.intro<;>try conv=>whnf)|(apply q0p;rfl)|(refine PureFn.dy hb rfl ?_;try conv=>whnf)|fail)
  exact .refl _
theorem fn_Dist (i:Int) (f:List Nd):PureFn Tryz.prog 190 [.int .i64 i,fpv f] (npv (q0d (nG 12 i) [f])):=by
 have hb:=y0g (nG 12 i) [f] (by simp);generalize q0d (nG 12 i) [f]=z at hb |-;refine PureFn.intro mixed (fn:=Tryz.f190) rfl rfl rfl fun M w0 => ?_
 cases z with
 |nil =>
  (try conv=>whnf);repeat' (first|(apply And.intro<;>try conv=>whnf)|(apply q0p;rfl)|(refine PureFn.dy hb rfl ?_;try conv=>whnf)|fail)
  exact .refl _
 |cons a r =>
  (try conv=>whnf);repeat' (first|(apply And.intro<;>try conv=>whnf)|(apply q0p;rfl)|(refine PureFn.dy hb rfl ?_;try conv=>whnf)|fail)
  exact .refl _
theorem fn_Common (i:Int) (f g:List Nd):PureFn Tryz.prog 154 [.int .i64 i,fpv f,fpv g] (npv (q0d (nG 13 i) [f,g])):=by
 have hb:=y0g (nG 13 i) [f,g] (by simp);generalize q0d (nG 13 i) [f,g]=z at hb |-;refine PureFn.intro mixed (fn:=Tryz.f154) rfl rfl rfl fun M w0 => ?_
 cases z with
 |nil =>
  (try conv=>whnf);repeat' (first|(apply And.intro<;>try conv=>whnf)|(apply q0p;rfl)|(refine PureFn.dy hb rfl ?_;try conv=>whnf)|fail)
  exact .refl _
 |cons a r =>
  (try conv=>whnf);repeat' (first|(apply And.intro<;>try conv=>whnf)|(apply q0p;rfl)|(refine PureFn.dy hb rfl ?_;try conv=>whnf)|fail)
  exact .refl _
def redE {α:Type} (d:α) (h:Nd->α->α->α×Int):List Nd->List α->List α×Int
 | [],l=>(l,0)
 |x::r,l=>bif (h x (l.getD x.x.toNat d) (l.getD x.y.toNat d)).2 != 0 then ([],(h x (l.getD x.x.toNat d) (l.getD x.y.toNat d)).2) else redE d h r (l++[(h x (l.getD x.x.toNat d) (l.getD x.y.toNat d)).1])
theorem redE_drop {α:Type} {d:α} {h:Nd->α->α->α×Int} {c:List Nd} {l:List α} {i:Nat} {x:Nd} (hx:c[i]? = some x) :
  redE d h (c.drop i) l=bif (h x (l.getD x.x.toNat d) (l.getD x.y.toNat d)).2 != 0 then ([],(h x (l.getD x.x.toNat d) (l.getD x.y.toNat d)).2) else redE d h (c.drop (i+1)) (l++[(h x (l.getD x.x.toNat d) (l.getD x.y.toNat d)).1]):=by
 obtain⟨h1,h2⟩:=List.getElem?_eq_some_iff.1 hx;rw[List.drop_eq_getElem_cons h1,h2];rfl
theorem redE_end {α:Type} {d:α} {h:Nd->α->α->α×Int} {c:List Nd} {l:List α}:redE d h (c.drop c.length) l=(l,0):=by
 rw[List.drop_length];rfl
def nz (z:List Nd):List Nd×Int:=(z,bif z.isEmpty then 8 else 0)
def lastF (r:List (List Nd)×Int):List Nd×Int:=bif r.2 != 0 then ([],r.2) else (r.1.getD (r.1.length-1) [],0)
end Go.Proofs.YtejbieopeicgkaaGreatDoor
namespace Go.Dv
open Go.RowKit (Below)
mutual
def DV.ren (ρ:Nat->Nat):DV->DV
 |.agg l=>.agg (DV.rens ρ l)
 |.tup l=>.tup (DV.rens ρ l)
 |.ref k c=>.ref (ρ k) c
 |.aref k n i c=>.aref (ρ k) n i c
 |.buf k n=>.buf (ρ k) n
 |.mp k=>.mp (ρ k)
 |.vbuf k n=>.vbuf (ρ k) n
 |.clo f a b=>.clo f (DV.rens ρ a) (DV.rens ρ b)
 |.when c d=>.when c (d.ren ρ)
 |.pv p=>.pv p
 |.e0=>.e0
 |.eptr p c=>.eptr p c
 |.fnv v=>.fnv v
 |.raw v=>.raw v
 |.any=>.any
def DV.rens (ρ:Nat->Nat):List DV->List DV
 | []=>[]
 |d::r=>d.ren ρ::DV.rens ρ r
end
def DObj.ren (ρ:Nat->Nat):DObj->DObj
 |.var cs=>.var (DV.rens ρ cs)
 |.arr sz es=>.arr sz es
 |.fz l=>.fz l
 |.mp es=>.mp es
 |.gone=>.gone
mutual
def DV.keys (p:Nat->Bool):DV->Bool
 |.agg l=>DV.keyss p l
 |.tup l=>DV.keyss p l
 |.ref k _=>p k
 |.aref k _ _ _=>p k
 |.buf k _=>p k
 |.mp k=>p k
 |.vbuf k _=>p k
 |.clo _ a b=>DV.keyss p a && DV.keyss p b
 |.when c d=>!c||d.keys p
 |_=>true
def DV.keyss (p:Nat->Bool):List DV->Bool
 | []=>true
 |d::r=>d.keys p && DV.keyss p r
end
def DObj.keys (p:Nat->Bool):DObj->Bool
 |.var cs=>DV.keyss p cs
 |_=>true
theorem keyss_iff {p:Nat->Bool}:∀ {l:List DV},DV.keyss p l=true->∀ (i:Nat) (d:DV),l[i]? = some d->d.keys p=true
 | [],_,i,d,h=>by simp at h
 |x::r,hk,i,d,h=>by
  simp only[DV.keyss,Bool.and_eq_true] at hk
  cases i with
  |zero=>simp at h;subst h;exact hk.1
  |succ i=>exact keyss_iff hk.2 i d (by simpa using h)
theorem rens_len {ρ:Nat->Nat}:∀ (l:List DV),(DV.rens ρ l).length=l.length
 | []=>rfl
 |_::r=>by rw[DV.rens,List.length_cons,List.length_cons,rens_len r]
theorem rens_get {ρ:Nat->Nat}:∀ {l:List DV} {i:Nat} {d:DV},(DV.rens ρ l)[i]? = some d->∃ d0,l[i]? = some d0/\d=d0.ren ρ
 | [],i,d,h=>by simp[DV.rens] at h
 |x::r,i,d,h=>by
  rw[DV.rens] at h
  cases i with
  |zero=>simp at h;exact⟨x,by simp,h.symm⟩
  |succ i =>
   obtain⟨d0,h1,h2⟩:=rens_get (l:=r) (i:=i) (by simpa using h);exact⟨d0,by simpa using h1,h2⟩
theorem ren_var {ρ:Nat->Nat} {o:Option DObj} {cs:List DV} (h:o.map (DObj.ren ρ)=some (.var cs)):∃ c0,o=some (.var c0)/\cs=DV.rens ρ c0:=by
 cases o with
 |none=>cases h
 |some o =>
  cases o with
  |var c0=>exact⟨c0,rfl,by simpa [DObj.ren] using h.symm⟩
  |arr=>simp[DObj.ren] at h
  |fz=>simp[DObj.ren] at h
  |mp=>simp[DObj.ren] at h
  |gone=>simp[DObj.ren] at h
theorem ren_arr {ρ:Nat->Nat} {o:Option DObj} {sz:Nat} {es:List PV} (h:o.map (DObj.ren ρ)=some (.arr sz es)):o=some (.arr sz es):=by
 cases o with
 |none=>cases h
 |some o=>cases o<;>simp[DObj.ren] at h;obtain⟨rfl,rfl⟩:=h;rfl
theorem ren_fz {ρ:Nat->Nat} {o:Option DObj} {es:List PV} (h:o.map (DObj.ren ρ)=some (.fz es)):o=some (.fz es):=by
 cases o with
 |none=>cases h
 |some o=>cases o<;>simp[DObj.ren] at h;subst h;rfl
theorem ren_mp {ρ:Nat->Nat} {o:Option DObj} {es:List (PV×PV)} (h:o.map (DObj.ren ρ)=some (.mp es)):o=some (.mp es):=by
 cases o with
 |none=>cases h
 |some o=>cases o<;>simp[DObj.ren] at h;subst h;rfl
theorem ren_some {ρ:Nat->Nat} {o:Option DObj} {x:DObj} (h:o.map (DObj.ren ρ)=some x):∃ y,o=some y/\x=y.ren ρ:=by
 cases o with
 |none=>cases h
 |some y=>exact⟨y,rfl,by simpa using h.symm⟩
theorem live_ren {ρ:Nat->Nat} {m:Loc} {o:DObj}:y0c m (o.ren ρ)↔y0c m o:=by cases o<;>exact Iff.rfl
section
variable {P:Program} {M:Nat->Prop} {w0:W0}
theorem RelV.ren {T T':Nat->Prop} {w:World} {μ μ':Nat->Loc} {L L':DH} {ρ:Nat->Nat} {p:Nat->Bool} {d:DV} {v:Value} (h:RelV T w μ L d v) (hu:d.keys p=true) (hT:∀ b,T' b->T b)
  (hL:∀ k,p k=true->L'.get (ρ k)=(L.get k).map (DObj.ren ρ)/\μ' (ρ k)=μ k):RelV T' w μ' L' (d.ren ρ) v:=by
 induction h with
 |pv q v h=>exact .pv q v (h.sub hT)
 |e0 a=>exact .e0 a
 |agg l vs h1 _ ih =>
  simp only[DV.keys] at hu;refine .agg _ vs (by rw[rens_len];exact h1) fun i d v hi hv => ?_
  obtain⟨d0,g1,rfl⟩:=rens_get hi;exact ih i d0 v g1 hv (keyss_iff hu i d0 g1)
 |tup l vs h1 _ ih =>
  simp only[DV.keys] at hu;refine .tup _ vs (by rw[rens_len];exact h1) fun i d v hi hv => ?_
  obtain⟨d0,g1,rfl⟩:=rens_get hi;exact ih i d0 v g1 hv (keyss_iff hu i d0 g1)
 |ref k c v h1 h2 =>
  obtain⟨e1,e2⟩:=hL k hu;refine .ref (ρ k) c v h1 fun cs hc => ?_
  rw[e1] at hc;obtain⟨c0,hc0,_⟩:=ren_var hc;rw[e2];exact h2 c0 hc0
 |aref k m i c v h1 h2 h3 =>
  obtain⟨e1,e2⟩:=hL k hu;exact .aref (ρ k) m i c v h1 (fun sz es hc=>by rw[e1] at hc;rw[e2];exact h2 sz es (ren_arr hc)) (fun es hc=>by rw[e1] at hc;rw[e2];exact h3 es (ren_fz hc))
 |eptr q c b off val h1 h2 h3 h4=>exact .eptr q c b off val (fun hb=>h1 (hT b hb)) h2 h3 fun j q hj=>(h4 j q hj).sub hT
 |buf k m v h1 h2 h3 =>
  obtain⟨e1,e2⟩:=hL k hu;exact .buf (ρ k) m v h1 (fun sz es hc=>by rw[e1] at hc;rw[e2];exact h2 sz es (ren_arr hc)) (fun es hc=>by rw[e1] at hc;rw[e2];exact h3 es (ren_fz hc))
 |vbuf k n v h1 h2 =>
  obtain⟨e1,e2⟩:=hL k hu;refine .vbuf (ρ k) n v h1 fun cs hc => ?_
  rw[e1] at hc;obtain⟨c0,hc0,_⟩:=ren_var hc;rw[e2];exact h2 c0 hc0
 |mp k v h1 h2 =>
  obtain⟨e1,e2⟩:=hL k hu;exact .mp (ρ k) v h1 fun es hc=>by rw[e1] at hc;rw[e2];exact h2 es (ren_mp hc)
 |clo f first caps fs cs h1 h2 _ _ ih1 ih2 =>
  simp only[DV.keys,Bool.and_eq_true] at hu;refine .clo f _ _ fs cs (by rw[rens_len];exact h1) (by rw[rens_len];exact h2) (fun i d v hi hv => ?_) (fun i d v hi hv => ?_)
  ·obtain⟨d0,g1,rfl⟩:=rens_get hi;exact ih1 i d0 v g1 hv (keyss_iff hu.1 i d0 g1)
  ·obtain⟨d0,g1,rfl⟩:=rens_get hi;exact ih2 i d0 v g1 hv (keyss_iff hu.2 i d0 g1)
 |fnv v=>exact .fnv v
 |when c d v _ h2 ih=>exact .when c _ v (fun hc=>ih hc (by simpa [DV.keys,hc] using hu)) h2
 |raw v=>exact .raw v
 |any v=>exact .any v
theorem ObjRel.ren {T T':Nat->Prop} {w:World} {μ μ':Nat->Loc} {L L':DH} {ρ:Nat->Nat} {p:Nat->Bool} {k k':Nat} {o:DObj} (h:ObjRel T w μ L k o) (hu:o.keys p=true) (hk:μ' k'=μ k) (hT:∀ b,T' b->T b)
  (hL:∀ k,p k=true->L'.get (ρ k)=(L.get k).map (DObj.ren ρ)/\μ' (ρ k)=μ k):ObjRel T' w μ' L' k' (o.ren ρ):=by
 cases o with
 |var cs =>
  obtain⟨vs,ty,h1,h2,h3⟩:=h;refine⟨vs,ty,by rw[hk];exact h1,by rw[rens_len];exact h2,fun i d v hi hv => ?_⟩;obtain⟨d0,g1,rfl⟩:=rens_get hi;exact (h3 i d0 v g1 hv).ren (keyss_iff hu i d0 g1) hT hL
 |arr sz es =>
  rcases h with⟨h1,h2⟩|⟨vs,ty,h1,h2,h3,h4,h5,h6⟩
  ·exact .inl ⟨by rw[hk];exact h1,h2⟩
  ·refine .inr ⟨vs,ty,by rw[hk];exact h1,by rw[hk];exact h2,by rw[hk];exact h3,by rw[hk];exact h4,h5,fun i p j q hp hq => ?_⟩;obtain⟨v,g1,g2⟩:=h6 i p j q hp hq;exact⟨v,g1,g2.sub hT⟩
 |fz l =>
  rcases h with⟨h1,h2⟩|⟨h1,h2,h3⟩
  ·exact .inl ⟨by rw[hk];exact h1,h2⟩
  ·exact .inr ⟨by rw[hk];exact h1,by rw[hk];exact h2,by rw[hk];exact h3.sub hT⟩
 |gone=>trivial
 |mp es =>
  obtain⟨ents,clock,h1,h2,h3⟩:=h;exact⟨ents,clock,by rw[hk];exact h1,h2,fun i kv e hi he=>⟨(h3 i kv e hi he).1.sub hT,(h3 i kv e hi he).2.sub hT⟩⟩
mutual
theorem keys_under (n:Nat):∀ d:DV,d.keys (fun k=>Nat.blt k n)=d.under n
 |.agg l=>by simp only[DV.keys,DV.under];exact keyss_unders n l
 |.tup l=>by simp only[DV.keys,DV.under];exact keyss_unders n l
 |.ref _ _=>rfl
 |.aref _ _ _ _=>rfl
 |.buf _ _=>rfl
 |.mp _=>rfl
 |.vbuf _ _=>rfl
 |.clo _ a b=>by simp only[DV.keys,DV.under,keyss_unders n a,keyss_unders n b]
 |.when c d=>by simp only[DV.keys,DV.under,keys_under n d]
 |.pv _=>rfl
 |.e0=>rfl
 |.eptr _ _=>rfl
 |.fnv _=>rfl
 |.raw _=>rfl
 |.any=>rfl
theorem keyss_unders (n:Nat):∀ l:List DV,DV.keyss (fun k=>Nat.blt k n) l=DV.unders n l
 | []=>rfl
 |d::r=>by simp only[DV.keyss,DV.unders,keys_under n d,keyss_unders n r]
end
mutual
theorem ren_under {n m:Nat} {ρ:Nat->Nat} (hρ:∀ k,k<n->ρ k<m):∀ d:DV,d.under n=true->(d.ren ρ).under m=true
 |.agg l,h=>by simp only[DV.under,DV.ren] at h |-;exact rens_under hρ l h
 |.tup l,h=>by simp only[DV.under,DV.ren] at h |-;exact rens_under hρ l h
 |.ref k _,h=>by simp only[DV.under,DV.ren,Nat.blt_eq] at h |-;exact hρ k h
 |.aref k _ _ _,h=>by simp only[DV.under,DV.ren,Nat.blt_eq] at h |-;exact hρ k h
 |.buf k _,h=>by simp only[DV.under,DV.ren,Nat.blt_eq] at h |-;exact hρ k h
 |.mp k,h=>by simp only[DV.under,DV.ren,Nat.blt_eq] at h |-;exact hρ k h
 |.vbuf k _,h=>by simp only[DV.under,DV.ren,Nat.blt_eq] at h |-;exact hρ k h
 |.clo _ a b,h=>by
  simp only[DV.under,DV.ren,Bool.and_eq_true] at h |-;exact⟨rens_under hρ a h.1,rens_under hρ b h.2⟩
 |.when c d,h=>by
  simp only[DV.under,DV.ren] at h |-
  cases c with
  |false=>rfl
  |true=>simpa using ren_under hρ d (by simpa using h)
 |.pv _,_=>rfl
 |.e0,_=>rfl
 |.eptr _ _,_=>rfl
 |.fnv _,_=>rfl
 |.raw _,_=>rfl
 |.any,_=>rfl
theorem rens_under {n m:Nat} {ρ:Nat->Nat} (hρ:∀ k,k<n->ρ k<m):∀ l:List DV,DV.unders n l=true->DV.unders m (DV.rens ρ l)=true
 | [],_=>rfl
 |d::r,h=>by
  simp only[DV.unders,DV.rens,Bool.and_eq_true] at h |-;exact⟨ren_under hρ d h.1,rens_under hρ r h.2⟩
end
theorem obj_keys {n:Nat}:∀ {o:DObj},o.under n=true->o.keys (fun k=>Nat.blt k n)=true
 |.var cs,h=>by simp only[DObj.under] at h;simp only[DObj.keys];rw[keyss_unders];exact h
 |.arr _ _,_=>rfl
 |.fz _,_=>rfl
 |.mp _,_=>rfl
 |.gone,_=>rfl
theorem obj_ren_under {n m:Nat} {ρ:Nat->Nat} (hρ:∀ k,k<n->ρ k<m):∀ {o:DObj},o.under n=true->(o.ren ρ).under m=true
 |.var cs,h=>rens_under hρ cs h
 |.arr _ _,_=>rfl
 |.fz _,_=>rfl
 |.mp _,_=>rfl
 |.gone,_=>rfl
def DH.mergeR (L:DH) (ρ σ:Nat->Nat) (p:Nat->Bool) (L':DH):DH:={ L with get:=fun k=>bif p k then (L'.get (σ k)).map (DObj.ren ρ) else L.get k }
theorem mergeR_in {L L':DH} {ρ σ:Nat->Nat} {p:Nat->Bool} {k:Nat} (h:p k=true):(L.mergeR ρ σ p L').get k=(L'.get (σ k)).map (DObj.ren ρ):=by
 simp only[DH.mergeR,h,cond_true]
theorem z0x {L L':DH} {ρ σ:Nat->Nat} {p:Nat->Bool} {k:Nat} (h:p k=false):(L.mergeR ρ σ p L').get k=L.get k:=by
 simp only[DH.mergeR,h,cond_false]
theorem DC.ren {f:FuncId} {args:List DV} {L H:DH} {K:DV->DH->Prop} (ρ σ:Nat->Nat) (p:Nat->Bool) (h1:∀ k,k<H.next->p (ρ k)=true/\σ (ρ k)=k/\ρ k<L.next) (h2:∀ k,p k=true->σ k<H.next/\ρ (σ k)=k)
  (hag:∀ k,k<H.next->H.get k=(L.get (ρ k)).map (DObj.ren σ)) (hkp:∀ k o,k<H.next->L.get (ρ k)=some o->o.keys p=true) (hnone:∀ k,H.next<=k->H.get k=none) (hlo:H.lo=0) (hlo':L.lo=0)
  (hbase:H.base<=H.next) (hkeys:∀ k o,H.get k=some o->o.under H.next=true) (hargs:DV.keyss p args=true) (hargsU:DV.unders H.next (DV.rens σ args)=true)
  (h:∀ M,DC P M w0.no f (DV.rens σ args) H fun d L'=>L'.next=H.next/\K (d.ren ρ) (L.mergeR ρ σ p L')):DC P M w0 f args L K:=by
 refine DC.mk ⟨(h M).elim.1,fun μ w vs hr hu hrel => ?_⟩
 have hlt:∀ k o,H.get k=some o->k<H.next:=fun k o hk=>by
  rcases Nat.lt_or_ge k H.next with h'|h'
  ·exact h'
  ·rw[hnone k h'] at hk;cases hk
 have hsub:∀ k o,H.get k=some o->∃ o',L.get (ρ k)=some o'/\o=o'.ren σ:=fun k o hk=>by
  rw[hag k (hlt k o hk)] at hk;exact ren_some hk
 let M':Nat->Prop:=fun b=>M b\/∃ k o,p k=false/\L.get k=some o/\y0c (μ k) o/\(μ k).blk=b
 let μH:Nat->Loc:=fun k=>μ (ρ k)
 have hin:∀ k o,p k=true->L.get k=some o->H.get (σ k)=some (o.ren σ):=fun k o hk ho=>by
  obtain⟨g1,g2⟩:=h2 k hk;rw[hag _ g1,g2,ho];rfl
 have hT:∀ b,Tot M' μH H b↔Tot M μ L b:=fun b=>by
  constructor
  ·rintro ((hb|⟨k,o,_,h2,h3,h4⟩)|⟨k,o,q1,q2,q3⟩)
   ·exact .inl hb
   ·exact .inr ⟨k,o,h2,h3,h4⟩
   ·obtain⟨o',g1,rfl⟩:=hsub k o q1;exact .inr ⟨ρ k,o',g1,live_ren.1 q2,q3⟩
  ·rintro (hb|⟨k,o,q1,q2,q3⟩)
   ·exact .inl (.inl hb)
   ·cases hp:p k with
    |true =>
     obtain⟨g1,g2⟩:=h2 k hp;refine .inr ⟨σ k,o.ren σ,hin k o hp q1,?_,?_⟩
     ·show y0c (μ (ρ (σ k))) _
      rw[g2];exact live_ren.2 q2
     ·show (μ (ρ (σ k))).blk=b
      rw[g2];exact q3
    |false=>exact .inl (.inr ⟨k,o,hp,q1,q2,q3⟩)
 have hLH:∀ k,p k=true->H.get (σ k)=(L.get k).map (DObj.ren σ)/\μH (σ k)=μ k:=fun k hk=>by
  obtain⟨g1,g2⟩:=h2 k hk;exact⟨by rw[hag _ g1,g2],by show μ (ρ (σ k))=μ k;rw[g2]⟩
 have hrH:HR M' w0 μH H w:=by
  refine⟨hr.ext,?_,fun k o hk=>⟨hlt k o hk,hkeys k o hk⟩,?_,?_,?_,hbase,by rw[hlo];exact Nat.zero_le _,hr.glb⟩
  ·rintro b (hb|⟨k,o,_,q2,q3,rfl⟩)
   ·exact hr.mlt b hb
   ·exact (hr.live k o q2 q3).1
  ·intro k o hk hl;obtain⟨o',g0,rfl⟩:=hsub k o hk;obtain⟨g1,g2,g3⟩:=hr.live (ρ k) o' g0 (live_ren.1 hl);refine⟨g1,?_,fun _=>g3 (by rw[hlo'];exact Nat.zero_le _)⟩;rintro (hb|⟨k',o2,hk',q2,q3,q4⟩)
   ·exact g2 hb
   ·have:=hr.inj k' o2 (ρ k) o' q2 q3 g0 (live_ren.1 hl) q4;rw[this,(h1 k (hlt k _ hk)).1] at hk'
    cases hk'
  ·intro k o k' o' q1 q2 q3 q4 q5;obtain⟨a,a1,rfl⟩:=hsub k o q1;obtain⟨b,b1,rfl⟩:=hsub k' o' q3;have e:=hr.inj (ρ k) a (ρ k') b a1 (live_ren.1 q2) b1 (live_ren.1 q4) q5;rw[<- (h1 k (hlt k _ q1)).2.1,<- (h1 k' (hlt k' _ q3)).2.1,e]
  ·intro k o hk;obtain⟨o',g0,rfl⟩:=hsub k o hk;exact (hr.obj (ρ k) o' g0).ren (hkp k o' (hlt k _ hk) g0) rfl (fun b hb=>(hT b).1 hb) hLH
 have hrelH:RelVs (Tot M' μH H) w μH H (DV.rens σ args) vs:=⟨by rw[rens_len];exact hrel.1,fun i d v hd hv=>by
  obtain⟨d0,g1,rfl⟩:=rens_get hd
  exact (hrel.2 i d0 v g1 hv).ren (keyss_iff hargs i d0 g1) (fun b hb=>(hT b).1 hb) hLH⟩
 refine ((h M').elim.2 μH w vs (hrH.same rfl) hargsU hrelH).mono ?_;intro e w' hfin;obtain⟨v,he,μ',d,L',⟨hn',hK⟩,hr',hv,hdu,hs⟩:=hfin.no
 let μL:Nat->Loc:=fun k=>bif p k then μ' (σ k) else μ k
 have hμin:∀ k,p k=true->μL k=μ' (σ k):=fun k hk=>by show (bif p k then _ else _)=_;rw[hk];rfl
 have hμout:∀ k,p k=false->μL k=μ k:=fun k hk=>by show (bif p k then _ else _)=_;rw[hk];rfl
 refine .inl ⟨v,he,μL,d.ren ρ,L.mergeR ρ σ p L',hK,?_⟩;have hk':∀ k o,L'.get k=some o->k<H.next:=fun k o hk=>by have:=(hr'.keys k o hk).1;omega
 have hframe:∀ k o,p k=false->L.get k=some o->y0c (μ k) o->w'.heap[(μ k).blk]? = w.heap[(μ k).blk]? := by
  intro k o hk hg hl;refine hs.same _ (hr.live k o hg hl).1 ?_;rintro⟨j,o',q1,q2,q3,q4⟩;obtain⟨a,a1,rfl⟩:=hsub j o' q2;have:=hr.inj (ρ j) a k o a1 (live_ren.1 q3) hg hl q4;rw[<- this,(h1 j (hlt j _ q2)).1] at hk
  cases hk
 have hW:∀ b,Wbl μH H b->Wbl μ L b:=by
  rintro b ⟨k,o,q1,q2,q3,q4⟩;obtain⟨a,a1,rfl⟩:=hsub k o q2;exact⟨ρ k,a,by rw[hlo'];exact Nat.zero_le _,a1,live_ren.1 q3,q4⟩
 have hback:∀ k o,p k=true->(L.mergeR ρ σ p L').get k=some o->∃ o',L'.get (σ k)=some o'/\o=o'.ren ρ:=fun k o hk ho=>by
  rw[mergeR_in hk] at ho;exact ren_some ho
 have hstp:Stp L μ w (L.mergeR ρ σ p L') μL w':=by
  refine⟨⟨?_,?_,?_,?_⟩,hs.os,hs.tape,hs.output,hs.size,fun b hb hn=>hs.same b hb fun hw=>hn (hW b hw),?_,Nat.le_refl _,rfl,rfl⟩
  ·intro k cs' hkl hc
   cases hp:p k with
   |true =>
    rw[mergeR_in hp] at hc;rw[hμin k hp];obtain⟨c0,g1,_⟩:=ren_var hc;obtain⟨cs,g2,g3⟩:=hs.evo.var (σ k) c0 (h2 k hp).1 g1;obtain⟨a,a1,a2⟩:=hsub (σ k) _ g2;rw[(h2 k hp).2] at a1
    cases a with
    |var ca=>exact⟨ca,a1,by rw[g3];show μ (ρ (σ k))=μ k;rw[(h2 k hp).2]⟩
    |arr=>simp[DObj.ren] at a2
    |fz=>simp[DObj.ren] at a2
    |mp=>simp[DObj.ren] at a2
    |gone=>simp[DObj.ren] at a2
   |false =>
    rw[z0x hp] at hc;rw[hμout k hp];exact⟨cs',hc,rfl⟩
  ·intro k cs' hkl hc
   cases hp:p k with
   |true =>
    rw[mergeR_in hp] at hc;rw[hμin k hp];obtain⟨cs,g2,g3⟩:=hs.evo.mp (σ k) cs' (h2 k hp).1 (ren_mp hc);obtain⟨a,a1,a2⟩:=hsub (σ k) _ g2;rw[(h2 k hp).2] at a1;have a3:=ren_mp (ρ:=σ) (o:=some a) (es:=cs) (by rw[a2];rfl);exact⟨cs,by rw[a1];exact a3,by rw[g3];show μ (ρ (σ k))=μ k;rw[(h2 k hp).2]⟩
   |false =>
    rw[z0x hp] at hc;rw[hμout k hp];exact⟨cs',hc,rfl⟩
  ·intro k sz es' hkl hc
   cases hp:p k with
   |true =>
    rw[mergeR_in hp] at hc;rw[hμin k hp];obtain⟨es,g2,g3⟩:=hs.evo.arr (σ k) sz es' (h2 k hp).1 (ren_arr hc);obtain⟨a,a1,a2⟩:=hsub (σ k) _ g2;rw[(h2 k hp).2] at a1;have a3:=ren_arr (ρ:=σ) (o:=some a) (sz:=sz) (es:=es) (by rw[a2];rfl);refine⟨es,by rw[a1];exact a3,?_⟩
    rcases g3 with g3|⟨g3,g4⟩
    ·exact .inl g3
    ·exact .inr ⟨g3,by rw[g4];show μ (ρ (σ k))=μ k;rw[(h2 k hp).2]⟩
   |false =>
    rw[z0x hp] at hc;rw[hμout k hp];exact⟨es',hc,.inr ⟨rfl,rfl⟩⟩
  ·intro k es' hkl hc
   cases hp:p k with
   |true =>
    rw[mergeR_in hp] at hc;rw[hμin k hp];have em:μH (σ k)=μ k:=by show μ (ρ (σ k))=μ k;rw[(h2 k hp).2]
    rcases hs.evo.fz (σ k) es' (h2 k hp).1 (ren_fz hc) with⟨g2,g3⟩|⟨sz,es,g2,g3,g4⟩
    ·obtain⟨a,a1,a2⟩:=hsub (σ k) _ g2;rw[(h2 k hp).2] at a1;have a3:=ren_fz (ρ:=σ) (o:=some a) (es:=es') (by rw[a2];rfl);exact .inl ⟨by rw[a1];exact a3,by rw[g3];exact em⟩
    ·obtain⟨a,a1,a2⟩:=hsub (σ k) _ g2;rw[(h2 k hp).2] at a1;have a3:=ren_arr (ρ:=σ) (o:=some a) (sz:=sz) (es:=es) (by rw[a2];rfl);refine .inr ⟨sz,es,by rw[a1];exact a3,g3,?_⟩
     rcases g4 with g4|⟨g4,g5⟩
     ·exact .inl g4
     ·exact .inr ⟨g4,by rw[g5];exact em⟩
   |false =>
    rw[z0x hp] at hc;rw[hμout k hp];exact .inl ⟨hc,rfl⟩
  ·intro k o hc hl
   cases hp:p k with
   |true =>
    obtain⟨o',g1,rfl⟩:=hback k o hp hc;rw[hμin k hp] at hl |-
    rcases hs.blk (σ k) o' g1 (live_ren.1 hl) with⟨q1,⟨o0,q2,q3⟩,q4⟩|q1
    ·obtain⟨a,a1,rfl⟩:=hsub (σ k) _ q2;rw[(h2 k hp).2] at a1;have em:μH (σ k)=μ k:=by show μ (ρ (σ k))=μ k;rw[(h2 k hp).2]
     rw[em] at q3 q4;exact .inl ⟨(hr.keys k a a1).1,⟨a,a1,live_ren.1 q3⟩,q4⟩
    ·exact .inr q1
   |false =>
    rw[z0x hp] at hc;rw[hμout k hp] at hl |-;exact .inl ⟨(hr.keys k o hc).1,⟨o,hc,hl⟩,rfl⟩
 have hT':∀ b,Tot M μL (L.mergeR ρ σ p L') b->Tot M' μ' L' b:=by
  rintro b (hb|⟨k,o,q1,q2,q3⟩)
  ·exact .inl (.inl hb)
  ·cases hp:p k with
   |true =>
    obtain⟨o',g1,rfl⟩:=hback k o hp q1;rw[hμin k hp] at q2 q3;exact .inr ⟨σ k,o',g1,live_ren.1 q2,q3⟩
   |false =>
    rw[z0x hp] at q1;rw[hμout k hp] at q2 q3;exact .inl (.inr ⟨k,o,hp,q1,q2,q3⟩)
 have hL':∀ k,Nat.blt k H.next=true->(L.mergeR ρ σ p L').get (ρ k)=(L'.get k).map (DObj.ren ρ)/\μL (ρ k)=μ' k:=fun k hk=>by
  have hk:k<H.next:=by simpa using hk
  obtain⟨g1,g2,_⟩:=h1 k hk;exact⟨by rw[mergeR_in g1,g2],by rw[hμin _ g1,g2]⟩
 have hnew:∀ k o,L'.get k=some o->y0c (μ' k) o->∀ j oj,p j=false->L.get j=some oj->y0c (μ j) oj->(μ' k).blk≠(μ j).blk:=by
  intro k o hk hl j oj hj q2 q3 he;exact (hr'.live k o hk hl).2.1 (.inr ⟨j,oj,hj,q2,q3,he.symm⟩)
 have hdk:d.keys (fun k=>Nat.blt k H.next)=true:=by rw[keys_under,<- hn'];exact hdu
 have hρu:∀ k,k<H.next->ρ k<L.next:=fun k hk=>(h1 k hk).2.2
 refine⟨⟨hr'.ext,fun b hb=>hr'.mlt b (.inl hb),?_,?_,?_,?_,hr.base,hr.lob,hr.glb⟩,hv.ren hdk hT' hL',ren_under hρu d (by rw[<- hn'];exact hdu),hstp⟩
 ·intro k o hk
  cases hp:p k with
  |true =>
   obtain⟨o',g1,rfl⟩:=hback k o hp hk;have g2:=(hr'.keys (σ k) o' g1).2;rw[hn'] at g2;have:=hρu (σ k) (h2 k hp).1;rw[(h2 k hp).2] at this;exact⟨this,obj_ren_under hρu g2⟩
  |false=>rw[z0x hp] at hk;exact hr.keys k o hk
 ·intro k o hk hl
  cases hp:p k with
  |true =>
   obtain⟨o',g1,rfl⟩:=hback k o hp hk;rw[hμin k hp] at hl |-;obtain⟨q1,q2,q3⟩:=hr'.live (σ k) o' g1 (live_ren.1 hl);refine⟨q1,fun hM=>q2 (.inl hM),fun _=>q3 (by rw[hs.lo,hlo];exact Nat.zero_le _)⟩
  |false =>
   rw[z0x hp] at hk;rw[hμout k hp] at hl |-;obtain⟨q1,q2,q3⟩:=hr.live k o hk hl;exact⟨Nat.lt_of_lt_of_le q1 hs.size,q2,q3⟩
 ·intro k o k' o' q1 q2 q3 q4 q5
  cases hp:p k with
  |true =>
   cases hp':p k' with
   |true =>
    obtain⟨a,a1,rfl⟩:=hback k o hp q1;obtain⟨b,b1,rfl⟩:=hback k' o' hp' q3;rw[hμin k hp] at q2 q5;rw[hμin k' hp'] at q4 q5;have e:=hr'.inj (σ k) a (σ k') b a1 (live_ren.1 q2) b1 (live_ren.1 q4) q5;rw[<- (h2 k hp).2,<- (h2 k' hp').2,e]
   |false =>
    obtain⟨a,a1,rfl⟩:=hback k o hp q1;rw[z0x hp'] at q3;rw[hμin k hp] at q2 q5;rw[hμout k' hp'] at q4 q5;exact absurd q5 (hnew (σ k) a a1 (live_ren.1 q2) k' o' hp' q3 q4)
  |false =>
   cases hp':p k' with
   |true =>
    obtain⟨b,b1,rfl⟩:=hback k' o' hp' q3;rw[z0x hp] at q1;rw[hμout k hp] at q2 q5;rw[hμin k' hp'] at q4 q5;exact absurd q5.symm (hnew (σ k') b b1 (live_ren.1 q4) k o hp q1 q2)
   |false =>
    rw[z0x hp] at q1;rw[z0x hp'] at q3;rw[hμout k hp] at q2 q5;rw[hμout k' hp'] at q4 q5;exact hr.inj k o k' o' q1 q2 q3 q4 q5
 ·intro k o hk
  cases hp:p k with
  |true =>
   obtain⟨a,a1,rfl⟩:=hback k o hp hk;have g2:=(hr'.keys (σ k) a a1).2;rw[hn'] at g2;exact (hr'.obj (σ k) a a1).ren (obj_keys g2) (hμin k hp) hT' hL'
  |false =>
   rw[z0x hp] at hk;exact (hr.obj k o hk).stp hstp (hμout k hp) (hframe k o hp hk) (hr.keys k o hk).2
end
end Go.Dv
