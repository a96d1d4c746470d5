/- Parts of the proof, one after the other: The example of the laws of compositions walked. The law ComposeOrder walked. Events that differ: what Differ of the program is answered, and events as arguments. Events with the same effect: the products are bisimilar, and alike events have the same effect (plain). Simplified action models: the joined events have the same effect, and are simplified already (plain). Action models: Equal of the reference walked, and ActionParts. The law ComposeSmaller walked. -/
import Derived.Test.YtejbieopeicgkaaGreatDoorM12
set_option maxRecDepth 100000
set_option maxHeartbeats 8000000
namespace Go.Proofs.YtejbieopeicgkaaGreatDoor
open Go Go.Dv
def sameZ:List Int→List Int→Bool
 | [],[]=>true
 |x::r,y::s=>bif x==y then sameZ r s else false
 |_,_=>false
theorem sameZ_drop {a b:List Int} {i:Nat} {x y:Int} (h1:a[i]? = some x) (h2:b[i]? = some y):sameZ (a.drop i) (b.drop i)=bif x==y then sameZ (a.drop (i+1)) (b.drop (i+1)) else false:=by
 obtain⟨p1,p2⟩:=List.getElem?_eq_some_iff.1 h1
 obtain⟨q1,q2⟩:=List.getElem?_eq_some_iff.1 h2
 rw[List.drop_eq_getElem_cons p1,List.drop_eq_getElem_cons q1,p2,q2];rfl
theorem sameZ_len:∀ {a b:List Int},a.length≠b.length→sameZ a b=false
 | [],[],h=>absurd rfl h
 | [],_::_,_=>rfl
 |_::_,[],_=>rfl
 |x::r,y::s,h=>by
  rw[sameZ,sameZ_len (a:=r) (b:=s) (by simpa using h)]
  cases (x==y)<;>rfl
theorem ri_SameInts (a b:List Int) (hl0:a.length≤1000):PureFn Tryz.prog 39 [.sl (a.map intI),.sl (b.map intI)] (.bool (sameZ a b)):=by
 refine PureFn.introC [3] mixed (fn:=Tryz.f39) rfl rfl rfl fun M w0 => ?_
 try conv=>whnf
 refine⟨{ _x:Unit // a.length=b.length },fun _=>[(0,.pv (.sl (a.map intI))),(1,.pv (.sl (b.map intI)))],fun _=>0,fun _=>[],?_,?_⟩
 ·(try conv=>whnf);repeat' (first|(apply And.intro<;>try conv=>whnf)|(intro h;try conv=>whnf)|fail)
  ·have h2:(((a.map intI).length:Int) != ((b.map intI).length:Int))=true:=h
   refine le_bool (sameZ_len ?_).symm
   intro e
   rw[List.length_map,List.length_map,e] at h2
   simp at h2
  ·refine⟨⟨(),?_⟩,(by exact Wk.sm rfl rfl rfl rfl rfl)⟩
   have h2:(((a.map intI).length:Int) != ((b.map intI).length:Int))=false:=h
   rw[List.length_map,List.length_map] at h2
   have:(a.length:Int)=b.length:=by simpa using h2
   omega
 rintro⟨_,hl⟩
 try conv=>whnf
 refine⟨{ i:Nat // i≤a.length∧sameZ a b=sameZ (a.drop i) (b.drop i) },fun i=>[(0,.pv (.sl (a.map intI))),(1,.pv (.sl (b.map intI))),(5,.pv (i64 i.1))],fun _=>0,fun _=>[],fun i=>a.length-i.1,⟨⟨0,Nat.zero_le _,rfl⟩,(by exact Wk.sm rfl rfl rfl rfl rfl)⟩,?_⟩
 rintro⟨i,hi,hs⟩
 (try conv=>whnf);repeat' (first|(apply And.intro<;>try conv=>whnf)|(intro h;try conv=>whnf)|(apply infoT;rfl)|(refine lin_plan (by kernel_rfl) ?_;try conv=>whnf)|fail)
 ·have hi':i<a.length:=by simpa using lt_dec h
  obtain⟨x,hx⟩:∃ x,a[i]? = some x:=⟨_,List.getElem?_eq_getElem hi'⟩
  obtain⟨y,hy⟩:∃ y,b[i]? = some y:=⟨_,List.getElem?_eq_getElem (by omega)⟩
  rw[sameZ_drop hx hy] at hs
  (try conv=>whnf);repeat' (first|(apply And.intro<;>try conv=>whnf)|(intro h;try conv=>whnf)|(apply infoT;rfl)|(refine⟨_,_,rfl,idx_map (by with_reducible assumption),rfl,?_⟩;try conv=>whnf)|fail)
  ·have h2:(x != y)=true:=h
   rw[show (x==y)=false by simpa using h2] at hs
   exact le_bool hs.symm
  ·have h2:(x != y)=false:=h
   rw[show (x==y)=true by simpa using h2] at hs
   exact⟨⟨i+1,hi',hs⟩,by show a.length-(i+1)<a.length-i;omega,(by refine Wk.of ?_ ?_ rfl rfl rfl<;>repeat' (first|exact trivial|exact WkD.same _|refine WkD.int ?_|refine⟨?_,?_⟩|(refine wrapA ?_ ?_ ?_;(focus simp;done);(focus (try dsimp only);omega);(focus (try dsimp only);omega))|fail))⟩
 ·have hi':i=a.length:=by have:=ge_dec (m:=(a.map intI).length) h (by simpa using hi);simpa using this
  subst hi'
  rw[List.drop_length,hl,List.drop_length] at hs
  exact le_bool hs.symm
def twoA (P Q:List Nd):Act:=⟨[P,Q],[[],[]],[[3,3]]⟩
theorem fn_two (P Q:List Nd):PureFn Tryz.prog 35 [fpv P,fpv Q] (twoA P Q).pv:=by
 refine PureFn.intro mixed (fn:=Tryz.f35) rfl rfl rfl fun M w0 => ?_
 (try conv=>whnf);repeat' (first|(apply And.intro<;>try conv=>whnf)|(apply bleI;rfl)|(apply cellsI;rfl)|(apply Or.inl;try conv=>whnf)|fail)
 ·rfl
 ·exact (show (0:Int)≤2 by decide)
 ·exact (show (2:Int)≤4294967296 by decide)
 ·exact PLe.aggs ⟨.refl _,PLe.sls ⟨.nil,.nil,trivial⟩,.refl _,trivial⟩
theorem awk31:PureFn Tryz.prog 13 [] (.bool true):=by
 obtain⟨P,qP⟩:∃ z:List Nd,z=[nI 3 0]:=⟨_,rfl⟩
 obtain⟨Q,qQ⟩:∃ z:List Nd,z=[nI 3 1]:=⟨_,rfl⟩
 have al:∀ a:Act,aloneI a=0→SmX a:=fun a h=>smx_alone h
 obtain⟨a,qa⟩:∃ a,a=pubA 1 P:=⟨_,rfl⟩
 obtain⟨b,qb⟩:∃ a,a=pubA 1 Q:=⟨_,rfl⟩
 have hSa:SmX a:=al a (by rw[qa,qP];kernel_rfl)
 have hSb:SmX b:=al b (by rw[qb,qQ];kernel_rfl)
 have hPa:PureFn Tryz.prog 22 [.int .i64 1,fpv P] (pairA (a,0)):=by
  have:=ac_Public 1 P
  rw[show pubI 1 P=(a,0) by rw[qa,qP];kernel_rfl] at this
  exact this
 have hPb:PureFn Tryz.prog 22 [.int .i64 1,fpv Q] (pairA (b,0)):=by
  have:=ac_Public 1 Q
  rw[show pubI 1 Q=(b,0) by rw[qb,qQ];kernel_rfl] at this
  exact this
 obtain⟨sk,qsk⟩:∃ a,a=pubA 1 (buildL (n0 1) []):=⟨_,rfl⟩
 have hSs:SmX sk:=al sk (by rw[qsk];kernel_rfl)
 have hSk:PureFn Tryz.prog 38 [.int .i64 1] (pairA (sk,0)):=by
  have:=ac_Skip 1
  rw[show pubI 1 (buildL (n0 1) [])=(sk,0) by rw[qsk];kernel_rfl] at this
  exact this
 have hCo:=cp_Compose a b hSa hSb fun _ _ e f he hf=>by
  have hp:b.post.getD f []=[]:=by
   rw[qb] at hf ⊢
   cases f with
   |zero=>rfl
   |succ f=>exact absurd (Nat.lt_of_succ_lt_succ hf) (Nat.not_lt_zero f)
  rw[hp]
  exact cp_asg0 a e (by rw[qa] at he ⊢;exact he) hSa
 obtain⟨c,qc⟩:∃ c,c=(composeI a b).1:=⟨_,rfl⟩
 rw[show composeI a b=(c,0) from Prod.ext qc.symm (by rw[qa,qb,qP,qQ];kernel_rfl)] at hCo
 obtain⟨I,qI⟩:∃ z,z=buildL (n0 7) [P,Q]:=⟨_,rfl⟩
 have hIm:=fm_Imp P Q
 rw[← qI] at hIm
 obtain⟨J,qJ⟩:∃ z,z=buildL (n0 5) [P,I]:=⟨_,rfl⟩
 have hAn:=fm_And P I
 rw[← qJ] at hAn
 have hcl:c.pre.length=1:=by rw[qc,qa,qb,qP,qQ];kernel_rfl
 obtain⟨cp,hcp⟩:∃ z,c.pre[0]? = some z:=⟨_,List.getElem?_eq_getElem (by rw[hcl];exact Nat.zero_lt_one)⟩
 have hSm:=fm_Same cp J
 have hsm:same cp J=true:=by
  have h1:c.pre.getD 0 []=cp:=by rw[List.getD_eq_getElem?_getD,hcp];rfl
  have h2:same ((composeI (pubA 1 [nI 3 0]) (pubA 1 [nI 3 1])).1.pre.getD 0 []) (buildL (n0 5) [[nI 3 0],buildL (n0 7) [[nI 3 0],[nI 3 1]]])=true:=by kernel_rfl
  rw[← h1,qc,qJ,qI,qa,qb,qP,qQ]
  exact h2
 rw[hsm] at hSm
 obtain⟨T,qT⟩:∃ z,z=buildL (n0 1) []:=⟨_,rfl⟩
 have hTr:=fm_True
 rw[← qT] at hTr
 obtain⟨PT,qPT⟩:∃ z,z=buildL (n0 5) [P,T]:=⟨_,rfl⟩
 have hAn2:=fm_And P T
 rw[← qPT] at hAn2
 have hTw:=fn_two P PT
 obtain⟨t1,qt1⟩:∃ z,z=twoA P PT:=⟨_,rfl⟩
 rw[← qt1] at hTw
 have ht1:aloneI t1=0:=by rw[qt1,qPT,qT,qP];kernel_rfl
 have hSf:=cp_Simplify t1 (al t1 ht1) (fun _=>by
  have hn:(evtL (smpA t1)).length=2:=by rw[qt1,qPT,qT,qP];kernel_rfl
  rw[hn]
  have hk:fsN (sfZ t1) 0=0∧fsN (sfZ t1) 1=0:=by rw[qt1,qPT,qT,qP];exact⟨by kernel_rfl,by kernel_rfl⟩
  intro e he
  rcases e with _|_|e
  ·exact⟨by rw[hk.1];decide,by rw[hk.1,hk.1]⟩
  ·exact⟨by rw[hk.2];decide,by rw[hk.2,hk.1]⟩
  ·omega)
 obtain⟨S,qS⟩:∃ z,z=(sfyI t1).1:=⟨_,rfl⟩
 rw[show sfyI t1=(S,[0,0],0) from Prod.ext qS.symm (by rw[qt1,qPT,qT,qP];kernel_rfl)] at hSf
 have hSl:S.pre.length=1:=by rw[qS,qt1,qPT,qT,qP];kernel_rfl
 obtain⟨N1,qN1⟩:∃ z,z=buildL (n0 4) [P]:=⟨_,rfl⟩
 have hN1:=fm_Not P
 rw[← qN1] at hN1
 obtain⟨N2,qN2⟩:∃ z,z=buildL (n0 4) [N1]:=⟨_,rfl⟩
 have hN2:=fm_Not N1
 rw[← qN2] at hN2
 have hTw2:=fn_two N2 P
 obtain⟨t2,qt2⟩:∃ z,z=twoA N2 P:=⟨_,rfl⟩
 rw[← qt2] at hTw2
 have ht2:aloneI t2=0:=by rw[qt2,qN2,qN1,qP];kernel_rfl
 have hAl1:=cp_Alike a t2 hSa (al t2 ht2) 0 0
 rw[show alikeP a 0 t2 0=.tup [.bool true,.int .i64 0] by rw[qa,qt2,qN2,qN1,qP];kernel_rfl] at hAl1
 obtain⟨t3,qt3⟩:∃ z:Act,z=⟨[N2],[[]],[[1]]⟩:=⟨_,rfl⟩
 have ht3:aloneI t3=0:=by rw[qt3,qN2,qN1,qP];kernel_rfl
 have hAl2:=cp_Alike a t3 hSa (al t3 ht3) 0 0
 rw[show alikeP a 0 t3 0=.tup [.bool true,.int .i64 0] by rw[qa,qt3,qN2,qN1,qP];kernel_rfl] at hAl2
 have hAl3:PureFn Tryz.prog 21 [a.pv,.int .i64 0,.agg [.sl [fpv N2],.sl [.nil],.sl [rowPV [1]]],.int .i64 0] (.tup [.bool true,.int .i64 0]):=by
  rw[qt3] at hAl2
  exact hAl2.le ⟨.refl _,.refl _,PLe.aggs ⟨.refl _,PLe.sls ⟨.nil,trivial⟩,.refl _,trivial⟩,.refl _,trivial⟩
 obtain⟨m,qm⟩:∃ m:Mo,m=⟨1,[0],[[1]]⟩:=⟨_,rfl⟩
 have hf:FitM m:=by
  rw[qm]
  refine⟨fun s hs => ?_,fun r hr s hs => ?_⟩
  ·rw[List.mem_singleton.1 hs];decide
  ·rw[List.mem_singleton.1 hr] at hs
   have:s=1:=by simpa using hs
   rw[this];decide
 have hDf:=cp_Differ m (sk,0) (a,0) hf hSs hSa (fun _=>false) (fun _ w hw _ h2=>by
  exfalso
  have hn:m.n.toNat=1:=by rw[qm];rfl
  have hw0:w=0:=by omega
  subst hw0
  have:(preS m (a,0)).testBit 0=false:=by rw[qm,qa,qP];kernel_rfl
  rw[this] at h2;cases h2)
 rw[show difI m (sk,0) (a,0) (fun _=>false)=(0,0) by rw[qm,qsk,qa,qP];kernel_rfl] at hDf
 have hRI:=ri_SameInts [0,0] [0,0] (by decide)
 rw[show sameZ [0,0] [0,0]=true from rfl] at hRI
 have hcl':((c.pre.map fpv).length:Int)=1:=by rw[List.length_map,hcl];rfl
 have hSl':((S.pre.map fpv).length:Int)=1:=by rw[List.length_map,hSl];rfl
 have hix:=idx_map (g:=fpv) hcp
 clear hsm hcl hSl qc qJ qI qPT qT qS qt1 qt2 qt3 qN2 qN1 ht1 ht2 ht3 hf hSa hSb hSs hAl2 qa qb qsk al
 subst qm
 refine PureFn.introC [2,3,4,5,7,8,9,10,11,12,13] mixed (fn:=Tryz.f13) rfl rfl rfl fun M w0 => ?_
 try conv=>whnf
 refine⟨Unit,fun _=>[(1,.pv (fpv P)),(2,.pv (fpv Q))],fun _=>0,fun _=>[],?_,?_⟩
 ·subst qP qQ
  (try conv=>whnf);repeat' (first|(apply And.intro<;>try conv=>whnf)|(apply cellsI;rfl)|fail)
  exact⟨(),(by exact Wk.sm rfl rfl rfl rfl rfl)⟩
 rintro⟨⟩
 clear qP qQ
 refine⟨Unit,fun _=>[(1,.pv (fpv P)),(2,.pv (fpv Q)),(3,.ref 0 0),(4,.pv (.int .i64 0))],fun _=>1,fun _=>[(0,.var (cellsA a))],?_,?_⟩
 ·(try conv=>whnf);repeat' (first|(refine PureFn.dy hPa rfl ?_;try conv=>whnf)|fail)
  exact⟨(),(by exact Wk.sm rfl rfl rfl rfl rfl)⟩
 rintro⟨⟩
 refine⟨Unit,fun _=>[(1,.pv (fpv P)),(2,.pv (fpv Q)),(3,.ref 0 0),(4,.pv (.int .i64 0)),(5,.ref 1 0),(6,.pv (.int .i64 0))],fun _=>2,fun _=>[(0,.var (cellsA a)),(1,.var (cellsA b))],?_,?_⟩
 ·(try conv=>whnf);repeat' (first|(refine PureFn.dy hPb rfl ?_;try conv=>whnf)|fail)
  exact⟨(),(by exact Wk.sm rfl rfl rfl rfl rfl)⟩
 rintro⟨⟩
 refine⟨Unit,fun _=>[(1,.pv (fpv P)),(2,.pv (fpv Q)),(3,.ref 0 0),(4,.pv (.int .i64 0)),(6,.pv (.int .i64 0)),(7,.ref 2 0),(8,.pv (.int .i64 0))],fun _=>3,fun _=>[(0,.var (cellsA a)),(2,.var (cellsA c))],?_,?_⟩
 ·(try conv=>whnf);repeat' (first|(refine PureFn.dy hCo rfl ?_;try conv=>whnf)|fail)
  exact⟨(),(by exact Wk.sm rfl rfl rfl rfl rfl)⟩
 rintro⟨⟩
 refine⟨Unit,fun _=>[(1,.pv (fpv P)),(3,.ref 0 0)],fun _=>3,fun _=>[(0,.var (cellsA a))],?_,?_⟩
 ·(try conv=>whnf);repeat' (first|(apply And.intro<;>try conv=>whnf)|(intro h;try conv=>whnf)|apply True.intro|(apply infoT;rfl)|(apply WhenQ.mk;(try conv=>whnf);rotate_left;(try conv=>whnf);rotate_right)|with_reducible assumption|(apply not_of;with_reducible assumption)|(refine lin_plan (by kernel_rfl) ?_;try conv=>whnf)|(refine⟨_,_,rfl,idx_map (by with_reducible assumption),rfl,?_⟩;try conv=>whnf)|(refine⟨_,(by (conv=>whnf);exact hIm),rfl,?_⟩;try conv=>whnf)|(refine⟨_,(by (conv=>whnf);exact hAn),rfl,?_⟩;try conv=>whnf)|(refine⟨_,(by (conv=>whnf);exact hSm),rfl,?_⟩;try conv=>whnf)|fail)
  ·exact absurd (show (bif (bif (bif (bif ((0:Int) != 0) then true else ((0:Int) != 0)) then true else ((0:Int) != 0)) then true else (((c.pre.map fpv).length:Int) != 1)) then true else !true)=true from h) (by rw[hcl'];decide)
  ·exact⟨(),(by exact Wk.sm rfl rfl rfl rfl rfl)⟩
 rintro⟨⟩
 refine⟨Unit,fun _=>[(1,.pv (fpv P)),(3,.ref 0 0),(9,.ref 3 0),(10,.pv (.sl ([0,0].map intI))),(11,.pv (.int .i64 0))],fun _=>4,fun _=>[(0,.var (cellsA a)),(3,.var (cellsA S))],?_,?_⟩
 ·(try conv=>whnf);repeat' (first|(refine PureFn.dy hTr rfl ?_;try conv=>whnf)|(refine PureFn.dy hAn2 rfl ?_;try conv=>whnf)|(refine PureFn.dy hTw rfl ?_;try conv=>whnf)|(refine PureFn.dy hSf rfl ?_;try conv=>whnf)|fail)
  exact⟨(),(by exact Wk.sm rfl rfl rfl rfl rfl)⟩
 rintro⟨⟩
 refine⟨Unit,fun _=>[(1,.pv (fpv P)),(3,.ref 0 0),(9,.ref 3 0),(10,.pv (.sl ([0,0].map intI))),(11,.pv (.int .i64 0)),(12,.pv (.bool true)),(13,.pv (.int .i64 0))],fun _=>4,fun _=>[(0,.var (cellsA a)),(3,.var (cellsA S))],?_,?_⟩
 ·(try conv=>whnf);repeat' (first|(refine lin_plan (by kernel_rfl) ?_;try conv=>whnf)|(refine⟨_,(by (conv=>whnf);exact hN1),rfl,?_⟩;try conv=>whnf)|(refine⟨_,(by (conv=>whnf);exact hN2),rfl,?_⟩;try conv=>whnf)|(refine⟨_,(by (conv=>whnf);exact hTw2),rfl,?_⟩;try conv=>whnf)|(refine⟨_,(by (conv=>whnf);exact hAl1),rfl,?_⟩;try conv=>whnf)|fail)
  exact⟨(),(by exact Wk.sm rfl rfl rfl rfl rfl)⟩
 rintro⟨⟩
 refine⟨Unit,fun _=>[(1,.pv (fpv P)),(3,.ref 0 0),(9,.ref 3 0),(10,.pv (.sl ([0,0].map intI))),(11,.pv (.int .i64 0)),(12,.pv (.bool true)),(13,.pv (.int .i64 0)),(14,.ref 4 0),(15,.pv (.int .i64 0))],fun _=>5,fun _=>[(0,.var (cellsA a)),(3,.var (cellsA S)),(4,.var (cellsA sk))],?_,?_⟩
 ·(try conv=>whnf);repeat' (first|(refine PureFn.dy hSk rfl ?_;try conv=>whnf)|fail)
  exact⟨(),(by exact Wk.sm rfl rfl rfl rfl rfl)⟩
 rintro⟨⟩
 refine⟨Unit,fun _=>[(3,.ref 0 0),(9,.ref 3 0),(10,.pv (.sl ([0,0].map intI))),(11,.pv (.int .i64 0)),(12,.pv (.bool true)),(13,.pv (.int .i64 0)),(14,.ref 4 0),(15,.pv (.int .i64 0)),(16,.pv (.bool true)),(17,.pv (.int .i64 0))],fun _=>5,fun _=>[(0,.var (cellsA a)),(3,.var (cellsA S)),(4,.var (cellsA sk))],?_,?_⟩
 ·try conv=>whnf
  refine⟨Plan.ofL [0,1,2,3,4,6,7,5,8,9,10,11,12,13,14],[],by kernel_rfl,?_⟩
  (try conv=>whnf);repeat' (first|(apply And.intro<;>try conv=>whnf)|(apply cellsI;rfl)|(refine⟨_,(by (conv=>whnf);exact hN1),rfl,?_⟩;try conv=>whnf)|(refine⟨_,(by (conv=>whnf);exact hN2),rfl,?_⟩;try conv=>whnf)|(apply Or.inl;try conv=>whnf)|fail)
  ·rfl
  ·exact (show (0:Int)≤1 by decide)
  ·exact (show (1:Int)≤4294967296 by decide)
  refine⟨.tup [.bool true,.int .i64 0],?_,rfl,?_⟩
  ·exact And.intro rfl hAl3
  try conv=>whnf
  exact⟨(),(by exact Wk.sm rfl rfl rfl rfl rfl)⟩
 rintro⟨⟩
 refine⟨Unit,fun _=>[(3,.ref 0 0),(9,.ref 3 0),(10,.pv (.sl ([0,0].map intI))),(11,.pv (.int .i64 0)),(12,.pv (.bool true)),(13,.pv (.int .i64 0)),(14,.ref 4 0),(15,.pv (.int .i64 0)),(16,.pv (.bool true)),(17,.pv (.int .i64 0)),(18,.ref 5 0)],fun _=>6,fun _=>[(0,.var (cellsA a)),(3,.var (cellsA S)),(4,.var (cellsA sk)),(5,.var (cellsM ⟨1,[0],[[1]]⟩))],?_,?_⟩
 ·(try conv=>whnf);repeat' (first|(apply And.intro<;>try conv=>whnf)|(apply cellsI;rfl)|fail)
  exact⟨(),(by exact Wk.sm rfl rfl rfl rfl rfl)⟩
 rintro⟨⟩
 refine⟨Unit,fun _=>[(9,.ref 3 0),(10,.pv (.sl ([0,0].map intI))),(11,.pv (.int .i64 0)),(12,.pv (.bool true)),(13,.pv (.int .i64 0)),(15,.pv (.int .i64 0)),(16,.pv (.bool true)),(17,.pv (.int .i64 0)),(19,.pv (.int .i64 0)),(20,.pv (.int .i64 0))],fun _=>6,fun _=>[(3,.var (cellsA S))],?_,?_⟩
 ·(try conv=>whnf);repeat' (first|(refine PureFn.dy hDf rfl ?_;try conv=>whnf)|fail)
  exact⟨(),(by exact Wk.sm rfl rfl rfl rfl rfl)⟩
 rintro⟨⟩
 (try conv=>whnf);repeat' (first|(apply And.intro<;>try conv=>whnf)|(intro h;try conv=>whnf)|apply True.intro|(apply cellsI;rfl)|(apply WhenQ.mk;(try conv=>whnf);rotate_left;(try conv=>whnf);rotate_right)|with_reducible assumption|(refine PureFn.dy hRI rfl ?_;try conv=>whnf)|fail)
 refine le_bool ?_
 rw[hSl']
 kernel_rfl
def smallI (l:List Act):Bool:=bif l.all fun a=>fewI a 20 then decide ((l.length:Int)≤5) else false
theorem fn_small (l:List Act) (hl:l.length≤1000):PureFn Tryz.prog 12 [.sl (l.map Act.pv)] (.bool (smallI l)):=by
 refine PureFn.introC [7] mixed (fn:=Tryz.f12) rfl rfl rfl fun M w0 => ?_
 have e1:((l.map Act.pv).length:Int)=(l.length:Int):=by simp
 try conv=>whnf
 refine⟨{ _x:Unit // l.all (fun a=>fewI a 20)=true },fun _=>[(0,.pv (.sl (l.map Act.pv)))],fun _=>0,fun _=>[],?_,?_⟩
 ·try conv=>whnf
  refine⟨{ i:Nat // i≤l.length∧l.all (fun a=>fewI a 20)=(l.drop i).all fun a=>fewI a 20 },fun i=>[(0,.pv (.sl (l.map Act.pv))),(5,.pv (.sl (l.map Act.pv))),(6,.pv (i64 (l.map Act.pv).length)),(7,.pv (i64 i.1))],fun _=>0,fun _=>[],fun i=>l.length-i.1,⟨⟨0,Nat.zero_le _,rfl⟩,(by exact Wk.sm rfl rfl rfl rfl rfl)⟩,?_⟩
  rintro⟨i,hi,hs⟩
  (try conv=>whnf);repeat' (first|(apply And.intro<;>try conv=>whnf)|(intro h;try conv=>whnf)|(apply infoT;rfl)|fail)
  ·have hi':i<l.length:=by simpa using lt_dec h
   obtain⟨a,ha⟩:∃ a,l[i]? = some a:=⟨_,List.getElem?_eq_getElem hi'⟩
   have hF:=ra_Few a 20
   have hd:(l.drop i).all (fun a=>fewI a 20)=bif fewI a 20 then (l.drop (i+1)).all (fun a=>fewI a 20) else false:=by
    obtain⟨q1,q2⟩:=List.getElem?_eq_some_iff.1 ha
    rw[List.drop_eq_getElem_cons q1,q2,List.all_cons]
    cases fewI a 20<;>rfl
   rw[hd] at hs
   generalize fewI a 20=b at hF hs
   refine⟨_,_,rfl,idx_map ha,rfl,?_⟩
   (try conv=>whnf);repeat' (first|(apply And.intro<;>try conv=>whnf)|(intro h;try conv=>whnf)|(refine PureFn.dy hF rfl ?_;try conv=>whnf)|fail)
   ·have hb:b=false:=by simpa using (show (!b)=true from h)
    rw[hb,cond_false] at hs
    exact le_bool (by rw[smallI,hs];rfl)
   ·have hb:b=true:=by simpa using (show (!b)=false from h)
    rw[hb,cond_true] at hs
    exact⟨⟨i+1,hi',hs⟩,by show l.length-(i+1)<l.length-i;omega,(by refine Wk.of ?_ ?_ rfl rfl rfl<;>repeat' (first|exact trivial|exact WkD.same _|refine WkD.int ?_|refine⟨?_,?_⟩|(refine wrapA ?_ ?_ ?_;(focus simp;done);(focus (try dsimp only);omega);(focus (try dsimp only);omega))|fail))⟩
  ·have hi':i=l.length:=by have:=ge_dec (m:=(l.map Act.pv).length) h (by simpa using hi);simpa using this
   subst hi'
   rw[List.drop_length] at hs
   exact⟨⟨(),hs⟩,(by exact Wk.sm rfl rfl rfl rfl rfl)⟩
 rintro⟨_,hs⟩
 try conv=>whnf
 refine le_bool ?_
 rw[smallI,hs,e1];rfl
theorem few_smx {a:Act} (hf:Fit a) (h:fewI a 20=true):SmX a:=by
 obtain⟨_,_,k3,_,k5⟩:=few_ok h
 exact⟨hf,by omega,fun x hx=>by have:=(k5 x hx).1;omega⟩
def bisAt (m:Mo) (x y:Act×Int) (w:Nat):Bool:=bif bisE (atI m w x.1 x.2).1 (atI m w x.1 x.2).2.1 (atI m w y.1 y.2).1 (atI m w y.1 y.2).2.1 != 0 then false else bisB (atI m w x.1 x.2).1 (atI m w y.1 y.2).1 (atI m w x.1 x.2).2.1.toNat (atI m w y.1 y.2).2.1.toNat
theorem noMo_fit:FitM noMo:=⟨fun s hs=>(by cases hs),fun r hr=>(by cases hr)⟩
theorem at_fit {m:Mo} {w:Int} {a:Act} {e:Int}:FitM (atI m w a e).1:=by
 unfold atI
 cases h1:((updI m a).2.2 != 0) with
 |true=>exact noMo_fit
 |false =>
  cases badW m w with
  |true=>exact noMo_fit
  |false =>
   cases badEv a e with
   |true=>exact noMo_fit
   |false =>
    rw[cond_false,cond_false,cond_false]
    split
    ·exact noMo_fit
    ·obtain⟨k1,_,k3,k4,k5⟩:=updI_ok (m:=m) (a:=a) (by simpa using h1)
     rw[k3]
     obtain⟨⟨n,hM⟩,_⟩:=moaI_ok k1
     exact (prod_ok hM k4 k5).fit
theorem cdif_dif (m:Mo) (x y:Act×Int) (hf:FitM m) (hSx:SmX x.1) (hSy:SmX y.1):PureFn Tryz.prog 14 [m.pv,evP x,evP y] (difP (difI m x y (bisAt m x y))) :=
 cp_Differ m x y hf hSx hSy _ fun _ _ _ _ _=>⟨_,bs_Bisimilar _ _ _ _ at_fit at_fit⟩
set_option maxHeartbeats 400000
structure EvRel (m:Mo) (a b:Act) (R:Nat→Nat→Prop):Prop where
 rng:∀ e f,R e f→e<a.pre.length∧f<b.pre.length
 pos:∀ e f,R e f→possP m a e=possP m b f
 val:∀ e f i,R e f→i<m.val.length→valuP m a e i=valuP m b f i
 forth:∀ e f i d,R e f→i<m.rel.length→(relA a i e).testBit d=true→d<a.pre.length→possP m a d≠0→∃ h,(relA b i f).testBit h=true∧R d h
 back:∀ e f i d,R e f→i<m.rel.length→(relA b i f).testBit d=true→d<b.pre.length→possP m b d≠0→∃ h,(relA a i e).testBit h=true∧R h d
theorem mask_congr {p q:Nat→Bool} {n:Nat} (h:∀ i,i<n→p i=q i):maskOf p n=maskOf q n:=Nat.eq_of_testBit_eq fun j=>by
 rw[maskOf_bit,maskOf_bit]
 by_cases hj:j<n
 ·rw[h j hj]
 ·rw[decide_eq_false hj];rfl
theorem bit_ne {s w:Nat} (h:s.testBit w=true):s≠0:=fun q=>by rw[q,Nat.zero_testBit] at h;cases h
def prRel (la lb:List (Nat×Nat)) (R:Nat→Nat→Prop) (k j:Nat):Prop:=∃ w e f,la[k]? = some (w,e)∧lb[j]? = some (w,f)∧R e f
section
variable {m:Mo} {n:Nat} {a b:Act} {R:Nat→Nat→Prop}
theorem EvRel.bi (h:EvRel m a b R) (hA:Pr m n a (pairsL m a)) (hB:Pr m n b (pairsL m b)):BiRel (prodM m a (pairsL m a)) (prodM m b (pairsL m b)) (pairsL m a).length (pairsL m b).length (prRel (pairsL m a) (pairsL m b) R) where
 rng:=by
  rintro k j ⟨w,e,f,h1,h2,_⟩
  exact⟨(pr_at hA h1).1,(pr_at hB h2).1⟩
 fac:=by
  rintro k j ⟨w,e,f,h1,h2,hr⟩
  rw[prod_lens.2,prod_lens.2]
  refine mask_congr fun i hi => ?_
  show (((List.range m.val.length).map (valP m a (pairsL m a))).getD i 0).testBit k=(((List.range m.val.length).map (valP m b (pairsL m b))).getD i 0).testBit j
  rw[getD_map_range hi,getD_map_range hi,valP,valP,maskOf_bit,maskOf_bit,decide_eq_true (pr_at hA h1).1,decide_eq_true (pr_at hB h2).1,getD_ofX h1,getD_ofX h2,h.val e f i hr hi]
 forth:=by
  rintro k j i x ⟨w,e,f,h1,h2,hr⟩ hi hx
  rw[prod_lens.1] at hi
  obtain⟨v,d,h3,h4,h5⟩:=(pr_row hA i k w e h1 x).1 hx
  obtain⟨_,h6,h7,h8⟩:=pr_at hA h3
  obtain⟨g,g1,g2⟩:=h.forth e f i d hr hi h5 h7 (bit_ne h8)
  have hm:(v,g)∈pairsL m b:=(hB.mem v g).2 ⟨h6,(h.rng _ _ g2).2,by rw[← h.pos _ _ g2];exact h8⟩
  obtain⟨y,hy⟩:=List.mem_iff_getElem?.1 hm
  exact⟨y,(pr_row hB i j w f h2 y).2 ⟨v,g,hy,h4,g1⟩,v,d,g,h3,hy,g2⟩
 back:=by
  rintro k j i x ⟨w,e,f,h1,h2,hr⟩ hi hx
  rw[prod_lens.1] at hi
  obtain⟨v,d,h3,h4,h5⟩:=(pr_row hB i j w f h2 x).1 hx
  obtain⟨_,h6,h7,h8⟩:=pr_at hB h3
  obtain⟨g,g1,g2⟩:=h.back e f i d hr hi h5 h7 (bit_ne h8)
  have hm:(v,g)∈pairsL m a:=(hA.mem v g).2 ⟨h6,(h.rng _ _ g2).1,by rw[h.pos _ _ g2];exact h8⟩
  obtain⟨y,hy⟩:=List.mem_iff_getElem?.1 hm
  exact⟨y,(pr_row hA i k w e h1 y).2 ⟨v,g,hy,h4,g1⟩,v,g,d,hy,h3,g2⟩
theorem upd_zero (hm:moaI m a=0) (h8:(updI m a).2.2≠8) (hp:1≤(pairsL m a).length):(updI m a).2.2=0:=by
 have hl:(((pairsL m a).length:Int)==0)=false:=by simp;rintro h;rw[h] at hp;simp at hp
 have hwo:worldsI m a=(pairsL m a,0):=by rw[worldsI,hm,hl];rfl
 have hu:updI m a=bif decide (((pairsL m a).length:Int)>64) then (noMo,[],8) else (prodM m a (pairsL m a),pairsL m a,0):=by rw[updI,hwo];rfl
 cases hd:decide (((pairsL m a).length:Int)>64) with
 |true=>rw[hd] at hu;rw[hu] at h8;exact absurd rfl h8
 |false=>rw[hu,hd];rfl
theorem at_yes {w e:Nat} (hu:(updI m a).2.2=0) (hw:w<m.n.toNat) (he:e<a.pre.length) (hp:(possP m a e).testBit w=true) :
  ∃ k:Nat,(pairsL m a)[k]? = some (w,e)∧atI m w a e=(prodM m a (pairsL m a),(k:Int),0):=by
 obtain⟨_,k2,k3,_,_⟩:=updI_ok hu
 have hmem:(w,e)∈pairsL m a:=pairsW_mem.2 ⟨hw,he,hp⟩
 have hbw:badW m w=false:=by unfold badW;rw[decide_eq_false (by omega),decide_eq_false (by omega)];rfl
 have hbe:badEv a e=false:=by unfold badEv;rw[decide_eq_false (by omega),decide_eq_false (by omega)];rfl
 have hat:atI m w a e=match (pairsL m a).findIdx? fun q=>(bif (q.1:Int)==(w:Int) then (q.2:Int)==(e:Int) else false) with
  |none=>(noMo,0,11)
  |some i=>(prodM m a (pairsL m a),(i:Int),0):=by
  rw[atI,hu,hbw,hbe,k3,k2];rfl
 rw[hat]
 cases hf:(pairsL m a).findIdx? fun q=>(bif (q.1:Int)==(w:Int) then (q.2:Int)==(e:Int) else false) with
 |none =>
  have:=List.findIdx?_eq_none_iff.1 hf (w,e) hmem
  simp at this
 |some k =>
  obtain⟨hk,hq,_⟩:=List.findIdx?_eq_some_iff_getElem.1 hf
  refine⟨k,?_,rfl⟩
  rw[List.getElem?_eq_getElem hk]
  cases hz:(((pairsL m a)[k].1:Int)==(w:Int)) with
  |false=>rw[hz] at hq;cases hq
  |true =>
   rw[hz] at hq
   have e1:(pairsL m a)[k].1=w:=by
                      have:((pairsL m a)[k].1:Int)=w:=by simpa using hz
                      omega
   have e2:(pairsL m a)[k].2=e:=by
                      have:((pairsL m a)[k].2:Int)=e:=by simpa using hq
                      omega
   rw[← e1,← e2]
theorem eff_bis (h:EvRel m a b R) {e f w:Nat} (hr:R e f) (hua:(updI m a).2.2=0) (hub:(updI m b).2.2=0) (hw:w<m.n.toNat) (hp:(possP m a e).testBit w=true) :
  bisE (atI m w a e).1 (atI m w a e).2.1 (atI m w b f).1 (atI m w b f).2.1=0∧bisB (atI m w a e).1 (atI m w b f).1 (atI m w a e).2.1.toNat (atI m w b f).2.1.toNat=true:=by
 obtain⟨he,hf⟩:=h.rng e f hr
 obtain⟨k,hk,ha⟩:=at_yes hua hw he hp
 obtain⟨j,hj,hb⟩:=at_yes hub hw hf (by rw[← h.pos e f hr];exact hp)
 rw[ha,hb]
 obtain⟨ka,_,_,a1,a64⟩:=updI_ok hua
 obtain⟨kb,_,_,b1,b64⟩:=updI_ok hub
 obtain⟨⟨n,hM⟩,hA⟩:=moaI_ok ka
 obtain⟨_,hB⟩:=moaI_ok kb
 have pA:=pr_of hM hA a1 a64
 have pB:=pr_of hM hB b1 b64
 have hbi:=h.bi pA pB
 refine⟨?_,BiRel.all (ρ:=prRel (pairsL m a) (pairsL m b) R) hbi a64 ⟨w,e,f,hk,hj,hr⟩⟩
 have q1:=(List.getElem?_eq_some_iff.1 hk).1
 have q2:=(List.getElem?_eq_some_iff.1 hj).1
 have hz:biErr (prodM m a (pairsL m a)) (prodM m b (pairsL m b))=0:=by
  rw[biErr,ok_moI pA.okp,ok_moI pB.okp,prod_lens.1,prod_lens.2,prod_lens.1,prod_lens.2]
  simp
 have n1:(prodM m a (pairsL m a)).n=((pairsL m a).length:Int):=rfl
 have n2:(prodM m b (pairsL m b)).n=((pairsL m b).length:Int):=rfl
 show bisE (prodM m a (pairsL m a)) (k:Int) (prodM m b (pairsL m b)) (j:Int)=0
 rw[bisE,hz,n1,n2,decide_eq_false (by omega),decide_eq_false (by omega),decide_eq_false (by omega),decide_eq_false (by omega)];rfl
theorem dif_zero {x y:Act×Int} (h:difG m [x,y]=0):moI m=0∧∀ z,z∈[x,y]→actI z.1 m.rel.length m.val.length=0∧(updI m z.1).2.2≠8∧∃ k:Nat,z.2=(k:Int)∧k<z.1.pre.length:=by
 unfold difG at h
 have key:∀ (c d:Int),(bif c != 0 then c else d)=0→c=0∧d=0:=fun c d h=>by
  cases q:(c != 0) with
  |true=>rw[q] at h;have h:c=0:=h;rw[h] at q;cases q
  |false=>rw[q] at h;exact⟨by simpa using q,h⟩
 obtain⟨h1,h⟩:=key _ _ h
 obtain⟨h2,h⟩:=key _ _ h
 obtain⟨h3,h4⟩:=key _ _ h
 refine⟨h1,fun z hz=>⟨firE_zero h2 z hz,?_,?_⟩⟩
 ·have:=firE_zero h4 z hz
  unfold g3D at this
  intro q
  rw[q] at this
  cases this
 ·have hg:=firE_zero h3 z hz
  unfold g2D at hg
  cases hb:badEv z.1 z.2 with
  |true=>rw[hb] at hg;cases hg
  |false =>
   unfold badEv at hb
   cases g1:decide (z.2<0) with
   |true=>rw[g1] at hb;cases hb
   |false =>
    rw[g1] at hb
    have g2:=of_decide_eq_false (show decide (z.2≥(z.1.pre.length:Int))=false from hb)
    have g3:=of_decide_eq_false g1
    exact⟨z.2.toNat,by omega,by omega⟩
theorem eff_dif {e f:Nat} (hd:difG m [(a,(e:Int)),(b,(f:Int))]=0) (h:EvRel m a b R) (hr:R e f):difI m (a,(e:Int)) (b,(f:Int)) (bisAt m (a,(e:Int)) (b,(f:Int)))=(-1,0):=by
 obtain⟨hm,hz⟩:=dif_zero hd
 obtain⟨ha1,ha2,_⟩:=hz (a,(e:Int)) (by simp)
 obtain⟨hb1,hb2,_⟩:=hz (b,(f:Int)) (by simp)
 have hma:moaI m a=0:=by rw[moaI,hm];exact ha1
 have hmb:moaI m b=0:=by rw[moaI,hm];exact hb1
 obtain⟨he,hf⟩:=h.rng e f hr
 have hno:∀ w,w<m.n.toNat→difW m (a,(e:Int)) (b,(f:Int)) (bisAt m (a,(e:Int)) (b,(f:Int))) w=false:=fun w hw=>by
  have s1:preS m (a,(e:Int))=possP m a e:=rfl
  have s2:preS m (b,(f:Int))=possP m a e:=(show possP m b f=possP m a e from (h.pos e f hr).symm)
  rw[difW,s1,s2]
  cases hp:(possP m a e).testBit w with
  |false=>rfl
  |true =>
   have ka:1≤(pairsL m a).length:=List.length_pos_of_mem (pairsW_mem (q:=(w,e)).2 ⟨hw,he,hp⟩)
   have kb:1≤(pairsL m b).length:=List.length_pos_of_mem (pairsW_mem (q:=(w,f)).2 ⟨hw,hf,by rw[← h.pos e f hr];exact hp⟩)
   obtain⟨q1,q2⟩:=eff_bis h hr (upd_zero hma ha2 ka) (upd_zero hmb hb2 kb) hw hp
   have:bisAt m (a,(e:Int)) (b,(f:Int)) w=true:=by
    rw[bisAt,q1]
    exact q2
   rw[this];rfl
 rw[difI,hd,firW_no hno];rfl
end
theorem same_inv {f g:List Nd} (h:same f g=true):check f=0∧check g=0∧comp f=comp g:=by
 unfold same at h
 cases h1:(check f==0) with
 |false=>rw[h1] at h;cases h
 |true =>
  cases h2:(check g==0) with
  |false=>rw[h1,h2] at h;cases h
  |true =>
   rw[h1,h2] at h
   exact⟨by simpa using h1,by simpa using h2,of_decide_eq_true (by simpa using h)⟩
theorem sim_zero {f:List Nd} (h:check (simI f).1=0):(simI f).2=0:=by
 have hne:=nil_check h
 unfold simI at h hne ⊢
 cases hc:(check f != 0) with
 |true=>rw[hc] at hne;exact absurd rfl hne
 |false =>
  rw[hc,cond_false] at hne
  rw[cond_false]
  unfold simF lastF at hne ⊢
  cases he:((redE [] smpH (comp f) []).2 != 0) with
  |true=>rw[he] at hne;exact absurd rfl hne
  |false=>rfl
section
variable {m:Mo} {n:Nat} (hM:OkM m n)
include hM
theorem sim_vl {A F:Int} {f:List Nd} (hs:statI A F f=0) (h:check (simI f).1=0):vlF m n (simI f).1=vlF m n f:=by
 obtain⟨h1,h2⟩:=stat_ops hs
 exact (sim_sem hM h1 h2 (sim_zero h)).2
omit hM in
theorem comp_vl {f:List Nd} (h:check f=0):vlF m n (comp f)=vlF m n f:=by rw[vlF,root_comp h];rfl
omit hM in
theorem valL_none {i:Int}:∀ {l:List Asg},(∀ x,x∈l→x.fact≠i)→valL i l=buildL (nI 3 i) []
 | [],_=>rfl
 |x::r,h=>by
  have hx:(x.fact==i)=false:=by simpa using h x (by simp)
  rw[valL,hx,cond_false]
  exact valL_none fun y hy=>h y (List.mem_cons_of_mem _ hy)
omit hM in
theorem smpL_cons (x:Asg) (r:List Asg):smpL (x::r)=bif keepB (smA1 x) then smA1 x::smpL r else smpL r:=by
 unfold smpL
 rw[List.map_cons,List.filter_cons]
 cases keepB (smA1 x)<;>rfl
omit hM in
theorem smpL_fact {l:List Asg} {z:Asg} (h:z∈smpL l):∃ x,x∈l∧z.fact=x.fact:=by
 obtain⟨h1,_⟩:=List.mem_filter.1 h
 obtain⟨x,hx,rfl⟩:=List.mem_map.1 h1
 exact⟨x,hx,rfl⟩
theorem smp_val {A F:Int} {i:Nat} (hi:i<8):∀ {l:List Asg} {lo:Int},chgs A F l lo=0→(∀ z,z∈smpL l→check z.to=0)→vlF m n (valL i (smpL l))=vlF m n (valL i l)
 | [],_,_,_=>rfl
 |x::r,lo,h,hz=>by
  obtain⟨_,_,h3,h4⟩:=chgs_cons.1 h
  rw[smpL_cons] at hz ⊢
  cases hk:keepB (smA1 x) with
  |true =>
   rw[hk,cond_true] at hz
   have hc:check (simI x.to).1=0:=hz (smA1 x) (by simp)
   have ih:=smp_val hi h4 fun z hz'=>hz z (List.mem_cons_of_mem _ hz')
   rw[cond_true,valL,valL]
   show vlF m n (bif x.fact==(i:Int) then comp (simI x.to).1 else valL i (smpL r))=_
   cases (x.fact==(i:Int)) with
   |true=>rw[cond_true,cond_true,comp_vl hc,comp_vl ((stat_ops h3).1),sim_vl hM h3 hc]
   |false=>exact ih
  |false =>
   rw[hk,cond_false] at hz
   have ih:=smp_val hi h4 hz
   rw[cond_false,valL]
   cases hx:(x.fact==(i:Int)) with
   |false=>exact ih
   |true =>
    have hxi:x.fact=i:=by simpa using hx
    have hsm:same (simI x.to).1 (buildL (nI 3 x.fact) [])=true:=by
     have:(!same (simI x.to).1 (buildL (nI 3 x.fact) []))=false:=hk
     simpa using this
    obtain⟨q1,q2,q3⟩:=same_inv hsm
    rw[cond_true,comp_vl ((stat_ops h3).1),← sim_vl hM h3 q1,← comp_vl q1,q3,comp_vl q2,hxi,valL_none]
    intro z hz'
    obtain⟨y,hy,he⟩:=smpL_fact hz'
    have:=(chgs_asc h4).2 y hy
    rw[he];omega
omit hM in
theorem eq_vals {i:Int}:∀ {p q:List Asg},eqL asS p q=true→(∀ z,z∈p→check z.to=0)∧(∀ z,z∈q→check z.to=0)∧valL i p=valL i q
 | [],[],_=>⟨fun z h=>(by cases h),fun z h=>(by cases h),rfl⟩
 | [],y::s,h=>by cases h
 |x::r,[],h=>by cases h
 |x::r,y::s,h=>by
  have h:(bif asS x y then eqL asS r s else false)=true:=h
  cases h1:asS x y with
  |false=>rw[h1] at h;cases h
  |true =>
   rw[h1,cond_true] at h
   obtain⟨i1,i2,i3⟩:=eq_vals (i:=i) h
   unfold asS at h1
   cases h2:(x.fact==y.fact) with
   |false=>rw[h2] at h1;cases h1
   |true =>
    rw[h2,cond_true] at h1
    obtain⟨q1,q2,q3⟩:=same_inv h1
    have hf:x.fact=y.fact:=by simpa using h2
    refine⟨fun z hz => ?_,fun z hz => ?_,by rw[valL,valL,hf,q3,i3]⟩
    ·rcases List.mem_cons.1 hz with rfl|hz
     ·exact q1
     ·exact i1 z hz
    ·rcases List.mem_cons.1 hz with rfl|hz
     ·exact q2
     ·exact i2 z hz
variable {a b:Act} (hA:actI a m.rel.length m.val.length=0) (hB:actI b m.rel.length m.val.length=0)
omit hM in
theorem smp_pre {e:Nat} (he:e<a.pre.length):(smpA a).pre.getD e []=(simI (a.pre.getD e [])).1:=by
 rw[smpA,List.getD_eq_getElem?_getD,List.getElem?_map,getD_mem he (d:=[])];rfl
omit hM in
theorem smp_pos {e:Nat} (he:e<a.post.length):(smpA a).post.getD e []=smpL (a.post.getD e []):=by
 rw[smpA,List.getD_eq_getElem?_getD,List.getElem?_map,getD_mem he (d:=[])];rfl
end
theorem getD_map' {α β:Type} {f:α→β} {l:List α} {i:Nat} {d:α} {d':β} (h:i<l.length):(l.map f).getD i d'=f (l.getD i d):=by
 rw[List.getD_eq_getElem?_getD,List.getElem?_map,getD_mem h (d:=d)];rfl
section
variable {s:Act} {ws:List Nat}
theorem kp_len:(keepA s ws).pre.length=ws.length:=by simp[keepA]
theorem kp_rel {i j h:Nat}:(relA (keepA s ws) i j).testBit h=true↔j<ws.length∧h<ws.length∧(relA s i (ws.getD j 0)).testBit (ws.getD h 0)=true:=by
 have hno:∀ {P:Prop},(relA (keepA s ws) i j=0)→¬ P→((relA (keepA s ws) i j).testBit h=true↔P):=fun e hp=>by
  rw[e,Nat.zero_testBit]
  exact⟨fun q=>(by cases q),fun q=>absurd q hp⟩
 by_cases hi:i<s.rel.length
 ·have e:relA (keepA s ws) i j=(ws.map fun w=>pullN ((s.rel.getD i []).getD w 0) ws).getD j 0:=by
   rw[relA,keepA]
   exact congrArg (fun q=>List.getD q j 0) (getD_map' (d:=[]) hi)
  by_cases hj:j<ws.length
  ·rw[e,getD_map' (d:=0) hj,pullN,maskOf_bit,Bool.and_eq_true,decide_eq_true_eq]
   exact⟨fun q=>⟨hj,q⟩,fun q=>q.2⟩
  ·refine hno ?_ fun q=>hj q.1
   rw[e,List.getD_eq_getElem?_getD,List.getElem?_eq_none (by simp;omega)];rfl
 ·refine hno ?_ fun q => ?_
  ·rw[relA,keepA,List.getD_eq_getElem?_getD (l:=List.map _ _),List.getElem?_map,List.getElem?_eq_none (by omega)];rfl
  ·have:=q.2.2
   rw[relA,List.getD_eq_getElem?_getD (l:=s.rel),List.getElem?_eq_none (by omega)] at this
   have this:(0:Nat).testBit (ws.getD h 0)=true:=this
   rw[Nat.zero_testBit] at this
   cases this
end
theorem evtL_iff {s:Act} {e:Nat}:e∈evtL s↔e<s.pre.length∧same (s.pre.getD e []) ffF=false:=by
 rw[evtL,List.mem_filter,List.mem_range]
 simp
theorem same_self {f:List Nd} (h:check f=0):same f f=true:=same_iff.2 ⟨h,h,rfl⟩
theorem alone_pre' {a:Act} (h:aloneI a=0) {p:List Nd} (hp:p∈a.pre):statI (a.rel.length:Nat) (8:Nat) p=0:=alone_pre h hp
theorem alone_asg' {a:Act} (h:aloneI a=0) {q:List Asg} (hq:q∈a.post) {x:Asg} (hx:x∈q):statI (a.rel.length:Nat) (8:Nat) x.to=0:=(alone_asg h hq hx).2
section
variable {a:Act} (h0:aloneI a=0)
include h0
theorem sf_pre {e:Nat} (he:e<a.pre.length):check ((smpA a).pre.getD e [])=0∧statI (a.rel.length:Nat) (8:Nat) ((smpA a).pre.getD e [])=0∧simI ((smpA a).pre.getD e [])=((smpA a).pre.getD e [],0):=by
 rw[smp_pre he]
 obtain⟨_,g2,g3,g4,_⟩:=sim_stat (alone_pre' h0 (List.mem_iff_getElem?.2 ⟨e,getD_mem he (d:=[])⟩))
 exact⟨g2.check,g3,g4⟩
theorem sf_post {q:List Asg} (hq:q∈a.post) {z:Asg} (hz:z∈smpL q):check z.to=0∧statI (a.rel.length:Nat) (8:Nat) z.to=0∧smA1 z=z∧keepB z=true∧∃ x,x∈q∧z.fact=x.fact:=by
 obtain⟨h1,h2⟩:=List.mem_filter.1 hz
 obtain⟨x,hx,rfl⟩:=List.mem_map.1 h1
 obtain⟨_,g2,g3,g4,_⟩:=sim_stat (alone_asg' h0 hq hx)
 exact⟨g2.check,g3,by show (⟨x.fact,(simI (simI x.to).1).1⟩:Asg)=⟨x.fact,(simI x.to).1⟩;rw[g4],h2,x,hx,rfl⟩
theorem sf_postL {q:List Asg} (hq:q∈a.post):smpL (smpL q)=smpL q:=by
 have h1:(smpL q).map smA1=smpL q:=by
  conv=>rhs;rw[← List.map_id (smpL q)]
  exact List.map_congr_left fun z hz=>(sf_post h0 hq hz).2.2.1
 show ((smpL q).map smA1).filter keepB=smpL q
 rw[h1]
 exact List.filter_eq_self.2 fun z hz=>(sf_post h0 hq hz).2.2.2.1
omit h0 in
theorem chgs_smp {A F:Nat}:∀ {l:List Asg} {lo:Int},chgs A F l lo=0→chgs A F (smpL l) lo=0
 | [],_,_=>rfl
 |x::r,lo,h=>by
  obtain⟨h1,h2,h3,h4⟩:=chgs_cons.1 h
  have ih:=chgs_smp h4
  rw[smpL_cons]
  cases keepB (smA1 x) with
  |true=>exact chgs_cons.2 ⟨h1,h2,(sim_stat h3).2.2.1,ih⟩
  |false =>
   have mono:∀ {l:List Asg} {a b:Int},a≤b→chgs A F l b=0→chgs A F l a=0:=fun {l a b} hab hl=>by
    cases l with
    |nil=>rfl
    |cons y s =>
     obtain⟨k1,k2,k3,k4⟩:=chgs_cons.1 hl
     exact chgs_cons.2 ⟨k1,by omega,k3,k4⟩
   exact mono (by omega) ih
omit h0 in
theorem sf_klen (a:Act):(sfK a).pre.length=(evtL (smpA a)).length:=kp_len
theorem sf_ev {j:Nat} (hj:j<(evtL (smpA a)).length):(evtL (smpA a)).getD j 0<a.pre.length∧(sfK a).pre.getD j []=(smpA a).pre.getD ((evtL (smpA a)).getD j 0) []∧(sfK a).post.getD j []=smpL (a.post.getD ((evtL (smpA a)).getD j 0) [])∧a.post.getD ((evtL (smpA a)).getD j 0) []∈a.post:=by
 have hm:(evtL (smpA a)).getD j 0∈evtL (smpA a):=List.mem_iff_getElem?.2 ⟨j,getD_mem hj⟩
 have h1:=evtL_mem hm
 have h2:(smpA a).pre.length=a.pre.length:=by simp[smpA]
 have hp:=(actI_ok h0).post
 refine⟨by omega,getD_map' hj,?_,?_⟩
 ·rw[← smp_pos (a:=a) (e:=(evtL (smpA a)).getD j 0) (by omega)]
  exact getD_map' hj
 ·exact List.mem_iff_getElem?.2 ⟨_,getD_mem (by omega)⟩
theorem sf_own:Own (sfK a):=by
 have hO:=actI_ok h0
 have hl:=evtL_len (smpA a)
 have h2:(smpA a).pre.length=a.pre.length:=by simp[smpA]
 have n8:=hO.n8
 refine⟨by rw[sf_klen];omega,fun i e=>Nat.lt_pow_two_of_testBit _ fun h hh => ?_,fun e he => ?_⟩
 ·cases hb:(relA (sfK a) i e).testBit h with
  |false=>rfl
  |true =>
   have:=(kp_rel.1 hb).2.1
   rw[sf_klen] at hh
   omega
 ·rw[sf_klen] at he
  obtain⟨g1,g2,g3,g4⟩:=sf_ev h0 he
  refine z0_iff.2 ⟨?_,?_⟩
  ·rw[g3]
   exact eqL_self fun z hz=>asS_iff.2 ⟨rfl,same_self (sf_post h0 g4 hz).1⟩
  ·rw[g2]
   exact same_self (sf_pre h0 g1).1
omit h0 in
theorem sfZ_eq (a:Act):sfZ a=alkS (sfK a):=rfl
theorem sf_firsts:Firsts (sfZ a) (evtL (smpA a)).length:=by
 rw[sfZ_eq,← sf_klen]
 exact (sf_own h0).firsts
def sfS (a:Act):Act:=sfB (sfK a) (sfZ a) (evtL (smpA a)).length
theorem sfS_pre {q:Nat} (hq:q<(keptL (sfZ a) (evtL (smpA a)).length).length):∃ j,j<(evtL (smpA a)).length∧fsN (sfZ a) j=j∧plN (sfZ a) (evtL (smpA a)).length j=q∧(sfS a).pre.getD q []=(sfK a).pre.getD j []∧(sfS a).post.getD q []=(sfK a).post.getD j []:=by
 have hF:=sf_firsts h0
 obtain⟨h1,h2,h3⟩:=pl_kept (List.getElem?_eq_getElem hq)
 refine⟨_,h1,h2,h3,?_,?_⟩
 ·have:=sfB_pre (k:=sfK a) hF h1
  rw[h2,h3] at this
  exact this
 ·have:=sfB_post (k:=sfK a) hF h1
  rw[h2,h3] at this
  exact this
omit h0 in
theorem sfS_len:(sfS a).pre.length=(keptL (sfZ a) (evtL (smpA a)).length).length∧(sfS a).post.length=(keptL (sfZ a) (evtL (smpA a)).length).length∧(sfS a).rel.length=a.rel.length:=by simp[sfS,sfB,sfK,keepA,smpA]
theorem sf_alone (h1:1≤(evtL (smpA a)).length):aloneI (sfS a)=0:=by
 have hO:=actI_ok h0
 have hF:=sf_firsts h0
 obtain⟨l1,l2,l3⟩:=sfS_len (a:=a)
 have hl:=evtL_len (smpA a)
 have h2:(smpA a).pre.length=a.pre.length:=by simp[smpA]
 have hk:=kept_len (sfZ a) (evtL (smpA a)).length
 have n8:=hO.n8
 have hpos:1≤(keptL (sfZ a) (evtL (smpA a)).length).length:=List.length_pos_of_mem (hF.mem (e:=0) (by omega))
 refine valid_of (by rw[l3];exact hO.agn) (by omega) (by omega) (by omega) (fun r hr => ?_) (fun r hr s hs => ?_) (fun f hf => ?_) (fun l hl => ?_)
 ·obtain⟨r0,_,rfl⟩:=List.mem_map.1 hr
  rw[relQ_len,l1]
 ·obtain⟨r0,_,rfl⟩:=List.mem_map.1 hr
  obtain⟨p,hp,rfl⟩:=List.mem_iff_getElem.1 hs
  rw[l1]
  have:=relQ_lt (r:=r0) (p:=p) hF
  rw[List.getD_eq_getElem?_getD,List.getElem?_eq_getElem hp] at this
  exact this
 ·obtain⟨q,hq,rfl⟩:=List.mem_iff_getElem.1 hf
  obtain⟨j,k1,_,_,k4,_⟩:=sfS_pre h0 (q:=q) (by omega)
  rw[List.getD_eq_getElem?_getD,List.getElem?_eq_getElem hq,Option.getD_some] at k4
  obtain⟨g1,g2,_,_⟩:=sf_ev h0 k1
  rw[k4,g2,l3]
  exact (sf_pre h0 g1).2.1
 ·obtain⟨q,hq,rfl⟩:=List.mem_iff_getElem.1 hl
  obtain⟨j,k1,_,_,_,k5⟩:=sfS_pre h0 (q:=q) (by omega)
  rw[List.getD_eq_getElem?_getD,List.getElem?_eq_getElem hq,Option.getD_some] at k5
  obtain⟨g1,_,g3,_⟩:=sf_ev h0 k1
  rw[k5,g3,l3]
  exact chgs_smp (F:=8) ((evs_all hO.ev).2 _ g1)
end
theorem map_range_getD {α:Type} {l:List α} {d:α} {n:Nat} (h:l.length=n):((List.range n).map fun w=>l.getD w d)=l:=by
 apply List.ext_getElem?
 intro i
 rw[List.getElem?_map]
 by_cases hi:i<n
 ·rw[List.getElem?_range hi,getD_mem (d:=d) (by omega:i<l.length)];rfl
 ·rw[List.getElem?_eq_none (by simp;omega),List.getElem?_eq_none (by omega)];rfl
theorem pull_range {s n:Nat} (h:s<2^n):pullN s (List.range n)=s:=Nat.eq_of_testBit_eq fun j=>by
 rw[pullN,maskOf_bit,List.length_range]
 by_cases hj:j<n
 ·rw[decide_eq_true hj,List.getD_eq_getElem?_getD,List.getElem?_range hj];rfl
 ·have hp:=Nat.pow_le_pow_right (by decide:0<2) (by omega:n≤j)
  rw[decide_eq_false hj,show s.testBit j=false from Nat.testBit_lt_two_pow (by omega)];rfl
theorem keep_all {s:Act} {n:Nat} (h1:s.pre.length=n) (h2:s.post.length=n) (h3:∀ r,r∈s.rel→r.length=n) (h4:∀ r,r∈s.rel→∀ x,x∈r→x<2^n):keepA s (List.range n)=s:=by
 have e3:(s.rel.map fun r=>(List.range n).map fun w=>pullN (r.getD w 0) (List.range n))=s.rel:=by
  conv=>rhs;rw[← List.map_id s.rel]
  refine List.map_congr_left fun r hr => ?_
  show _=r
  conv=>rhs;rw[← map_range_getD (d:=0) (h3 r hr)]
  refine List.map_congr_left fun w hw=>pull_range ?_
  exact h4 r hr _ (List.mem_iff_getElem?.2 ⟨w,getD_mem (by rw[h3 r hr];exact List.mem_range.1 hw)⟩)
 rw[keepA,map_range_getD h1,map_range_getD h2,e3]
theorem rel_all {Z:List (List Bool)} {n:Nat} (hid:∀ q,q<n→fsN Z q=q) {r:List Nat} (hl:r.length=n) (hb:∀ s,s∈r→s<2^n):relQ Z n r=r:=by
 have hk:keptL Z n=List.range n:=by
  rw[keptL]
  exact List.filter_eq_self.2 fun q hq=>by rw[hid q (List.mem_range.1 hq)];simp
 have hF:Firsts Z n:=fun e he=>by rw[hid e he];exact⟨he,hid e he⟩
 have hp:∀ q,q<n→plN Z n q=q:=fun q hq=>by
  obtain⟨_,_,h⟩:=pl_kept (Z:=Z) (n:=n) (q:=q) (e:=q) (by rw[hk];exact List.getElem?_range hq)
  exact h
 have hlen:(relQ Z n r).length=n:=by rw[relQ_len,hk,List.length_range]
 apply List.ext_getElem?
 intro p
 by_cases hpn:p<n
 ·rw[getD_mem (d:=0) (by omega:p<(relQ Z n r).length),getD_mem (d:=0) (by omega:p<r.length)]
  congr 1
  refine Nat.eq_of_testBit_eq fun h => ?_
  rw[Bool.eq_iff_iff,relQ_bit hF]
  constructor
  ·rintro⟨e,f,he,hf,rfl,rfl,hb⟩
   rw[hp e he,hp f hf];exact hb
  ·intro hh
   have:=bit_lt (hb _ (List.mem_iff_getElem?.2 ⟨p,getD_mem (d:=0) (by omega:p<r.length)⟩)) hh
   exact⟨p,h,hpn,this,hp p hpn,hp h this,hh⟩
 ·rw[List.getElem?_eq_none (by omega),List.getElem?_eq_none (by omega)]
section
variable {a:Act} (h0:aloneI a=0) (h1:1≤(evtL (smpA a)).length)
include h0
theorem sf_once:smpA (sfS a)=sfS a:=by
 obtain⟨l1,l2,_⟩:=sfS_len (a:=a)
 have e1:(sfS a).pre.map (fun f=>(simI f).1)=(sfS a).pre:=by
  conv=>rhs;rw[← List.map_id (sfS a).pre]
  refine List.map_congr_left fun f hf => ?_
  obtain⟨q,hq,rfl⟩:=List.mem_iff_getElem.1 hf
  obtain⟨j,k1,_,_,k4,_⟩:=sfS_pre h0 (q:=q) (by omega)
  rw[List.getD_eq_getElem?_getD,List.getElem?_eq_getElem hq,Option.getD_some] at k4
  obtain⟨g1,g2,_,_⟩:=sf_ev h0 k1
  rw[k4,g2,(sf_pre h0 g1).2.2];rfl
 have e2:(sfS a).post.map smpL=(sfS a).post:=by
  conv=>rhs;rw[← List.map_id (sfS a).post]
  refine List.map_congr_left fun l hl => ?_
  obtain⟨q,hq,rfl⟩:=List.mem_iff_getElem.1 hl
  obtain⟨j,k1,_,_,_,k5⟩:=sfS_pre h0 (q:=q) (by omega)
  rw[List.getD_eq_getElem?_getD,List.getElem?_eq_getElem hq,Option.getD_some] at k5
  obtain⟨g1,_,g3,g4⟩:=sf_ev h0 k1
  rw[k5,g3,sf_postL h0 g4];rfl
 rw[smpA,e1,e2]
theorem sf_evs:evtL (sfS a)=List.range (sfS a).pre.length:=by
 obtain⟨l1,_,_⟩:=sfS_len (a:=a)
 rw[evtL]
 refine List.filter_eq_self.2 fun q hq => ?_
 obtain⟨j,k1,_,_,k4,_⟩:=sfS_pre h0 (q:=q) (by rw[← l1];exact List.mem_range.1 hq)
 obtain⟨g1,g2,_,_⟩:=sf_ev h0 k1
 have:=(evtL_iff.1 (List.mem_iff_getElem?.2 ⟨j,getD_mem k1 (d:=0)⟩:(evtL (smpA a)).getD j 0∈evtL (smpA a))).2
 rw[k4,g2,this];rfl
include h1 in
theorem sf_keep:sfK (sfS a)=sfS a:=by
 have hO:=actI_ok (sf_alone h0 h1)
 rw[sfK,sf_once h0,sf_evs h0]
 exact keep_all rfl hO.post hO.rows hO.bits
theorem sf_alk {q p:Nat} (hO:Own (sfS a)) (h:Alk (sfS a) q p):q=p:=by
 have hF:=sf_firsts h0
 have hK:=sf_own h0
 have n8:=hK.n8
 have ek:=sf_klen a
 obtain⟨l1,_,_⟩:=sfS_len (a:=a)
 have hlen:(sfS a).pre.length=(keptL (sfZ a) (evtL (smpA a)).length).length:=l1
 have hS:Stab (sfK a) (sfK a) (fun e f=>(e<(sfK a).pre.length∧f<(sfK a).pre.length)∧Alk (sfS a) (plN (sfZ a) (evtL (smpA a)).length e) (plN (sfZ a) (evtL (smpA a)).length f)):=by
  have hT:=hO.stab
  have back:∀ e f i g,e<(sfK a).pre.length→f<(sfK a).pre.length→Alk (sfS a) (plN (sfZ a) (evtL (smpA a)).length e) (plN (sfZ a) (evtL (smpA a)).length f)→i<(sfK a).rel.length→g<(sfK a).pre.length→(relA (sfK a) i e).testBit g=true →
    ∃ d,d<8∧(relA (sfK a) i f).testBit d=true∧(g<(sfK a).pre.length∧d<(sfK a).pre.length)∧Alk (sfS a) (plN (sfZ a) (evtL (smpA a)).length g) (plN (sfZ a) (evtL (smpA a)).length d):=fun e f i g he hf hal hi hg hb=>by
   rw[ek] at he hf hg
   have b1:(relA (sfS a) i (plN (sfZ a) (evtL (smpA a)).length e)).testBit (plN (sfZ a) (evtL (smpA a)).length g)=true:=(sfB_rel hF).2 ⟨hi,e,g,he,hg,rfl,rfl,hb⟩
   obtain⟨x,_,x2,x3⟩:=hT.forth _ _ i _ hal (by show i<(List.map _ _).length;rw[List.length_map];exact hi) (by rw[hlen];exact hF.pl hg) b1
   obtain⟨_,e2,f2,g1,g2,g3,g4,g5⟩:=(sfB_rel hF).1 x2
   have hfs:=(pl_eq hF g1 hf).1 g3
   rw[sfZ_eq] at hfs
   have hal2:=hK.fs_alk (by rw[ek];exact g1) (by rw[ek];exact hf) hfs
   obtain⟨d,d1,d2,d3⟩:=hK.stab.forth e2 f i f2 hal2 hi (by rw[ek];exact g2) g5
   refine⟨d,d1,d2,⟨by rw[ek];exact hg,d3.1.2⟩,?_⟩
   have hd:plN (sfZ a) (evtL (smpA a)).length d=x:=by
    rw[← g4]
    refine ((pl_eq hF g2 (by rw[← ek];exact d3.1.2)).2 ?_).symm
    exact hK.fs_eq d3
   rw[hd]
   exact x3
  refine⟨fun e f h=>h.1,fun e f h => ?_,fun e f i g h hi hg hb=>back e f i g h.1.1 h.1.2 h.2 hi hg hb,fun e f i g h hi hg hb => ?_⟩
  ·obtain⟨⟨he,hf⟩,hal⟩:=h
   have z1:=hT.z0 _ _ hal
   have z2:=hK.stab.z0 _ _ (hK.fs he)
   have z3:=z0_symm (hK.stab.z0 _ _ (hK.fs hf))
   rw[ek] at he hf
   have z4:z0B (sfK a) (sfK a) (fsN (sfZ a) e) (fsN (sfZ a) f)=true:=by
    obtain⟨w1,w2⟩:=z0_iff.1 z1
    rw[sfS,sfB_pre hF he,sfB_pre hF hf] at w2
    rw[sfS,sfB_post hF he,sfB_post hF hf] at w1
    exact z0_iff.2 ⟨w1,w2⟩
   exact z0_trans (z0_trans z2 z4) z3
  ·obtain⟨d,d1,d2,d3,d4⟩:=back f e i g h.1.2 h.1.1 (hO.symm h.2) hi hg hb
   exact⟨d,d1,d2,⟨d3.2,d3.1⟩,hO.symm d4⟩
 obtain⟨j,j1,j2,j3,_⟩:=sfS_pre h0 (q:=q) (by rw[← hlen];exact h.1.1)
 obtain⟨k,k1,k2,k3,_⟩:=sfS_pre h0 (q:=p) (by rw[← hlen];exact h.1.2)
 have hA:=hS.all (e:=j) (f:=k) ⟨⟨by rw[ek];exact j1,by rw[ek];exact k1⟩,by rw[j3,k3];exact h⟩
 have:=hK.fs_eq ⟨⟨by rw[ek];exact j1,by rw[ek];exact k1⟩,hA⟩
 rw[← sfZ_eq,j2,k2] at this
 rw[← j3,← k3,this]
include h1 in
theorem sf_twice:sfyI (sfS a)=(sfS a,(sfyI (sfS a)).2.1,0)∧(sfyI (sfS a)).2.1.length=(sfS a).pre.length:=by
 have hA:=sf_alone h0 h1
 have hO:=actI_ok hA
 have hOwn:Own (sfS a):=by
  have:=sf_own hA
  rw[sf_keep h0 h1] at this
  exact this
 have hid:∀ q,q<(sfS a).pre.length→fsN (alkS (sfS a)) q=q:=fun q hq=>(sf_alk h0 hOwn (hOwn.fs hq)).symm
 have hev:evtL (smpA (sfS a))=List.range (sfS a).pre.length:=by rw[sf_once h0,sf_evs h0]
 have hz:sfZ (sfS a)=alkS (sfS a):=by rw[sfZ_eq,sf_keep h0 h1]
 have hkp:keptL (alkS (sfS a)) (sfS a).pre.length=List.range (sfS a).pre.length:=by
  rw[keptL]
  exact List.filter_eq_self.2 fun q hq=>by rw[hid q (List.mem_range.1 hq)];simp
 have hn1:=hO.n1
 have hne:(((evtL (smpA (sfS a))).length:Int)==0)=false:=by
  rw[hev,List.length_range];simp;intro e;rw[e] at hn1;simp at hn1
 have e3:(sfS a).rel.map (relQ (alkS (sfS a)) (sfS a).pre.length)=(sfS a).rel:=by
  conv=>rhs;rw[← List.map_id (sfS a).rel]
  exact List.map_congr_left fun r hr=>rel_all hid (hO.rows r hr) (hO.bits r hr)
 have hB:sfB (sfK (sfS a)) (sfZ (sfS a)) (evtL (smpA (sfS a))).length=sfS a:=by
  rw[hev,List.length_range,hz,sf_keep h0 h1,sfB,hkp,map_range_getD rfl,map_range_getD hO.post,e3]
 have hI:sfyI (sfS a)=(sfS a,(List.range (sfS a).pre.length).map (sfN (evtL (smpA (sfS a))) (sfZ (sfS a))),0):=by
  rw[sfyI,hA,hne,hB];rfl
 rw[hI]
 exact⟨rfl,by simp⟩
end
section
variable {m:Mo} {n:Nat} (hM:OkM m n) {a:Act} (hA:actI a m.rel.length m.val.length=0)
include hM hA
theorem sf_gone {e:Nat} (he:e<a.pre.length) (h:e∉evtL (smpA a)):possP m a e=0:=by
 have h2:(smpA a).pre.length=a.pre.length:=by simp[smpA]
 have hs:same ((smpA a).pre.getD e []) ffF=true:=by
  cases q:same ((smpA a).pre.getD e []) ffF with
  |true=>rfl
  |false=>exact absurd (evtL_iff.2 ⟨by omega,q⟩) h
 rw[smp_pre he] at hs
 obtain⟨s1,s2,s3⟩:=same_inv hs
 rw[poss_vl hM hA he]
 show vlF m n (a.pre.getD e [])=0
 rw[← sim_vl hM (pre_stat hA he) s1,← comp_vl s1,s3,comp_vl s2]
 exact vl_false
variable (hS:actI (sfS a) m.rel.length m.val.length=0)
include hS in
theorem sf_rel:EvRel m a (sfS a) (fun e q=>∃ j,(evtL (smpA a))[j]? = some e∧plN (sfZ a) (evtL (smpA a)).length j=q):=by
 have h0:=(act_alone hM.fa hA).1
 have hF:=sf_firsts h0
 have hK:=sf_own h0
 have ek:=sf_klen a
 obtain⟨l1,l2,l3⟩:=sfS_len (a:=a)
 have hlen:(sfS a).pre.length=(keptL (sfZ a) (evtL (smpA a)).length).length:=l1
 have ra:=(act_ag hA).1
 have hb:∀ i e g,(relA a i e).testBit g=true→g<a.pre.length:=fun i e h hb=>by
  by_cases hi:i<a.rel.length
  ·exact bit_lt (getD_lt2 ((actI_ok hA).bits _ (List.mem_iff_getElem?.2 ⟨i,getD_mem hi (d:=[])⟩)) e) hb
  ·rw[relA,List.getD_eq_getElem?_getD (l:=a.rel),List.getElem?_eq_none (by omega)] at hb
   have hb:(0:Nat).testBit h=true:=hb
   rw[Nat.zero_testBit] at hb;cases hb
 have ev:∀ {j e},(evtL (smpA a))[j]? = some e→j<(evtL (smpA a)).length∧(evtL (smpA a)).getD j 0=e:=fun {j e} h=>⟨(List.getElem?_eq_some_iff.1 h).1,getD_ofX h⟩
 have kr:(sfK a).rel.length=a.rel.length:=by simp[sfK,keepA,smpA]
 have z0:∀ {j},j<(evtL (smpA a)).length→z0B (sfK a) (sfK a) j (fsN (sfZ a) j)=true:=fun {j} hj=>hK.stab.z0 _ _ (hK.fs (by rw[ek];exact hj))
 refine⟨?_,?_,?_,?_,?_⟩
 ·rintro e q ⟨j,hj,rfl⟩
  obtain⟨j1,j2⟩:=ev hj
  refine⟨by rw[← j2];exact (sf_ev h0 j1).1,by rw[hlen];exact hF.pl j1⟩
 ·rintro e q ⟨j,hj,rfl⟩
  obtain⟨j1,j2⟩:=ev hj
  obtain⟨g1,g2,_,_⟩:=sf_ev h0 j1
  rw[j2] at g1 g2
  rw[poss_vl hM hA g1,poss_vl hM hS (by rw[hlen];exact hF.pl j1)]
  show vlF m n (a.pre.getD e [])=vlF m n ((sfS a).pre.getD _ [])
  rw[sfS,sfB_pre hF j1]
  obtain⟨_,hs⟩:=z0_iff.1 (z0 j1)
  obtain⟨s1,s2,s3⟩:=same_inv hs
  rw[← comp_vl s2,← s3,comp_vl s1]
  rw[g2,smp_pre g1] at s1 ⊢
  exact (sim_vl hM (pre_stat hA g1) s1).symm
 ·rintro e q i ⟨j,hj,rfl⟩ hi
  obtain⟨j1,j2⟩:=ev hj
  obtain⟨g1,_,g3,_⟩:=sf_ev h0 j1
  rw[j2] at g1 g3
  have h8:i<8:=by have:=hM.fa;omega
  rw[valu_vl hM hA g1 hi,valu_vl hM hS (by rw[hlen];exact hF.pl j1) hi]
  show vlF m n (valL i (a.post.getD e []))=vlF m n (valL i ((sfS a).post.getD _ []))
  rw[sfS,sfB_post hF j1]
  obtain⟨hs,_⟩:=z0_iff.1 (z0 j1)
  obtain⟨s1,s2,s3⟩:=eq_vals (i:=(i:Int)) hs
  rw[← s3]
  rw[g3] at s1 ⊢
  exact (smp_val hM h8 (post_chgs hA g1) s1).symm
 ·rintro e q i d ⟨j,hj,rfl⟩ hi hbit hd hp
  obtain⟨j1,j2⟩:=ev hj
  have hde:d∈evtL (smpA a):=by
   by_cases q:d∈evtL (smpA a)
   ·exact q
   ·exact absurd (sf_gone hM hA hd q) hp
  obtain⟨j',hj'⟩:=List.mem_iff_getElem?.1 hde
  obtain⟨k1,k2⟩:=ev hj'
  exact⟨_,(sfB_rel hF).2 ⟨by rw[kr];omega,j,j',j1,k1,rfl,rfl,kp_rel.2 ⟨j1,k1,by rw[j2,k2];exact hbit⟩⟩,j',hj',rfl⟩
 ·rintro e q i d ⟨j,hj,rfl⟩ hi hbit _ _
  obtain⟨j1,j2⟩:=ev hj
  obtain⟨hik,e2,f2,g1,g2,g3,g4,g5⟩:=(sfB_rel hF).1 hbit
  have hfs:=(pl_eq hF g1 j1).1 g3
  rw[sfZ_eq] at hfs
  obtain⟨x,_,x2,x3⟩:=hK.stab.forth e2 j i f2 (hK.fs_alk (by rw[ek];exact g1) (by rw[ek];exact j1) hfs) hik (by rw[ek];exact g2) g5
  obtain⟨_,y2,y3⟩:=kp_rel.1 x2
  rw[j2] at y3
  refine⟨(evtL (smpA a)).getD x 0,y3,x,getD_mem y2,?_⟩
  rw[← g4]
  refine ((pl_eq hF g2 (by rw[← ek];exact x3.1.2)).2 ?_).symm
  exact hK.fs_eq x3
end
theorem act_F {a:Act} {A F:Nat} (h:actI a A F=0):F≤8:=by
 unfold actI at h
 cases h1:(bif bif bif decide ((A:Int)<0) then true else decide ((A:Int)>4) then true else decide ((F:Int)<0) then true else decide ((F:Int)>8)) with
 |true=>rw[h1] at h;cases h
 |false =>
  have:=of_decide_eq_false (or_false2 h1).2
  omega
theorem at_no {m:Mo} {a:Act} {w e:Nat} (hp:(possP m a e).testBit w=false):(atI m w a e).2.2≠0:=by
 unfold atI
 cases h1:((updI m a).2.2 != 0) with
 |true=>rw[cond_true];simpa using h1
 |false =>
  cases badW m w with
  |true=>rw[cond_false,cond_true];decide
  |false =>
   cases badEv a e with
   |true=>rw[cond_false,cond_false,cond_true];decide
   |false =>
    rw[cond_false,cond_false,cond_false]
    cases hf:(updI m a).2.1.findIdx? fun q=>(bif (q.1:Int)==(w:Int) then (q.2:Int)==(e:Int) else false) with
    |none=>exact (show (11:Int)≠0 by decide)
    |some k =>
     exfalso
     obtain⟨hk,hq,_⟩:=List.findIdx?_eq_some_iff_getElem.1 hf
     obtain⟨_,k2,_,_,_⟩:=updI_ok (m:=m) (a:=a) (by simpa using h1)
     have hmem:(updI m a).2.1[k]∈pairsL m a:=by rw[← k2];exact List.getElem_mem hk
     cases hz:(((updI m a).2.1[k].1:Int)==(w:Int)) with
     |false=>rw[hz] at hq;cases hq
     |true =>
      rw[hz] at hq
      have e1:(updI m a).2.1[k].1=w:=by
                          have:((updI m a).2.1[k].1:Int)=w:=by simpa using hz
                          omega
      have e2:(updI m a).2.1[k].2=e:=by
                          have:((updI m a).2.1[k].2:Int)=e:=by simpa using hq
                          omega
      have:=(pairsW_mem.1 hmem).2.2
      rw[e1,e2,hp] at this
      cases this
theorem sf_none {m:Mo} {a:Act} (hA:actI a m.rel.length m.val.length=0) (h:(evtL (smpA a)).length=0):(updI m a).2.2≠0:=by
 intro hu
 obtain⟨k1,_,_,k4,_⟩:=updI_ok hu
 obtain⟨⟨n,hM⟩,_⟩:=moaI_ok k1
 have hx:(pairsL m a)[0]? = some ((pairsL m a)[0]'(by omega)):=List.getElem?_eq_getElem (by omega)
 obtain⟨_,h2,h3⟩:=pairsW_mem.1 (List.mem_iff_getElem?.2 ⟨0,hx⟩:(pairsL m a)[0]∈pairsW (possP m a) a.pre.length m.n.toNat)
 rw[sf_gone hM hA h2 (by rw[List.length_eq_zero_iff.1 h];simp),Nat.zero_testBit] at h3
 cases h3
set_option maxHeartbeats 4000000
theorem ra_Equal (a:Act) (ha:Small a):PureFn Tryz.prog 20 [a.pv,a.pv] (.bool true):=by
 obtain⟨h1,h2,n1,n2,n3,n4⟩:=ha
 have hL:=(ref_SameLists a.pre a.pre (by omega) (fun f hf=>by have:=h1 f hf;omega)).to (q:=.bool true) (by simp)
 refine PureFn.introC [3,9] mixed (fn:=Tryz.f20) rfl rfl rfl fun M w0 => ?_
 try conv=>whnf
 refine⟨Unit,fun _=>[(2,.ref 0 0),(3,.ref 1 0)],fun _=>2,fun _=>[(0,.var (cellsA a)),(1,.var (cellsA a))],?_,?_⟩
 ·(try conv=>whnf);repeat' (first|(apply And.intro<;>try conv=>whnf)|(intro h;try conv=>whnf)|apply True.intro|(apply WhenQ.mk;(try conv=>whnf);rotate_left;(try conv=>whnf);rotate_right)|with_reducible assumption|(apply not_of;with_reducible assumption)|(refine PureFn.dy hL rfl ?_;try conv=>whnf)|fail)
  ·simp at h
  ·exact⟨(),(by exact Wk.sm rfl rfl rfl rfl rfl)⟩
 rintro⟨⟩
 refine⟨Unit,fun _=>[(2,.ref 0 0),(3,.ref 1 0)],fun _=>2,fun _=>[(0,.var (cellsA a)),(1,.var (cellsA a))],?_,?_⟩
 ·try conv=>whnf
  refine⟨{ i:Nat // i≤a.rel.length },fun i=>[(2,.ref 0 0),(3,.ref 1 0),(34,.pv (i64 (a.rel.map rowPV).length)),(35,.pv (i64 i.1))],fun _=>2,fun _=>[(0,.var (cellsA a)),(1,.var (cellsA a))],fun i=>a.rel.length-i.1,⟨⟨0,Nat.zero_le _⟩,(by exact Wk.sm rfl rfl rfl rfl rfl)⟩,?_⟩
  rintro⟨i,hi⟩
  (try conv=>whnf);repeat' (first|(apply And.intro<;>try conv=>whnf)|(intro h;try conv=>whnf)|(apply infoT;rfl)|(refine lin_plan (by kernel_rfl) ?_;try conv=>whnf)|fail)
  ·have hi':i<a.rel.length:=by simpa using lt_dec h
   have hn:a.rel[i]? = some a.rel[i]:=List.getElem?_eq_getElem hi'
   have hR:=(ra_sameRel a.rel[i] a.rel[i] (by have:=n4 _ (List.getElem_mem hi');omega)).to (q:=.bool true) (by rw[eqL_self fun x _=>by simp])
   refine⟨_,_,rfl,idx_map hn,rfl,?_⟩
   (try conv=>whnf);repeat' (first|(apply And.intro<;>try conv=>whnf)|(intro h;first|with_reducible exact nt0 h|try conv=>whnf)|(apply infoT;rfl)|(refine⟨_,_,rfl,idx_map (by with_reducible assumption),rfl,?_⟩;try conv=>whnf)|(refine⟨_,(by (conv=>whnf);exact hR),rfl,?_⟩;try conv=>whnf)|fail)
   exact⟨⟨i+1,hi'⟩,by show a.rel.length-(i+1)<a.rel.length-i;omega,(by refine Wk.of ?_ ?_ rfl rfl rfl<;>repeat' (first|exact trivial|exact WkD.same _|exact WkO.same _ _ rfl|refine WkD.int ?_|refine⟨?_,?_⟩|(refine wrapA ?_ ?_ ?_;(focus simp;done);(focus (try dsimp only);omega);(focus (try dsimp only);omega))|fail))⟩
  ·exact⟨(),(by exact Wk.sm rfl rfl rfl rfl rfl)⟩
 rintro⟨⟩
 try conv=>whnf
 refine⟨{ i:Nat // i≤a.post.length },fun i=>[(2,.ref 0 0),(3,.ref 1 0),(53,.pv (i64 (a.post.map postPV).length)),(54,.pv (i64 i.1))],fun _=>2,fun _=>[(0,.var (cellsA a)),(1,.var (cellsA a))],fun i=>a.post.length-i.1,⟨⟨0,Nat.zero_le _⟩,(by exact Wk.sm rfl rfl rfl rfl rfl)⟩,?_⟩
 rintro⟨i,hi⟩
 (try conv=>whnf);repeat' (first|(apply And.intro<;>try conv=>whnf)|(intro h;try conv=>whnf)|(apply infoT;rfl)|(refine lin_plan (by kernel_rfl) ?_;try conv=>whnf)|fail)
 ·have hi':i<a.post.length:=by simpa using lt_dec h
  have hn:a.post[i]? = some a.post[i]:=List.getElem?_eq_getElem hi'
  refine⟨_,_,rfl,idx_map hn,rfl,?_⟩
  (try conv=>whnf);repeat' (first|(apply And.intro<;>try conv=>whnf)|(intro h;try conv=>whnf)|(apply infoT;rfl)|(refine⟨_,_,rfl,idx_map (by with_reducible assumption),rfl,?_⟩;try conv=>whnf)|fail)
  ·simp at h
  obtain⟨hl1,hl2⟩:=h2 _ (List.getElem_mem hi')
  generalize a.post[i]=l at hn hl1 hl2
  refine⟨{ j:Nat // j≤l.length },fun j=>[(2,.ref 0 0),(3,.ref 1 0),(6,.pv (i64 i)),(53,.pv (i64 (a.post.map postPV).length)),(54,.pv (i64 i)),(75,.pv (i64 (l.map Asg.pv).length)),(76,.pv (i64 j.1))],fun _=>2,fun _=>[(0,.var (cellsA a)),(1,.var (cellsA a))],fun j=>l.length-j.1,⟨⟨0,Nat.zero_le _⟩,(by exact Wk.sm rfl rfl rfl rfl rfl)⟩,?_⟩
  rintro⟨j,hj⟩
  (try conv=>whnf);repeat' (first|(apply And.intro<;>try conv=>whnf)|(intro h;try conv=>whnf)|(apply infoT;rfl)|(refine lin_plan (by kernel_rfl) ?_;try conv=>whnf)|(refine⟨_,_,rfl,idx_map (by with_reducible assumption),rfl,?_⟩;try conv=>whnf)|fail)
  ·have hj':j<l.length:=by simpa using lt_dec h
   have hm:l[j]? = some l[j]:=List.getElem?_eq_getElem hj'
   have hE:=ref_Equal l[j].to l[j].to (by have:=hl2 _ (List.getElem_mem hj');omega)
   refine⟨_,_,rfl,idx_map hm,rfl,?_⟩
   (try conv=>whnf);repeat' (first|(apply And.intro<;>try conv=>whnf)|(intro h;try conv=>whnf)|apply True.intro|(apply infoT;rfl)|(apply WhenQ.mk;(try conv=>whnf);rotate_left;(try conv=>whnf);rotate_right)|with_reducible assumption|(apply not_of;with_reducible assumption)|(refine⟨_,_,rfl,idx_map (by with_reducible assumption),rfl,?_⟩;try conv=>whnf)|(refine⟨_,(by (conv=>whnf);exact hE),rfl,?_⟩;try conv=>whnf)|fail)
   ·simp at h
   ·exact⟨⟨j+1,hj'⟩,by show l.length-(j+1)<l.length-j;omega,(by refine Wk.of ?_ ?_ rfl rfl rfl<;>repeat' (first|exact trivial|exact WkD.same _|exact WkO.same _ _ rfl|refine WkD.int ?_|refine⟨?_,?_⟩|(refine wrapA ?_ ?_ ?_;(focus simp;done);(focus (try dsimp only);omega);(focus (try dsimp only);omega))|fail))⟩
  ·exact⟨⟨i+1,hi'⟩,by show a.post.length-(i+1)<a.post.length-i;omega,(by refine Wk.of ?_ ?_ rfl rfl rfl<;>repeat' (first|exact trivial|exact WkD.same _|exact WkO.same _ _ rfl|refine WkD.int ?_|refine⟨?_,?_⟩|(refine wrapA ?_ ?_ ?_;(focus simp;done);(focus (try dsimp only);omega);(focus (try dsimp only);omega))|fail))⟩
 ·exact .refl _
set_option maxHeartbeats 8000000
theorem chgs_len {A:Int}:∀ {l:List Asg} {lo:Int},lo≤7→chgs A 8 l lo=0→(l.length:Int)+lo+1≤8
 | [],lo,h7,_=>by show (0:Int)+lo+1≤8;omega
 |x::r,lo,h7,h=>by
  obtain⟨h1,h2,_,h4⟩:=chgs_cons.1 h
  have:=chgs_len (by omega) h4
  simp only[List.length_cons]
  omega
theorem alone_small {a:Act} (h:aloneI a=0):Small a:=by
 have hO:=actI_ok h
 refine⟨fun f hf => ?_,fun l hl => ?_,by have:=hO.n8;omega,by have:=hO.n8;have:=hO.post;omega,by have:=hO.agn;omega,fun r hr=>by have:=hO.rows r hr;have:=hO.n8;omega⟩
 ·exact (check_ok (stat_ops (alone_pre h hf)).1).2.1
 ·obtain⟨e,he,rfl⟩:=List.mem_iff_getElem.1 hl
  have h1:=(evs_all hO.ev).2 e (by rw[← hO.post];exact he)
  rw[List.getD_eq_getElem?_getD,List.getElem?_eq_getElem he] at h1
  have:=chgs_len (by omega) h1
  refine⟨by simp only[Option.getD_some] at this;omega,fun x hx=>(check_ok (stat_ops (alone_asg h hl hx).2).1).2.1⟩
theorem at_gone {m:Mo} {a:Act} {w e:Nat} (hA:actI a m.rel.length m.val.length=0) (he:e<a.pre.length) (h:e∉evtL (smpA a)):(atI m w a e).2.2≠0:=by
 by_cases hm:moI m=0
 ·obtain⟨n,hM⟩:=moI_ok hm
  exact at_no (by rw[sf_gone hM hA he h,Nat.zero_testBit])
 ·have h1:((updI m a).2.2 != 0)=true:=by
   cases q:((updI m a).2.2 != 0) with
   |true=>rfl
   |false =>
    obtain⟨k1,_⟩:=updI_ok (m:=m) (a:=a) (by simpa using q)
    obtain⟨⟨n,hM⟩,_⟩:=moaI_ok k1
    exact absurd (ok_moI hM) hm
  rw[atI,h1,cond_true]
  simpa using h1
theorem sf_dif {m:Mo} {a:Act} {e:Nat} (he:e∈evtL (smpA a)) (hd:(difI m (a,(e:Int)) (sfS a,(plN (sfZ a) (evtL (smpA a)).length ((evtL (smpA a)).idxOf e):Int)) (bisAt m (a,(e:Int)) (sfS a,(plN (sfZ a) (evtL (smpA a)).length ((evtL (smpA a)).idxOf e):Int)))).2=0) :
  (difI m (a,(e:Int)) (sfS a,(plN (sfZ a) (evtL (smpA a)).length ((evtL (smpA a)).idxOf e):Int)) (bisAt m (a,(e:Int)) (sfS a,(plN (sfZ a) (evtL (smpA a)).length ((evtL (smpA a)).idxOf e):Int)))).1 = -1:=by
 have hd0:difG m [(a,(e:Int)),(sfS a,(plN (sfZ a) (evtL (smpA a)).length ((evtL (smpA a)).idxOf e):Int))]=0:=by
  unfold difI at hd
  cases q:(difG m [(a,(e:Int)),(sfS a,(plN (sfZ a) (evtL (smpA a)).length ((evtL (smpA a)).idxOf e):Int))] != 0) with
  |true=>rw[q] at hd;have hd:difG m [(a,(e:Int)),(sfS a,(plN (sfZ a) (evtL (smpA a)).length ((evtL (smpA a)).idxOf e):Int))]=0:=hd;rw[hd] at q;cases q
  |false=>simpa using q
 obtain⟨hm,hz⟩:=dif_zero hd0
 obtain⟨n,hM⟩:=moI_ok hm
 have hA:=(hz _ (by simp:(a,(e:Int))∈_)).1
 have hS:=(hz (sfS a,(plN (sfZ a) (evtL (smpA a)).length ((evtL (smpA a)).idxOf e):Int)) (by simp)).1
 have hlt:=List.idxOf_lt_length_iff.2 he
 have hj:(evtL (smpA a))[(evtL (smpA a)).idxOf e]? = some e:=by
  rw[List.getElem?_eq_getElem hlt]
  congr 1
  exact List.getElem_idxOf hlt
 rw[eff_dif hd0 (sf_rel hM hA hS) ⟨_,hj,rfl⟩]
theorem csml_pure (m:Mo) (a:Act) (hf:FitM m) (hfa:Fit a):PureFn Tryz.prog 4 [m.pv,a.pv] (.bool true):=by
 have hW:=rm_Few m 8
 have hSl:=fn_small [a] (by simp)
 have hAw:=awk31
 have e2:((m.rel.map rowPV).length:Int)=(m.rel.length:Int):=by simp
 have e3:((m.val.map u64).length:Int)=(m.val.length:Int):=by simp
 have e4:((a.pre.map fpv).length:Int)=(a.pre.length:Int):=by simp
 have hfs:(!(bif !fewM m 8 then true else !smallI [a]))=true→SmX a:=fun h=>by
  have h1:(bif !fewM m 8 then true else !smallI [a])=false:=by simpa using h
  obtain⟨_,h2⟩:=or_ff' h1
  have h3:smallI [a]=true:=by simpa using h2
  unfold smallI at h3
  cases q:([a].all fun a=>fewI a 20) with
  |false=>rw[q] at h3;cases h3
  |true=>exact few_smx hfa (List.all_eq_true.1 q a (by simp))
 have hCk:=fun h=>ac_Check a ((m.rel.map rowPV).length:Int) ((m.val.map u64).length:Int) hfa (hfs h).rel (hfs h).post
 refine PureFn.introC [3,4,6,7,9,12,17,21,23,24,25] mixed (fn:=Tryz.f4) rfl rfl rfl fun M w0 => ?_
 try conv=>whnf
 refine⟨{ _x:Unit // actI a m.rel.length m.val.length=0∧SmX a },fun _=>[(2,.ref 0 0),(3,.ref 1 0)],fun _=>2,fun _=>[(0,.var (cellsM m)),(1,.var (cellsA a))],?_,?_⟩
 ·(try conv=>whnf);repeat' (first|(apply And.intro<;>try conv=>whnf)|(intro h;try conv=>whnf)|apply True.intro|(apply cellsI;rfl)|(apply WhenQ.mk;(try conv=>whnf);rotate_left;(try conv=>whnf);rotate_right)|with_reducible assumption|(apply not_of;with_reducible assumption)|(refine PureFn.dy hW rfl ?_;try conv=>whnf)|(refine PureFn.dy hSl rfl ?_;try conv=>whnf)|(refine PureFn.dy hAw rfl ?_;try conv=>whnf)|(refine PureFn.dcq (f:=16) rfl ?_;try conv=>whnf)|(refine⟨_,_,hCk ?_,?_,?_⟩;rotate_left 1;(focus first|(refine⟨?_,?_,?_,trivial⟩<;>first|exact PLe.refl _|exact PLe.nil)|exact trivial);try conv=>whnf)|fail)
  ·exact .refl _
  ·refine⟨⟨(),?_⟩,(by exact Wk.sm rfl rfl rfl rfl rfl)⟩
   obtain⟨h1,h2⟩:=or_ff' (show (bif (bif !fewM m 8 then true else !smallI [a]) then true else (actI a ((m.rel.map rowPV).length:Int) ((m.val.map u64).length:Int) != 0))=false from h)
   rw[e2,e3] at h2
   exact⟨by simpa using h2,hfs (by rw[h1];rfl)⟩
 rintro⟨_,hA,hSa⟩
 have h0:=(act_alone (act_F hA) hA).1
 have hSi:=cp_Simplify a hSa fun h=>sf_firsts h
 obtain⟨s,l,c,hI,hcase⟩:∃ (s:Act) (l:List Int) (c:Int),sfyI a=(s,l,c)∧((c=11∧(updI m a).2.2≠0)∨(c=0∧1≤(evtL (smpA a)).length∧s=sfS a∧l=(List.range a.pre.length).map (sfN (evtL (smpA a)) (sfZ a)))):=by
  by_cases q:(evtL (smpA a)).length=0
  ·exact⟨noAct,[],11,by rw[sfyI,h0,q];rfl,.inl ⟨rfl,sf_none hA q⟩⟩
  ·exact⟨sfS a,_,0,by rw[sfyI,h0,show (((evtL (smpA a)).length:Int)==0)=false by simpa using q];rfl,.inr ⟨rfl,by omega,rfl,rfl⟩⟩
 rw[hI] at hSi
 have hU:=pr_Update m a hf hfa hSa.rel hSa.post
 refine⟨Unit,fun _=>[(2,.ref 0 0),(3,.ref 1 0),(5,.ref 2 0),(6,.pv (.sl (l.map intI))),(7,.pv (.int .i64 c))],fun _=>3,fun _=>[(0,.var (cellsM m)),(1,.var (cellsA a)),(2,.var (cellsA s))],?_,?_⟩
 ·(try conv=>whnf);repeat' (first|(refine PureFn.dy hSi rfl ?_;try conv=>whnf)|fail)
  exact⟨(),(by exact Wk.sm rfl rfl rfl rfl rfl)⟩
 rintro⟨⟩
 try conv=>whnf
 refine⟨{ _x:Unit // c=0 },fun _=>[(2,.ref 0 0),(3,.ref 1 0),(5,.ref 2 0),(6,.pv (.sl (l.map intI)))],fun _=>3,fun _=>[(0,.var (cellsM m)),(1,.var (cellsA a)),(2,.var (cellsA s))],?_,?_⟩
 ·(try conv=>whnf);repeat' (first|(apply And.intro<;>try conv=>whnf)|(intro h;try conv=>whnf)|fail)
  ·have hc:c≠0:=by simpa using (show (c != 0)=true from h)
   rcases hcase with⟨rfl,hne⟩|⟨q,_⟩
   ·generalize updI m a=U at hU hne
    obtain⟨um,up,u⟩:=U
    refine⟨Unit,fun _=>[(7,.pv (.int .i64 11)),(10,.pv (.int .i64 u))],fun _=>3,fun _=>[],?_,?_⟩
    ·(try conv=>whnf);repeat' (first|(refine PureFn.dy hU rfl ?_;try conv=>whnf)|fail)
     exact⟨(),(by exact Wk.sm rfl rfl rfl rfl rfl)⟩
    rintro⟨⟩
    have hu:(u != 0)=true:=by simpa using hne
    (try conv=>whnf);repeat' (first|(apply And.intro<;>try conv=>whnf)|(intro h;try conv=>whnf)|apply True.intro|(apply WhenQ.mk;(try conv=>whnf);rotate_left;(try conv=>whnf);rotate_right)|with_reducible assumption|(refine PureFn.dy hAw rfl ?_;try conv=>whnf)|fail)
    exact le_bool (by rw[hu];rfl)
   ·exact absurd q hc
  ·exact⟨⟨(),by simpa using (show (c != 0)=false from h)⟩,(by exact Wk.sm rfl rfl rfl rfl rfl)⟩
 rintro⟨_,hc⟩
 subst hc
 rcases hcase with⟨q,_⟩|⟨_,h1,rfl,rfl⟩
 ·cases q
 clear hI hSi hU hCk
 have hS0:=sf_alone h0 h1
 have hS2:=cp_Simplify (sfS a) (smx_alone hS0) fun h=>sf_firsts h
 obtain⟨ht1,ht2⟩:=sf_twice h0 h1
 generalize (sfyI (sfS a)).2.1=l2 at ht1 ht2
 rw[ht1] at hS2
 have hEq:=ra_Equal (sfS a) (alone_small hS0)
 have hle:(sfS a).pre.length≤a.pre.length:=by
  rw[sfS_len.1]
  have:=kept_len (sfZ a) (evtL (smpA a)).length
  have:=evtL_len (smpA a)
  have:(smpA a).pre.length=a.pre.length:=by simp[smpA]
  omega
 have hD:=fun e q=>cdif_dif m (a,e) (sfS a,q) hf hSa (smx_alone hS0)
 have hdif:=fun e he hd=>sf_dif (m:=m) (a:=a) (e:=e) he hd
 have hAt:=fun w e=>pr_At m w a e hf hfa hSa.rel hSa.post
 have hno:=fun w e (he:e<a.pre.length) h=>at_gone (m:=m) (a:=a) (w:=w) (e:=e) hA he h
 have n8:=(actI_ok h0).n8
 obtain⟨S,hS⟩:∃ S,S=sfS a:=⟨_,rfl⟩
 obtain⟨sn,hsn⟩:∃ sn,sn=sfN (evtL (smpA a)) (sfZ a):=⟨_,rfl⟩
 rw[← hS] at hS2 hEq hle hD hdif ht2
 rw[← hS,← hsn]
 have e5:((S.pre.map fpv).length:Int)=(S.pre.length:Int):=by simp
 have e6:((((List.range a.pre.length).map sn).map intI).length:Int)=(a.pre.length:Int):=by simp
 clear hS h1 hS0 ht1
 try conv=>whnf
 refine⟨Unit,fun _=>[(2,.ref 0 0),(3,.ref 1 0),(5,.ref 2 0),(6,.pv (.sl (((List.range a.pre.length).map sn).map intI)))],fun _=>3,fun _=>[(0,.var (cellsM m)),(1,.var (cellsA a)),(2,.var (cellsA S))],?_,?_⟩
 ·(try conv=>whnf);repeat' (first|(apply And.intro<;>try conv=>whnf)|(intro h;try conv=>whnf)|apply True.intro|(apply WhenQ.mk;(try conv=>whnf);rotate_left;(try conv=>whnf);rotate_right)|with_reducible assumption|(apply not_of;with_reducible assumption)|fail)
  ·exfalso
   have h:(bif ((((List.range a.pre.length).map sn).map intI).length:Int) != ((a.pre.map fpv).length:Int) then true else decide (((S.pre.map fpv).length:Int)>((a.pre.map fpv).length:Int)))=true:=h
   rw[e6,e4,e5,show ((a.pre.length:Int) != (a.pre.length:Int))=false by simp,cond_false] at h
   have:=of_decide_eq_true h
   omega
  ·exact⟨(),(by exact Wk.sm rfl rfl rfl rfl rfl)⟩
 rintro⟨⟩
 try conv=>whnf
 refine⟨Unit,fun _=>[(2,.ref 0 0),(3,.ref 1 0),(5,.ref 2 0)],fun _=>3,fun _=>[(0,.var (cellsM m)),(1,.var (cellsA a)),(2,.var (cellsA S))],?_,?_⟩
 ·try conv=>whnf
  refine⟨{ i:Nat // i≤a.pre.length },fun i=>[(2,.ref 0 0),(3,.ref 1 0),(5,.ref 2 0),(82,.pv (.sl (((List.range a.pre.length).map sn).map intI))),(83,.pv (i64 (((List.range a.pre.length).map sn).map intI).length)),(84,.pv (i64 i.1))],fun _=>3,fun _=>[(0,.var (cellsM m)),(1,.var (cellsA a)),(2,.var (cellsA S))],fun i=>a.pre.length-i.1,⟨⟨0,Nat.zero_le _⟩,(by exact Wk.sm rfl rfl rfl rfl rfl)⟩,?_⟩
  rintro⟨i,hi⟩
  (try conv=>whnf);repeat' (first|(apply And.intro<;>try conv=>whnf)|(intro h;try conv=>whnf)|fail)
  ·have hi':i<a.pre.length:=by simpa using lt_dec h
   have hx:((List.range a.pre.length).map sn)[i]? = some (sn i):=by rw[List.getElem?_map,List.getElem?_range hi'];rfl
   refine⟨Unit,fun _=>[(2,.ref 0 0),(3,.ref 1 0),(5,.ref 2 0),(82,.pv (.sl (((List.range a.pre.length).map sn).map intI))),(83,.pv (i64 (((List.range a.pre.length).map sn).map intI).length)),(84,.pv (i64 i))],fun _=>3,fun _=>[(0,.var (cellsM m)),(1,.var (cellsA a)),(2,.var (cellsA S))],?_,?_⟩
   ·try conv=>whnf
    refine⟨Unit,fun _=>[(2,.ref 0 0),(3,.ref 1 0),(5,.ref 2 0),(82,.pv (.sl (((List.range a.pre.length).map sn).map intI))),(83,.pv (i64 (((List.range a.pre.length).map sn).map intI).length)),(84,.pv (i64 i)),(11,.pv (i64 i)),(12,.pv (intI (sn i)))],fun _=>3,fun _=>[(0,.var (cellsM m)),(1,.var (cellsA a)),(2,.var (cellsA S))],?_,?_⟩
    ·(try conv=>whnf);repeat' (first|(apply And.intro<;>try conv=>whnf)|(apply infoT;rfl)|(refine⟨_,_,rfl,idx_map (by with_reducible assumption),rfl,?_⟩;try conv=>whnf)|fail)
     exact⟨(),(by exact Wk.sm rfl rfl rfl rfl rfl)⟩
    rintro⟨⟩
    by_cases him:i∈evtL (smpA a)
    ·have hsi:sn i=(plN (sfZ a) (evtL (smpA a)).length ((evtL (smpA a)).idxOf i):Nat):=by rw[hsn,sfN,if_pos him]
     have hdif:=hdif i him
     generalize plN (sfZ a) (evtL (smpA a)).length ((evtL (smpA a)).idxOf i)=p at hsi hdif
     have hD:=hD i p
     generalize difI m (a,(i:Int)) (S,(p:Int)) (bisAt m (a,(i:Int)) (S,(p:Int)))=D at hD hdif
     obtain⟨d,c⟩:=D
     rw[hsi]
     (try conv=>whnf);repeat' (first|(apply And.intro<;>try conv=>whnf)|(intro h;try conv=>whnf)|fail)
     ·exfalso
      have h:((p:Int) == -1)=true:=h
      have:(p:Int) = -1:=by simp at h
      omega
     ·refine⟨Unit,fun _=>[(2,.ref 0 0),(3,.ref 1 0),(5,.ref 2 0),(82,.pv (.sl (((List.range a.pre.length).map sn).map intI))),(83,.pv (i64 (((List.range a.pre.length).map sn).map intI).length)),(84,.pv (i64 i)),(17,.pv (.int .i64 d)),(18,.pv (.int .i64 c))],fun _=>3,fun _=>[(0,.var (cellsM m)),(1,.var (cellsA a)),(2,.var (cellsA S))],?_,?_⟩
      ·(try conv=>whnf);repeat' (first|(refine PureFn.dy hD rfl ?_;try conv=>whnf)|fail)
       exact⟨(),(by exact Wk.sm rfl rfl rfl rfl rfl)⟩
      rintro⟨⟩
      (try conv=>whnf);repeat' (first|(apply And.intro<;>try conv=>whnf)|(intro h;try conv=>whnf)|apply True.intro|(apply WhenQ.mk;(try conv=>whnf);rotate_left;(try conv=>whnf);rotate_right)|with_reducible assumption|fail)
      ·exfalso
       have h:(bif c==0 then d != -1 else false)=true:=h
       cases hc:(c==0) with
       |false=>rw[hc] at h;cases h
       |true =>
        rw[hc,cond_true] at h
        have:=hdif (by simpa using hc)
        simp only at this
        rw[this] at h
        cases h
      ·exact⟨(),(by exact Wk.sm rfl rfl rfl rfl rfl)⟩
    ·have hsi:sn i = -1:=by rw[hsn,sfN,if_neg him]
     have hno:=fun w=>hno w i hi' him
     have hAt:=fun w:Nat=>hAt w i
     rw[hsi]
     (try conv=>whnf);repeat' (first|(apply And.intro<;>try conv=>whnf)|(intro h;try conv=>whnf)|fail)
     ·obtain⟨k,hk⟩:∃ k:Int,min 8 m.n=k:=⟨_,rfl⟩
      refine⟨{ w:Nat // (w:Int)≤k∨w=0 },fun w=>[(2,.ref 0 0),(3,.ref 1 0),(5,.ref 2 0),(82,.pv (.sl (((List.range a.pre.length).map sn).map intI))),(83,.pv (i64 (((List.range a.pre.length).map sn).map intI).length)),(84,.pv (i64 i)),(11,.pv (i64 i)),(93,.pv (.int .i64 k)),(94,.pv (i64 w.1))],fun _=>3,fun _=>[(0,.var (cellsM m)),(1,.var (cellsA a)),(2,.var (cellsA S))],fun w=>k.toNat-w.1,⟨⟨0,.inr rfl⟩,?_⟩,?_⟩
      ·(refine Wk.of ?_ ?_ rfl rfl rfl<;>repeat' (first|exact trivial|exact WkD.same _|exact WkO.same _ _ rfl|refine WkD.int ?_|refine⟨?_,?_⟩|fail))
       exact hk
      rintro⟨w,hwk⟩
      (try conv=>whnf);repeat' (first|(apply And.intro<;>try conv=>whnf)|(intro h;try conv=>whnf)|fail)
      ·have hwk':(w:Int)<k:=of_decide_eq_true h
       have hAt:=hAt w
       have hno:=hno w
       generalize atI m w a i=T at hAt hno
       obtain⟨tm,tw,c⟩:=T
       refine⟨Unit,fun _=>[(2,.ref 0 0),(3,.ref 1 0),(5,.ref 2 0),(82,.pv (.sl (((List.range a.pre.length).map sn).map intI))),(83,.pv (i64 (((List.range a.pre.length).map sn).map intI).length)),(84,.pv (i64 i)),(11,.pv (i64 i)),(93,.pv (.int .i64 k)),(94,.pv (i64 w)),(16,.pv (.int .i64 c))],fun _=>3,fun _=>[(0,.var (cellsM m)),(1,.var (cellsA a)),(2,.var (cellsA S))],?_,?_⟩
       ·(try conv=>whnf);repeat' (first|(refine PureFn.dy hAt rfl ?_;try conv=>whnf)|fail)
        exact⟨(),(by exact Wk.sm rfl rfl rfl rfl rfl)⟩
       rintro⟨⟩
       (try conv=>whnf);repeat' (first|(apply And.intro<;>try conv=>whnf)|(intro h;try conv=>whnf)|fail)
       ·exfalso
        have h:(c==0)=true:=h
        exact hno (by simpa using h)
       ·exact⟨⟨w+1,.inl (by omega)⟩,by show k.toNat-(w+1)<k.toNat-w;omega,(by refine Wk.of ?_ ?_ rfl rfl rfl<;>repeat' (first|exact trivial|exact WkD.same _|exact WkO.same _ _ rfl|refine WkD.int ?_|refine⟨?_,?_⟩|(refine wrapA ?_ ?_ ?_;(focus simp;done);(focus (try dsimp only);omega);(focus (try dsimp only);omega))|fail))⟩
      ·exact⟨(),(by exact Wk.sm rfl rfl rfl rfl rfl)⟩
     ·exfalso
      cases h
   rintro⟨⟩
   try conv=>whnf
   exact⟨⟨i+1,hi'⟩,by show a.pre.length-(i+1)<a.pre.length-i;omega,(by refine Wk.of ?_ ?_ rfl rfl rfl<;>repeat' (first|exact trivial|exact WkD.same _|exact WkO.same _ _ rfl|refine WkD.int ?_|refine⟨?_,?_⟩|(refine wrapA ?_ ?_ ?_;(focus simp;done);(focus (try dsimp only);omega);(focus (try dsimp only);omega))|fail))⟩
  ·exact⟨(),(by exact Wk.sm rfl rfl rfl rfl rfl)⟩
 rintro⟨⟩
 refine⟨Unit,fun _=>[(5,.ref 2 0),(19,.ref 3 0),(20,.pv (.sl (l2.map intI))),(21,.pv (.int .i64 0))],fun _=>4,fun _=>[(2,.var (cellsA S)),(3,.var (cellsA S))],?_,?_⟩
 ·(try conv=>whnf);repeat' (first|(refine PureFn.dy hS2 rfl ?_;try conv=>whnf)|fail)
  exact⟨(),(by exact Wk.sm rfl rfl rfl rfl rfl)⟩
 rintro⟨⟩
 (try conv=>whnf);repeat' (first|(apply And.intro<;>try conv=>whnf)|(intro h;try conv=>whnf)|apply True.intro|(apply WhenQ.mk;(try conv=>whnf);rotate_left;(try conv=>whnf);rotate_right)|with_reducible assumption|(refine PureFn.dy hEq rfl ?_;try conv=>whnf)|(refine PureFn.dy hAw rfl ?_;try conv=>whnf)|fail)
 refine le_bool ?_
 rw[show (((l2.map intI).length:Int)==((S.pre.map fpv).length:Int))=true by simp[ht2]]
 rfl
theorem csml_args (ps:List PV) (hps:TyAll Tryz.prog 8 Tryz.f4.params.toList ps):PureFn Tryz.prog 4 ps (.bool true):=by
 obtain⟨p1,r1,rfl,h1,p2,r2,rfl,h2,rfl⟩:=hps
 obtain⟨m,hm,hf⟩:=arg_mod (n:=4) h1
 obtain⟨a,ha,hfa⟩:=arg_act (n:=4) h2
 exact (csml_pure m a hf hfa).le ⟨hm,ha,trivial⟩
end Go.Proofs.YtejbieopeicgkaaGreatDoor
