/- Parts of the proof, one after the other: Action models: Check of the program walked. Action models: the conditions of the logics, of the program, walked. Messages: all results are valid and have the relations of their logics (plain). Reductions: what is known of a formula that a constructor returned (plain). Formulas: constructors, where nothing is told from an empty list. Action models: Group, Meet and Value of the program walked. Action models: Same of the program walked. Action models: what can be reached from an event (plain). Action models: Generated of the program walked. Reductions of announcements: what they are (plain). The layer Dv, part 23: a call sees a part of the heap, under other numbers. The layer Dv, part 24: objects whose numbers are not literals; own arrays lent to calls. Reductions of announcements: the program walked. Reductions of announcements: operands, announce, Announced of the program walked. Reductions of events and of whole formulas: what they are (plain). -/
import Derived.Test.YtejbieopeicgkaaGreatDoorM5
set_option maxRecDepth 100000
set_option maxHeartbeats 4000000
namespace Go.Proofs.YtejbieopeicgkaaGreatDoor
open Go Go.Dv
theorem shr_lt {x k m:Nat} (h:x<2^(k+m)):x >>> k<2^m:=by
 rw[Nat.shiftRight_eq_div_pow]
 exact Nat.div_lt_of_lt_mul (by rw[← Nat.pow_add];exact h)
theorem bits_Len64 (x:Nat) (hx:x<2^64):PureFn Tryz.prog 103 [u64 x] (.int .i64 (len64 x:Nat)):=by
 refine PureFn.introC [4,7,10] mixed (fn:=Tryz.f103) rfl rfl rfl fun M w0 => ?_
 try conv=>whnf
 refine⟨{ q:Nat×Nat // q.1<2^32∧q.2≤32∧len64 x=q.2+len64 q.1 },fun q=>[(0,.pv (u64 q.1.1)),(2,.pv (i64 q.1.2))],fun _=>0,fun _=>[],?_,?_⟩
 ·(try conv=>whnf);repeat' (first|(apply And.intro<;>try conv=>whnf)|(intro h;try conv=>whnf)|fail)
  ·exact Int.natCast_nonneg 32
  ·have h1:2^32≤x:=by have:=of_decide_eq_true h;omega
   refine⟨⟨(x >>> 32,32),shr_lt hx,by omega,len64_shift h1⟩,?_⟩
   (refine Wk.of ?_ ?_ rfl rfl rfl<;>repeat' (first|exact trivial|exact WkD.same _|refine WkD.int ?_|refine⟨?_,?_⟩|fail))
   exact shrU_nat x 32 (by omega)
  ·have h1:¬ 2^32≤x:=by have:=of_decide_eq_false h;omega
   refine⟨⟨(x,0),by omega,by omega,by simp⟩,?_⟩
   (refine Wk.of ?_ ?_ rfl rfl rfl<;>repeat' (first|exact trivial|exact WkD.same _|refine⟨?_,?_⟩|fail))
 rintro⟨⟨y,n⟩,hy,hn,he⟩
 simp only at hy hn he
 refine⟨{ q:Nat×Nat // q.1<2^16∧q.2≤48∧len64 x=q.2+len64 q.1 },fun q=>[(0,.pv (u64 q.1.1)),(2,.pv (i64 q.1.2))],fun _=>0,fun _=>[],?_,?_⟩
 ·(try conv=>whnf);repeat' (first|(apply And.intro<;>try conv=>whnf)|(intro h;try conv=>whnf)|fail)
  ·exact Int.natCast_nonneg 16
  ·have h1:2^16≤y:=by have:=of_decide_eq_true h;simp only at *;omega
   have h2:=len64_shift h1
   refine⟨⟨(y >>> 16,n+16),shr_lt hy,by simp only at *;omega,by simp only at *;omega⟩,?_⟩
   (refine Wk.of ?_ ?_ rfl rfl rfl<;>repeat' (first|exact trivial|refine WkD.int ?_|refine⟨?_,?_⟩|(refine wrapA ?_ ?_ ?_;(focus simp;done);(focus (try dsimp only);omega);(focus (try dsimp only);omega))|fail))
   all_goals first|exact shrU_nat y 16 (by omega)|exact (wrap_small (by simp only at *;omega) (by simp only at *;omega)).trans (by simp)
  ·have h1:¬ 2^16≤y:=by have:=of_decide_eq_false h;simp only at *;omega
   exact⟨⟨(y,n),by simp only at *;omega,by simp only at *;omega,he⟩,(by exact Wk.sm rfl rfl rfl rfl rfl)⟩
 rintro⟨⟨y,n⟩,hy,hn,he⟩
 simp only at hy hn he
 refine⟨{ q:Nat×Nat // q.1<2^8∧q.2≤56∧len64 x=q.2+len64 q.1 },fun q=>[(0,.pv (u64 q.1.1)),(2,.pv (i64 q.1.2))],fun _=>0,fun _=>[],?_,?_⟩
 ·(try conv=>whnf);repeat' (first|(apply And.intro<;>try conv=>whnf)|(intro h;try conv=>whnf)|fail)
  ·exact Int.natCast_nonneg 8
  ·have h1:2^8≤y:=by have:=of_decide_eq_true h;simp only at *;omega
   have h2:=len64_shift h1
   refine⟨⟨(y >>> 8,n+8),shr_lt hy,by simp only at *;omega,by simp only at *;omega⟩,?_⟩
   (refine Wk.of ?_ ?_ rfl rfl rfl<;>repeat' (first|exact trivial|refine WkD.int ?_|refine⟨?_,?_⟩|(refine wrapA ?_ ?_ ?_;(focus simp;done);(focus (try dsimp only);omega);(focus (try dsimp only);omega))|fail))
   all_goals first|exact shrU_nat y 8 (by omega)|exact (wrap_small (by simp only at *;omega) (by simp only at *;omega)).trans (by simp)
  ·have h1:¬ 2^8≤y:=by have:=of_decide_eq_false h;simp only at *;omega
   exact⟨⟨(y,n),by simp only at *;omega,by simp only at *;omega,he⟩,(by exact Wk.sm rfl rfl rfl rfl rfl)⟩
 rintro⟨⟨y,n⟩,hy,hn,he⟩
 simp only at hy hn he
 try conv=>whnf
 refine⟨y,len64 y,?_,?_,?_⟩
 ·have h1:IntKind.wrap .u8 (y:Int)=(y:Int) % 256:=rfl
  exact h1.trans (Int.emod_eq_of_lt (by omega) (by omega))
 ·clear he
  revert y
  decide +kernel
 try conv=>whnf
 have h8:len64 y≤8:=len64_lt.2 hy
 refine le_int ?_
 have e:IntKind.wrap .i64 ((n:Int)+IntKind.wrap .i64 (len64 y:Nat))=((len64 x:Nat):Int):=by
  rw[wrap_small (n:=((len64 y:Nat):Int)) (by omega) (by omega),wrap_small (by omega) (by omega),he];omega
 exact e
theorem ac_changes (l:List Asg) (ag n:Int) (hl:l.length≤1000):PureFn Tryz.prog 50 [postPV l,.int .i64 ag,.int .i64 n] (.int .i64 (chgs ag n l (-1))):=by
 refine PureFn.intro mixed (fn:=Tryz.f50) rfl rfl rfl fun M w0 => ?_
 try conv=>whnf
 refine⟨{ q:Nat×Int // q.1≤l.length∧chgs ag n l (-1)=chgs ag n (l.drop q.1) q.2 },fun q=>[(1,.pv (.int .i64 ag)),(2,.pv (.int .i64 n)),(7,.pv (.int .i64 q.1.2)),(11,.pv (postPV l)),(12,.pv (i64 (l.map Asg.pv).length)),(13,.pv (i64 q.1.1))],fun _=>0,fun _=>[],fun q=>l.length-q.1.1,⟨⟨(0,-1),Nat.zero_le _,rfl⟩,(by exact Wk.sm rfl rfl rfl rfl rfl)⟩,?_⟩
 rintro⟨⟨i,last⟩,hi,he⟩
 simp only at hi he
 (try conv=>whnf);repeat' (first|(apply And.intro<;>try conv=>whnf)|(intro h;try conv=>whnf)|(apply infoT;rfl)|fail)
 ·have hi':i<l.length:=by simpa using lt_dec h
  have hn:l[i]? = some l[i]:=List.getElem?_eq_getElem hi'
  have hS:=ac_static l[i].to ag n
  rw[chgs_drop hi'] at he
  refine⟨_,_,rfl,idx_map hn,rfl,?_⟩
  (try conv=>whnf);repeat' (first|(apply And.intro<;>try conv=>whnf)|(intro h;try conv=>whnf)|apply True.intro|(apply WhenQ.mk;(try conv=>whnf);rotate_left;(try conv=>whnf);rotate_right)|with_reducible assumption|(apply not_of;with_reducible assumption)|(refine PureFn.dy hS rfl ?_;try conv=>whnf)|fail)
  ·refine le_int ?_
   rw[he,show (bif decide (l[i].fact<0) then true else decide (l[i].fact≥n))=true from h];rfl
  ·rename_i h1
   refine le_int ?_
   rw[he,show (bif decide (l[i].fact<0) then true else decide (l[i].fact≥n))=false from h1,show decide (l[i].fact≤last)=true from h];rfl
  ·rename_i h2 h1
   refine le_int ?_
   rw[he,show (bif decide (l[i].fact<0) then true else decide (l[i].fact≥n))=false from h2,show decide (l[i].fact≤last)=false from h1,h];rfl
  ·rename_i h2 h1
   rw[show (bif decide (l[i].fact<0) then true else decide (l[i].fact≥n))=false from h2,show decide (l[i].fact≤last)=false from h1,h] at he
   exact⟨⟨(i+1,l[i].fact),hi',he⟩,by show l.length-(i+1)<l.length-i;omega,(by refine Wk.of ?_ ?_ rfl rfl rfl<;>repeat' (first|exact trivial|exact WkD.same _|refine WkD.int ?_|refine⟨?_,?_⟩|(refine wrapA ?_ ?_ ?_;(focus simp;done);(focus (try dsimp only);omega);(focus (try dsimp only);omega))|fail))⟩
 ·have hi':i=l.length:=by have:=ge_dec (m:=(l.map Asg.pv).length) h (by simpa using hi);simpa using this
  subst hi'
  rw[he,List.drop_eq_nil_of_le (Nat.le_refl _)];exact .refl _
def HS (a:Act):List (Nat×DObj):=[(0,.var (cellsA a)),(1,.var [.pv (i64 a.pre.length)])]
theorem shp1 {M:Nat→Prop} {w0:W0} (a:Act) (r:List Nat) (base:Nat) (K:DV→DH→Prop) (hK:K (.pv (.bool ((r.length:Int) != (a.pre.length:Int)))) ⟨2,0,base,objsOf (HS a)⟩) :
  DC Tryz.prog M w0 102 [.pv (rowPV r),.ref 1 0] ⟨2,0,base,objsOf (HS a)⟩ K:=by
 refine DC.intro mixed (fn:=Tryz.f102) rfl rfl rfl ?_
 have e:((r.map u64).length:Int)=(r.length:Int):=by simp
 rw[← e] at hK
 try conv=>whnf
 exact hK
theorem idx_S {M:Nat→Prop} {w0:W0} (a:Act) (rows:List (List Nat)) (hl:rows.length≤1000) (hr:∀ r,r∈rows→True) (base:Nat) (K:DV→DH→Prop) (hK:∀ r:Int,decide (r≥0)=rows.any (fun r=>((r.length:Int) != (a.pre.length:Int)))→K (.pv (.int .i64 r)) ⟨2,0,base,objsOf (HS a)⟩) :
  DC Tryz.prog M w0 124 [.pv (.sl (rows.map rowPV)),.clo 102 [] [.ref 1 0]] ⟨2,0,base,objsOf (HS a)⟩ K:=by
 refine DC.weaken (DC.intro mixed (fn:=Tryz.f124) rfl rfl rfl ?_)
 try conv=>whnf
 refine⟨{ i:Nat // i≤rows.length∧(rows.take i).any (fun r=>((r.length:Int) != (a.pre.length:Int)))=false },fun i=>[(0,.pv (.sl (rows.map rowPV))),(1,.clo 102 [] [.ref 1 0]),(7,.pv (i64 (rows.map rowPV).length)),(8,.pv (i64 i.1))],fun _=>2,fun _=>HS a,fun i=>rows.length-i.1,⟨⟨0,Nat.zero_le _,rfl⟩,(by exact Wk.sm rfl rfl rfl rfl rfl)⟩,?_⟩
 rintro⟨i,hi,ha⟩
 (try conv=>whnf);repeat' (first|(apply And.intro<;>try conv=>whnf)|(intro h;try conv=>whnf)|(apply infoT;rfl)|fail)
 ·have hi':i<rows.length:=by simpa using lt_dec h
  have hn:rows[i]? = some rows[i]:=List.getElem?_eq_getElem hi'
  have _hri:=hr _ (List.getElem_mem hi')
  refine⟨_,_,rfl,idx_map hn,rfl,?_⟩
  try conv=>whnf
  refine shp1 a rows[i] _ _ ?_
  (try conv=>whnf);repeat' (first|(apply And.intro<;>try conv=>whnf)|(intro h;try conv=>whnf)|fail)
  ·have e:rows.any (fun r=>((r.length:Int) != (a.pre.length:Int)))=true:=any_at hi' h
   exact⟨.pv (.int .i64 (i:Int)),2,HS a,(by exact Wk.sm rfl rfl rfl rfl rfl),hK i (by rw[e];simp)⟩
  ·exact⟨⟨i+1,hi',any_take hi' ha h⟩,by show rows.length-(i+1)<rows.length-i;omega,(by refine Wk.of ?_ ?_ rfl rfl rfl<;>repeat' (first|exact trivial|exact WkD.same _|exact WkO.same _ _ rfl|refine WkD.int ?_|refine⟨?_,?_⟩|(refine wrapA ?_ ?_ ?_;(focus simp;done);(focus (try dsimp only);omega);(focus (try dsimp only);omega))|fail))⟩
 ·have hi':i=rows.length:=by have:=ge_dec (m:=(rows.map rowPV).length) h (by simpa using hi);simpa using this
  subst hi'
  rw[List.take_length] at ha
  exact⟨.pv (.int .i64 (-1)),2,HS a,(by exact Wk.sm rfl rfl rfl rfl rfl),hK (-1) (by rw[ha];decide)⟩
theorem cont_S {M:Nat→Prop} {w0:W0} (a:Act) (rows:List (List Nat)) (hl:rows.length≤1000) (hr:∀ r,r∈rows→True) (base:Nat) (K:DV→DH→Prop) (hK:K (.pv (.bool (rows.any (fun r=>((r.length:Int) != (a.pre.length:Int)))))) ⟨2,0,base,objsOf (HS a)⟩) :
  DC Tryz.prog M w0 92 [.pv (.sl (rows.map rowPV)),.clo 102 [] [.ref 1 0]] ⟨2,0,base,objsOf (HS a)⟩ K:=by
 refine DC.intro mixed (fn:=Tryz.f92) rfl rfl rfl ?_
 try conv=>whnf
 refine idx_S a rows hl hr 2 _ fun r e => ?_
 rw[← e] at hK
 try conv=>whnf
 exact hK
theorem ac_shape (a:Act) (ag:Int) (hf:Fit a) (hl:a.rel.length≤1000):PureFn Tryz.prog 48 [a.pv,.int .i64 ag] (.int .i64 (shapeI a ag)):=by
 refine PureFn.introC [2,4,6] mixed (fn:=Tryz.f48) rfl rfl rfl fun M w0 => ?_
 have e1:((a.pre.map fpv).length:Int)=(a.pre.length:Int):=by simp
 have e2:((a.post.map postPV).length:Int)=(a.post.length:Int):=by simp
 have e3:((a.rel.map rowPV).length:Int)=(a.rel.length:Int):=by simp
 try conv=>whnf
 refine⟨Unit,fun _=>[(1,.pv (.int .i64 ag)),(2,.ref 0 0),(5,.ref 1 0)],fun _=>2,fun _=>HS a,?_,?_⟩
 ·try conv=>whnf
  refine⟨(),?_⟩
  (refine Wk.of ?_ ?_ rfl rfl rfl<;>repeat' (first|exact trivial|exact WkD.same _|exact WkO.same _ _ rfl|refine WkD.int ?_|refine WkO.vars rfl ?_|refine⟨?_,?_⟩|fail))
  exact e1
 rintro⟨⟩
 refine⟨{ _x:Unit // (bif decide ((a.pre.length:Int)<1) then true else decide ((a.pre.length:Int)>8))=false },fun _=>[(1,.pv (.int .i64 ag)),(2,.ref 0 0),(5,.ref 1 0)],fun _=>2,fun _=>HS a,?_,?_⟩
 ·(try conv=>whnf);repeat' (first|(apply And.intro<;>try conv=>whnf)|(intro h;try conv=>whnf)|apply True.intro|(apply WhenQ.mk;(try conv=>whnf);rotate_left;(try conv=>whnf);rotate_right)|with_reducible assumption|(apply not_of;with_reducible assumption)|fail)
  ·refine le_int ?_
   rw[shapeI,show (bif decide ((a.pre.length:Int)<1) then true else decide ((a.pre.length:Int)>8))=true from h];rfl
  ·exact⟨⟨(),h⟩,(by exact Wk.sm rfl rfl rfl rfl rfl)⟩
 rintro⟨_,h1⟩
 refine⟨{ _x:Unit // (bif (bif (a.post.length:Int) != (a.pre.length:Int) then true else (a.rel.length:Int) != ag) then true else rowsBad a.rel a.pre.length)=false },fun _=>[(2,.ref 0 0),(5,.ref 1 0)],fun _=>2,fun _=>HS a,?_,?_⟩
 ·(try conv=>whnf);repeat' (first|(apply And.intro<;>try conv=>whnf)|(intro h;try conv=>whnf)|apply True.intro|(apply WhenQ.mk;(try conv=>whnf);rotate_left;(try conv=>whnf);rotate_right)|with_reducible assumption|(apply not_of;with_reducible assumption)|fail)
  ·refine cont_S a a.rel hl (fun _ _=>trivial) 0 _ ?_
   (try conv=>whnf);repeat' (first|(apply And.intro<;>try conv=>whnf)|fail)
  ·(try conv=>whnf);repeat' (first|(apply And.intro<;>try conv=>whnf)|(intro h;try conv=>whnf)|(apply not_of;with_reducible assumption)|fail)
   ·have h3:(bif (bif (a.post.length:Int) != (a.pre.length:Int) then true else (a.rel.length:Int) != ag) then true else rowsBad a.rel a.pre.length)=true:=by rw[← e2,← e3];exact h
    refine le_int ?_
    rw[shapeI,h1,h3];rfl
   ·have h3:(bif (bif (a.post.length:Int) != (a.pre.length:Int) then true else (a.rel.length:Int) != ag) then true else rowsBad a.rel a.pre.length)=false:=by rw[← e2,← e3];exact h
    exact⟨⟨(),h3⟩,(by exact Wk.sm rfl rfl rfl rfl rfl)⟩
 rintro⟨_,h2⟩
 have hsh:shapeI a ag=bif bitsBad a.rel a.pre.length then 2 else 0:=by rw[shapeI,h1,h2];rfl
 have hrw:rowsBad a.rel a.pre.length=false:=by
  cases h4:rowsBad a.rel a.pre.length with
  |false=>rfl
  |true =>
   rw[h4] at h2
   cases hh:(bif (a.post.length:Int) != (a.pre.length:Int) then true else (a.rel.length:Int) != ag)<;>rw[hh] at h2<;>cases h2
 have hrow:=rows_ok hrw
 have hn8:a.pre.length≤8:=by
  by_cases h6:(a.pre.length:Int)<1
  ·omega
  ·rw[decide_eq_false h6] at h1
   have:=of_decide_eq_false h1
   omega
 rw[hsh]
 try conv=>whnf
 refine⟨{ i:Nat // i≤a.rel.length∧bitsBad (a.rel.take i) a.pre.length=false },fun i=>[(2,.ref 0 0),(5,.ref 1 0),(38,.pv (.sl (a.rel.map rowPV))),(39,.pv (i64 (a.rel.map rowPV).length)),(40,.pv (i64 i.1))],fun _=>2,fun _=>HS a,fun i=>a.rel.length-i.1,⟨⟨0,Nat.zero_le _,rfl⟩,(by exact Wk.sm rfl rfl rfl rfl rfl)⟩,?_⟩
 rintro⟨i,hi,hb⟩
 (try conv=>whnf);repeat' (first|(apply And.intro<;>try conv=>whnf)|(intro h;try conv=>whnf)|(apply infoT;rfl)|fail)
 ·have hi':i<a.rel.length:=by simpa using lt_dec h
  have hn:a.rel[i]? = some a.rel[i]:=List.getElem?_eq_getElem hi'
  have hri:=hrow _ (List.getElem_mem hi')
  have hfi:=hf _ (List.getElem_mem hi')
  have hat:=fun (hh:(a.rel[i]).any (fun s=>decide ((len64 s:Int)>(a.pre.length:Int)))=true)=>any_at (p:=fun r:List Nat=>r.any fun s=>decide ((len64 s:Int)>(a.pre.length:Int))) hi' hh
  have htk:=any_take (p:=fun r:List Nat=>r.any fun s=>decide ((len64 s:Int)>(a.pre.length:Int))) hi' hb
  refine⟨_,_,rfl,idx_map hn,rfl,?_⟩
  generalize a.rel[i]=r at hn hri hfi hat htk
  try conv=>whnf
  refine⟨{ j:Nat // j≤r.length∧(r.take j).any (fun s=>decide ((len64 s:Int)>(a.pre.length:Int)))=false },fun j=>[(2,.ref 0 0),(5,.ref 1 0),(38,.pv (.sl (a.rel.map rowPV))),(39,.pv (i64 (a.rel.map rowPV).length)),(40,.pv (i64 i)),(44,.pv (rowPV r)),(45,.pv (i64 (r.map u64).length)),(46,.pv (i64 j.1))],fun _=>2,fun _=>HS a,fun j=>r.length-j.1,⟨⟨0,Nat.zero_le _,rfl⟩,(by exact Wk.sm rfl rfl rfl rfl rfl)⟩,?_⟩
  rintro⟨j,hj,hc⟩
  (try conv=>whnf);repeat' (first|(apply And.intro<;>try conv=>whnf)|(intro h;try conv=>whnf)|(apply infoT;rfl)|fail)
  ·have hj':j<r.length:=by simpa using lt_dec h
   have hm:r[j]? = some r[j]:=List.getElem?_eq_getElem hj'
   have hL:=bits_Len64 r[j] (hfi _ (List.getElem_mem hj'))
   refine⟨_,_,rfl,idx_map hm,rfl,?_⟩
   (try conv=>whnf);repeat' (first|(apply And.intro<;>try conv=>whnf)|(intro h;try conv=>whnf)|(refine lin_plan (by kernel_rfl) ?_;try conv=>whnf)|(refine⟨_,(by (conv=>whnf);exact hL),rfl,?_⟩;try conv=>whnf)|fail)
   ·have e:r.any (fun s=>decide ((len64 s:Int)>(a.pre.length:Int)))=true:=any_at hj' h
    rw[show bitsBad a.rel a.pre.length=true from hat e];exact .refl _
   ·exact⟨⟨j+1,hj',any_take hj' hc h⟩,by show r.length-(j+1)<r.length-j;omega,(by refine Wk.of ?_ ?_ rfl rfl rfl<;>repeat' (first|exact trivial|exact WkD.same _|exact WkO.same _ _ rfl|refine WkD.int ?_|refine⟨?_,?_⟩|(refine wrapA ?_ ?_ ?_;(focus simp;done);(focus (try dsimp only);omega);(focus (try dsimp only);omega))|fail))⟩
  ·have hj':j=r.length:=by have:=ge_dec (m:=(r.map u64).length) h (by simpa using hj);simpa using this
   subst hj'
   rw[List.take_length] at hc
   exact⟨⟨i+1,hi',htk hc⟩,by show a.rel.length-(i+1)<a.rel.length-i;omega,(by refine Wk.of ?_ ?_ rfl rfl rfl<;>repeat' (first|exact trivial|exact WkD.same _|exact WkO.same _ _ rfl|refine WkD.int ?_|refine⟨?_,?_⟩|(refine wrapA ?_ ?_ ?_;(focus simp;done);(focus (try dsimp only);omega);(focus (try dsimp only);omega))|fail))⟩
 ·have hi':i=a.rel.length:=by have:=ge_dec (m:=(a.rel.map rowPV).length) h (by simpa using hi);simpa using this
  subst hi'
  rw[List.take_length] at hb
  rw[hb];exact .refl _
theorem ac_Check (a:Act) (ag n:Int) (hf:Fit a) (hl:a.rel.length≤1000) (hp:∀ l,l∈a.post→l.length≤1000):PureFn Tryz.prog 16 [a.pv,.int .i64 ag,.int .i64 n] (.int .i64 (actI a ag n)):=by
 refine PureFn.introC [3,6] mixed (fn:=Tryz.f16) rfl rfl rfl fun M w0 => ?_
 have hS:=ac_shape a ag hf hl
 try conv=>whnf
 refine⟨{ _x:Unit // (bif bif bif decide (ag<0) then true else decide (ag>4) then true else decide (n<0) then true else decide (n>8))=false },fun _=>[(1,.pv (.int .i64 ag)),(2,.pv (.int .i64 n)),(3,.ref 0 0)],fun _=>1,fun _=>[(0,.var (cellsA a))],?_,?_⟩
 ·(try conv=>whnf);repeat' (first|(apply And.intro<;>try conv=>whnf)|(intro h;try conv=>whnf)|apply True.intro|(apply WhenQ.mk;(try conv=>whnf);rotate_left;(try conv=>whnf);rotate_right)|with_reducible assumption|(apply not_of;with_reducible assumption)|fail)
  ·refine le_int ?_
   rw[actI,show (bif bif bif decide (ag<0) then true else decide (ag>4) then true else decide (n<0) then true else decide (n>8))=true from h];rfl
  ·exact⟨⟨(),h⟩,(by exact Wk.sm rfl rfl rfl rfl rfl)⟩
 rintro⟨_,h1⟩
 refine⟨{ _x:Unit // (shapeI a ag != 0)=false },fun _=>[(1,.pv (.int .i64 ag)),(2,.pv (.int .i64 n)),(3,.ref 0 0)],fun _=>1,fun _=>[(0,.var (cellsA a))],?_,?_⟩
 ·(try conv=>whnf);repeat' (first|(apply And.intro<;>try conv=>whnf)|(intro h;try conv=>whnf)|(refine PureFn.dy hS rfl ?_;try conv=>whnf)|fail)
  ·refine le_int ?_
   rw[actI,h1,h];rfl
  ·exact⟨⟨(),h⟩,(by exact Wk.sm rfl rfl rfl rfl rfl)⟩
 rintro⟨_,h2⟩
 obtain⟨_,n8,npost,_,_,_⟩:=shapeI_ok (a:=a) (ag:=ag) (by simpa using h2)
 have hact:actI a ag n=evs' ag n a.pre a.post:=by rw[actI,h1,h2];rfl
 rw[hact]
 try conv=>whnf
 refine⟨{ i:Nat // i≤a.pre.length∧evs' ag n a.pre a.post=evs' ag n (a.pre.drop i) (a.post.drop i) },fun i=>[(1,.pv (.int .i64 ag)),(2,.pv (.int .i64 n)),(3,.ref 0 0),(33,.pv (.sl (a.pre.map fpv))),(34,.pv (i64 (a.pre.map fpv).length)),(35,.pv (i64 i.1))],fun _=>1,fun _=>[(0,.var (cellsA a))],fun i=>a.pre.length-i.1,⟨⟨0,Nat.zero_le _,rfl⟩,(by exact Wk.sm rfl rfl rfl rfl rfl)⟩,?_⟩
 rintro⟨i,hi,he⟩
 (try conv=>whnf);repeat' (first|(apply And.intro<;>try conv=>whnf)|(intro h;try conv=>whnf)|(apply infoT;rfl)|fail)
 ·have hi':i<a.pre.length:=by simpa using lt_dec h
  have hn:a.pre[i]? = some a.pre[i]:=List.getElem?_eq_getElem hi'
  have hm:a.post[i]? = some a.post[i]:=List.getElem?_eq_getElem (by omega)
  have hT:=ac_static a.pre[i] ag n
  have hC:=ac_changes a.post[i] ag n (hp _ (List.getElem_mem (by omega)))
  rw[evs_drop hi' (by omega)] at he
  refine⟨_,_,rfl,idx_map hn,rfl,?_⟩
  (try conv=>whnf);repeat' (first|(apply And.intro<;>try conv=>whnf)|(intro h;try conv=>whnf)|(apply infoT;rfl)|(refine⟨_,_,rfl,idx_map (by with_reducible assumption),rfl,?_⟩;try conv=>whnf)|(refine PureFn.dy hT rfl ?_;try conv=>whnf)|(refine PureFn.dy hC rfl ?_;try conv=>whnf)|fail)
  ·refine le_int ?_
   rw[he,h];rfl
  ·rename_i h3
   refine le_int ?_
   rw[he,h3,h];rfl
  ·rename_i h3
   rw[h3,h] at he
   exact⟨⟨i+1,hi',he⟩,by show a.pre.length-(i+1)<a.pre.length-i;omega,(by refine Wk.of ?_ ?_ rfl rfl rfl<;>repeat' (first|exact trivial|exact WkD.same _|exact WkO.same _ _ rfl|refine WkD.int ?_|refine⟨?_,?_⟩|(refine wrapA ?_ ?_ ?_;(focus simp;done);(focus (try dsimp only);omega);(focus (try dsimp only);omega))|fail))⟩
 ·have hi':i=a.pre.length:=by have:=ge_dec (m:=(a.pre.map fpv).length) h (by simpa using hi);simpa using this
  subst hi'
  rw[he,List.drop_eq_nil_of_le (Nat.le_refl _)];exact .refl _
theorem ac_alone (a:Act) (hf:Fit a) (hl:a.rel.length≤1000) (hp:∀ l,l∈a.post→l.length≤1000):PureFn Tryz.prog 72 [a.pv] (.int .i64 (aloneI a)):=by
 refine PureFn.intro mixed (fn:=Tryz.f72) rfl rfl rfl fun M w0 => ?_
 have hC:=ac_Check a (((a.rel.map rowPV).length:Nat):Int) 8 hf hl hp
 have e3:((a.rel.map rowPV).length:Int)=(a.rel.length:Int):=by simp
 (try conv=>whnf);repeat' (first|(refine PureFn.dy hC rfl ?_;try conv=>whnf)|fail)
 refine le_int ?_
 rw[aloneI,← e3]
theorem andNotU_eq {a b:Nat} (ha:a<2^64):andNotU a b=((a ^^^ (a&&&b):Nat):Int):=by
 have hlt:a ^^^ (a&&&b)<2^64:=Nat.xor_lt_two_pow ha (Nat.lt_of_le_of_lt Nat.and_le_left ha)
 unfold andNotU
 show IntKind.wrap .u64 ((BitVec.ofInt 64 (a:Int) &&& ~~~BitVec.ofInt 64 (b:Int)).toNat:Int)=_
 rw[ofInt_nat,ofInt_nat]
 have h2:(BitVec.ofNat 64 a &&& ~~~BitVec.ofNat 64 b).toNat=a ^^^ (a&&&b):=by
  apply Nat.eq_of_testBit_eq
  intro i
  rw[BitVec.testBit_toNat,BitVec.getLsbD_and,BitVec.getLsbD_not,BitVec.getLsbD_ofNat,BitVec.getLsbD_ofNat,Nat.testBit_xor,Nat.testBit_and]
  by_cases hi:i<64
  ·simp only[hi,decide_true,Bool.true_and];cases a.testBit i<;>cases b.testBit i<;>rfl
  ·have:a.testBit i=false:=Nat.testBit_lt_two_pow (Nat.lt_of_lt_of_le ha (Nat.pow_le_pow_right (by decide) (by omega)))
   simp[hi,this]
 rw[h2,wrapU (by omega) (by omega)]
theorem andNotU_subM {a b:Nat} (ha:a<2^64):(andNotU a b==0)=subM a b:=by
 rw[andNotU_eq ha,subM,Bool.eq_iff_iff,beq_iff_eq,beq_iff_eq]
 constructor
 ·intro h
  have h0:a ^^^ (a&&&b)=0:=by omega
  have h4:(a ^^^ (a&&&b)) ^^^ (a&&&b)=a:=by rw[Nat.xor_assoc,Nat.xor_self,Nat.xor_zero]
  rw[h0,Nat.zero_xor] at h4;exact h4
 ·intro h
  rw[h,Nat.xor_self];rfl
def allT (Q:Int→Int→Int→Int→Bool):Tr→Bool
 |.none=>true
 |.nd op i e g a b=>Q op i e g && allT Q a && allT Q b
theorem finT_all {Q:Int→Int→Int→Int→Bool}:∀ (t:Tr) (out:List Nd),allT Q t=true→(∀ y,y∈out→Q y.op y.i y.e y.g=true)→∀ y,y∈(finT t out).2→Q y.op y.i y.e y.g=true
 |.none,out,_,ho,y,hy=>ho y hy
 |.nd op i e g a b,out,ht,ho,y,hy=>by
  rw[allT,Bool.and_eq_true,Bool.and_eq_true] at ht
  rw[finT] at hy
  obtain⟨_,_,t,h1,h2⟩:=putN_spec (finT b (finT a out).2).2 ⟨op,i,e,g,((finT a out).1:Int),((finT b (finT a out).2).1:Int)⟩
  rw[h1] at hy
  rcases List.mem_append.1 hy with h|h
  ·exact finT_all b _ ht.2 (finT_all a out ht.1.2 ho) y h
  ·rw[h2 y h];exact ht.1.1
theorem trn_all {Q:Int→Int→Int→Int→Bool} {f:List Nd} (hf:∀ y,y∈f→Q y.op y.i y.e y.g=true):∀ (n i:Nat),allT Q (trn f n i)=true
 |0,_=>rfl
 |n+1,i=>by
  rw[trn]
  cases h:f[i]? with
  |none=>rfl
  |some x =>
   have h1:=hf x (List.mem_iff_getElem?.2 ⟨i,h⟩)
   simp only[allT,h1,Bool.true_and]
   cases usesX x.op<;>cases usesY x.op<;>simp[allT,trn_all hf n]
theorem orN_le {m:Nd→Nat}:∀ {c:List Nd} {y:Nd},y∈c→m y≤orN m c
 |x::r,y,h=>by
  rw[orN_cons]
  rcases List.mem_cons.1 h with rfl|h
  ·exact Nat.left_le_or
  ·exact Nat.le_trans (orN_le h) Nat.right_le_or
theorem frag_low {m:Nat} (hm:m<2^62):nand64' (m:Int) 15=0↔m<16:=by
 have h1:nand64' (m:Int) ((15:Nat):Int)==0↔m<16:=by
  rw[nand_zero hm,subM,beq_iff_eq,show 15=2^4-1 from rfl,Nat.and_two_pow_sub_one_eq_mod]
  omega
 rw[show ((15:Nat):Int)=15 from rfl,beq_iff_eq] at h1
 exact h1
theorem below_lt {m k n:Nat} (hm:m<2^k) (hk:k≤31):belowB m n=true↔m<2^n:=by
 rw[below_iff hm hk]
 constructor
 ·intro h
  apply Nat.lt_pow_two_of_testBit
  intro j hj
  cases hb:m.testBit j with
  |false=>rfl
  |true =>
   exfalso
   have hjk:j<k:=by
    rcases Nat.lt_or_ge j k with q|q
    ·exact q
    ·rw[Nat.testBit_lt_two_pow (Nat.lt_of_lt_of_le hm (Nat.pow_le_pow_right (by decide) q))] at hb;cases hb
   rw[testBit_mod,decide_eq_true_eq] at hb
   have:=h j hjk hb
   omega
 ·intro h j hj hb
  rcases Nat.lt_or_ge j n with q|q
  ·omega
  ·have h2:m.testBit j=false:=Nat.testBit_lt_two_pow (Nat.lt_of_lt_of_le h (Nat.pow_le_pow_right (by decide) q))
   rw[testBit_mod,decide_eq_false_iff_not] at h2
   exact absurd hb h2
theorem canon_can' {f:List Nd} (hf:Okl f) {i:Nat} (hi:i<f.length) (hl:(canon f i).length≤200):Can (canon f i):=by
 obtain⟨h1,h2⟩:=canon_ok hf hi
 refine⟨h1,h2,hl,?_⟩
 have hr:=(canon_root hf hi).2
 unfold root
 rw[hr,← canon_tree hf hi]
theorem short_inv {F:List Nd} {x:Nd} (hF:Okl (F++[x])) (hl:F.length≤400) (h:shortL (F++[x])≠[]):Can (shortL (F++[x]))∧root (shortL (F++[x]))=tree (F++[x]) F.length:=by
 have hk:F.length<(F++[x]).length:=by simp
 rw[short_snoc hl] at h ⊢
 cases hd:decide (((canon (F++[x]) F.length).length:Int)>200) with
 |true=>rw[hd] at h;exact absurd rfl h
 |false =>
  simp only[cond_false]
  have:(canon (F++[x]) F.length).length≤200:=by have:=of_decide_eq_false hd;omega
  exact⟨canon_can' hF hk this,(canon_root hF hk).2⟩
theorem one_inv {x:Nd} (h:oneL x≠[]):OkNd x 0∧Can (oneL x)∧root (oneL x)=.nd x.op x.i x.e x.g .none .none:=by
 have hok:OkNd x 0:=by
  refine nodeErr_ok.1 ?_
  by_cases q:nodeErr x 0=0
  ·exact q
  ·rw[oneL,show (nodeErr x 0 != 0)=true by simpa using q] at h
   exact absurd rfl h
 have e:oneL x=[x]:=by rw[oneL,nodeErr_ok.2 hok];rfl
 have hx:usesX x.op=false:=by
  cases hu:usesX x.op with
  |false=>rfl
  |true=>have:=hok.x hu;omega
 have hy:usesY x.op=false:=by
  cases hu:usesY x.op with
  |false=>rfl
  |true=>have:=hok.y hu;omega
 have hO:Okl [x]:=fun i y hy=>by
  cases i with
  |zero=>simp at hy;subst hy;exact hok
  |succ i=>simp at hy
 have hr:root [x]=.nd x.op x.i x.e x.g .none .none:=by
  show tree [x] 0=_
  rw[tree_nd hO (x:=x) rfl,hx,hy];rfl
 rw[e]
 refine⟨hok,⟨hO,by simp,by simp,?_⟩,hr⟩
 rw[hr]
 have e1:=hok.nox hx
 have e2:=hok.noy hy
 simp only[finT,putN,idx,List.nil_append,List.length_nil]
 cases x
 simp only at e1 e2
 subst e1;subst e2
 rfl
theorem un_inv {x:Nd} {f:List Nd} (hx:usesX x.op=true) (hy:usesY x.op=false) (h:unL x f≠[]) :
  check f=0∧OkNd { x with x:=(f.length:Int)-1 } f.length∧Can (unL x f)∧root (unL x f)=.nd x.op x.i x.e x.g (root f) .none:=by
 rw[unL] at h ⊢
 cases hc:(check f != 0) with
 |true=>rw[hc] at h;exact absurd rfl h
 |false =>
  rw[hc,cond_false] at h
  have hc0:check f=0:=by simpa using hc
  obtain⟨l1,l2,_⟩:=check_ok hc0
  cases hn:(nodeErr { x with x:=(f.length:Int)-1 } f.length != 0) with
  |true=>rw[hn] at h;exact absurd rfl h
  |false =>
   rw[hn,cond_false] at h
   have hok:OkNd { x with x:=(f.length:Int)-1 } f.length:=nodeErr_ok.1 (by simpa using hn)
   have hF:=okl_snoc (check_okl hc0) hok
   obtain⟨g1,g2⟩:=short_inv hF (by omega) h
   refine⟨hc0,hok,g1,?_⟩
   simp only[cond_false]
   rw[g2,tree_nd hF (x:={ x with x:=(f.length:Int)-1 }) (by simp)]
   simp only[hx,hy,cond_true,cond_false]
   rw[show ((f.length:Int)-1).toNat=f.length-1 by omega,tree_append (check_okl hc0) (by omega)];rfl
theorem bin_inv {x:Nd} {f g:List Nd} (hx:usesX x.op=true) (hy:usesY x.op=true) (h:binL x f g≠[]) :
  check f=0∧check g=0∧OkNd (binN x f g) (f++g.map (shN f.length)).length∧Can (binL x f g)∧root (binL x f g)=.nd x.op x.i x.e x.g (root f) (root g):=by
 rw[binL] at h ⊢
 cases hc:(check f != 0) with
 |true=>rw[hc] at h;exact absurd rfl h
 |false =>
  cases hd:(check g != 0) with
  |true=>rw[hc,hd] at h;exact absurd rfl h
  |false =>
   rw[hc,hd] at h
   simp only[cond_false] at h ⊢
   have hc0:check f=0:=by simpa using hc
   have hd0:check g=0:=by simpa using hd
   obtain⟨l1,l2,_⟩:=check_ok hc0
   obtain⟨m1,m2,_⟩:=check_ok hd0
   cases hn:(nodeErr (binN x f g) (f++g.map (shN f.length)).length != 0) with
   |true=>rw[hn] at h;exact absurd rfl h
   |false =>
    rw[hn] at h
    simp only[cond_false] at h ⊢
    have hok:OkNd (binN x f g) (f++g.map (shN f.length)).length:=nodeErr_ok.1 (by simpa using hn)
    have hA:=okl_append (check_okl hc0) (check_okl hd0)
    have hF:=okl_snoc hA hok
    have hAl:(f++g.map (shN f.length)).length=f.length+g.length:=by rw[List.length_append,List.length_map]
    obtain⟨g1,g2⟩:=short_inv hF (by omega) h
    refine⟨hc0,hd0,hok,g1,?_⟩
    obtain⟨u1,u2⟩:=bin_last (check_okl hc0) (check_okl hd0) l1 m1
    rw[g2,tree_nd hF (x:=binN x f g) (by simp)]
    simp only[show (binN x f g).op=x.op from rfl,hx,hy,cond_true]
    have n1:(binN x f g).x.toNat=f.length-1:=by show ((f.length:Int)-1).toNat=_;omega
    have n2:(binN x f g).y.toNat=(f++g.map (shN f.length)).length-1:=by show (((f++g.map (shN f.length)).length:Int)-1).toNat=_;omega
    rw[n1,n2,tree_append hA (by omega),tree_append hA (by omega),u1,u2];rfl
def apN (x:Nd) (X Y:List Nd):List Nd:=wantL x.op x.i x.e x.g X Y
theorem ap_eq {x:Nd} {k:Int} (h:OkNd x k) (X Y:List Nd):apN x X Y=bif usesY x.op then binL x X Y else bif usesX x.op then unL x X else oneL x:=by
 unfold apN wantL
 rw[want_nd h]
 cases hy:usesY x.op with
 |true=>rfl
 |false =>
  cases hx:usesX x.op with
  |true =>
   have e2:=h.noy hy
   simp only[cond_true,cond_false]
   unfold unL
   simp only
   cases x
   simp only at e2
   subst e2
   rfl
  |false =>
   have e1:=h.nox hx
   have e2:=h.noy hy
   simp only[cond_false]
   congr 1
   cases x
   simp only at e1 e2
   subst e1;subst e2
   rfl
theorem ap_inv {x:Nd} {k:Int} (hk:OkNd x k) {X Y:List Nd} (h:apN x X Y≠[]) :
  Can (apN x X Y)∧root (apN x X Y)=.nd x.op x.i x.e x.g (bif usesX x.op then root X else .none) (bif usesY x.op then root Y else .none)∧(usesX x.op=true→check X=0)∧(usesY x.op=true→check Y=0):=by
 rw[ap_eq hk] at h ⊢
 cases hy:usesY x.op with
 |true =>
  have hx:=y_of_x hy
  rw[hy,cond_true] at h
  obtain⟨h1,h2,h3,h4,h5⟩:=bin_inv hx hy h
  rw[hx]
  exact⟨h4,h5,fun _=>h1,fun _=>h2⟩
 |false =>
  cases hx:usesX x.op with
  |true =>
   rw[hy,hx,cond_false,cond_true] at h
   obtain⟨h1,h3,h4,h5⟩:=un_inv hx hy h
   exact⟨h4,h5,fun _=>h1,fun u=>by cases u⟩
  |false =>
   rw[hy,hx,cond_false,cond_false] at h
   obtain⟨h3,h4,h5⟩:=one_inv h
   exact⟨h4,h5,fun u=>(by cases u),fun u=>by cases u⟩
def impL (p q:List Nd):List Nd:=buildL (n0 7) [p,q]
def conL (p q:List Nd):List Nd:=buildL (n0 5) [p,q]
theorem nil_check {f:List Nd} (h:check f=0):f≠[]:=by rintro rfl;exact absurd h (by decide)
theorem fn_True:PureFn Tryz.prog 36 [] (npv (buildL (n0 1) [])):=by
 have hb:=fm_buildN (n0 1) [] (by simp)
 generalize buildL (n0 1) []=z at hb ⊢
 refine PureFn.intro mixed (fn:=Tryz.f36) rfl rfl rfl fun M w0 => ?_
 cases z with
 |nil =>
  (try conv=>whnf);repeat' (first|(refine PureFn.dcq (f:=89) rfl ?_;try conv=>whnf)|(refine⟨_,_,hb,?_,?_⟩;(focus first|(refine⟨?_,?_,trivial⟩<;>first|exact PLe.refl _|exact PLe.nil)|exact trivial);try conv=>whnf)|fail)
  exact .refl _
 |cons a r =>
  (try conv=>whnf);repeat' (first|(refine PureFn.dcq (f:=89) rfl ?_;try conv=>whnf)|(refine⟨_,_,hb,?_,?_⟩;(focus first|(refine⟨?_,?_,trivial⟩<;>first|exact PLe.refl _|exact PLe.nil)|exact trivial);try conv=>whnf)|fail)
  exact .refl _
theorem fn_False:PureFn Tryz.prog 53 [] (npv (buildL (n0 2) [])):=by
 have hb:=fm_buildN (n0 2) [] (by simp)
 generalize buildL (n0 2) []=z at hb ⊢
 refine PureFn.intro mixed (fn:=Tryz.f53) rfl rfl rfl fun M w0 => ?_
 cases z with
 |nil =>
  (try conv=>whnf);repeat' (first|(refine PureFn.dcq (f:=89) rfl ?_;try conv=>whnf)|(refine⟨_,_,hb,?_,?_⟩;(focus first|(refine⟨?_,?_,trivial⟩<;>first|exact PLe.refl _|exact PLe.nil)|exact trivial);try conv=>whnf)|fail)
  exact .refl _
 |cons a r =>
  (try conv=>whnf);repeat' (first|(refine PureFn.dcq (f:=89) rfl ?_;try conv=>whnf)|(refine⟨_,_,hb,?_,?_⟩;(focus first|(refine⟨?_,?_,trivial⟩<;>first|exact PLe.refl _|exact PLe.nil)|exact trivial);try conv=>whnf)|fail)
  exact .refl _
theorem fn_Fact (i:Int):PureFn Tryz.prog 83 [.int .i64 i] (npv (buildL (nI 3 i) [])):=by
 have hb:=fm_buildN (nI 3 i) [] (by simp)
 generalize buildL (nI 3 i) []=z at hb ⊢
 refine PureFn.intro mixed (fn:=Tryz.f83) rfl rfl rfl fun M w0 => ?_
 cases z with
 |nil =>
  (try conv=>whnf);repeat' (first|(refine PureFn.dcq (f:=89) rfl ?_;try conv=>whnf)|(refine⟨_,_,hb,?_,?_⟩;(focus first|(refine⟨?_,?_,trivial⟩<;>first|exact PLe.refl _|exact PLe.nil)|exact trivial);try conv=>whnf)|fail)
  exact .refl _
 |cons a r =>
  (try conv=>whnf);repeat' (first|(refine PureFn.dcq (f:=89) rfl ?_;try conv=>whnf)|(refine⟨_,_,hb,?_,?_⟩;(focus first|(refine⟨?_,?_,trivial⟩<;>first|exact PLe.refl _|exact PLe.nil)|exact trivial);try conv=>whnf)|fail)
  exact .refl _
theorem fn_Not (f:List Nd):PureFn Tryz.prog 37 [fpv f] (npv (buildL (n0 4) [f])):=by
 have hb:=fm_buildN (n0 4) [f] (by simp)
 generalize buildL (n0 4) [f]=z at hb ⊢
 refine PureFn.intro mixed (fn:=Tryz.f37) rfl rfl rfl fun M w0 => ?_
 cases z with
 |nil =>
  (try conv=>whnf);repeat' (first|(apply And.intro<;>try conv=>whnf)|(apply cellsI;rfl)|(refine PureFn.dy hb rfl ?_;try conv=>whnf)|fail)
  exact .refl _
 |cons a r =>
  (try conv=>whnf);repeat' (first|(apply And.intro<;>try conv=>whnf)|(apply cellsI;rfl)|(refine PureFn.dy hb rfl ?_;try conv=>whnf)|fail)
  exact .refl _
theorem fn_And (f g:List Nd):PureFn Tryz.prog 32 [fpv f,fpv g] (npv (buildL (n0 5) [f,g])):=by
 have hb:=fm_buildN (n0 5) [f,g] (by simp)
 generalize buildL (n0 5) [f,g]=z at hb ⊢
 refine PureFn.intro mixed (fn:=Tryz.f32) rfl rfl rfl fun M w0 => ?_
 cases z with
 |nil =>
  (try conv=>whnf);repeat' (first|(apply And.intro<;>try conv=>whnf)|(apply cellsI;rfl)|(refine PureFn.dy hb rfl ?_;try conv=>whnf)|fail)
  exact .refl _
 |cons a r =>
  (try conv=>whnf);repeat' (first|(apply And.intro<;>try conv=>whnf)|(apply cellsI;rfl)|(refine PureFn.dy hb rfl ?_;try conv=>whnf)|fail)
  exact .refl _
theorem fn_Or (f g:List Nd):PureFn Tryz.prog 186 [fpv f,fpv g] (npv (buildL (n0 6) [f,g])):=by
 have hb:=fm_buildN (n0 6) [f,g] (by simp)
 generalize buildL (n0 6) [f,g]=z at hb ⊢
 refine PureFn.intro mixed (fn:=Tryz.f186) rfl rfl rfl fun M w0 => ?_
 cases z with
 |nil =>
  (try conv=>whnf);repeat' (first|(apply And.intro<;>try conv=>whnf)|(apply cellsI;rfl)|(refine PureFn.dy hb rfl ?_;try conv=>whnf)|fail)
  exact .refl _
 |cons a r =>
  (try conv=>whnf);repeat' (first|(apply And.intro<;>try conv=>whnf)|(apply cellsI;rfl)|(refine PureFn.dy hb rfl ?_;try conv=>whnf)|fail)
  exact .refl _
theorem fn_Imp (f g:List Nd):PureFn Tryz.prog 34 [fpv f,fpv g] (npv (buildL (n0 7) [f,g])):=by
 have hb:=fm_buildN (n0 7) [f,g] (by simp)
 generalize buildL (n0 7) [f,g]=z at hb ⊢
 refine PureFn.intro mixed (fn:=Tryz.f34) rfl rfl rfl fun M w0 => ?_
 cases z with
 |nil =>
  (try conv=>whnf);repeat' (first|(apply And.intro<;>try conv=>whnf)|(apply cellsI;rfl)|(refine PureFn.dy hb rfl ?_;try conv=>whnf)|fail)
  exact .refl _
 |cons a r =>
  (try conv=>whnf);repeat' (first|(apply And.intro<;>try conv=>whnf)|(apply cellsI;rfl)|(refine PureFn.dy hb rfl ?_;try conv=>whnf)|fail)
  exact .refl _
theorem fn_Iff (f g:List Nd):PureFn Tryz.prog 187 [fpv f,fpv g] (npv (buildL (n0 8) [f,g])):=by
 have hb:=fm_buildN (n0 8) [f,g] (by simp)
 generalize buildL (n0 8) [f,g]=z at hb ⊢
 refine PureFn.intro mixed (fn:=Tryz.f187) rfl rfl rfl fun M w0 => ?_
 cases z with
 |nil =>
  (try conv=>whnf);repeat' (first|(apply And.intro<;>try conv=>whnf)|(apply cellsI;rfl)|(refine PureFn.dy hb rfl ?_;try conv=>whnf)|fail)
  exact .refl _
 |cons a r =>
  (try conv=>whnf);repeat' (first|(apply And.intro<;>try conv=>whnf)|(apply cellsI;rfl)|(refine PureFn.dy hb rfl ?_;try conv=>whnf)|fail)
  exact .refl _
theorem fn_Know (i:Int) (f:List Nd):PureFn Tryz.prog 188 [.int .i64 i,fpv f] (npv (buildL (nI 9 i) [f])):=by
 have hb:=fm_buildN (nI 9 i) [f] (by simp)
 generalize buildL (nI 9 i) [f]=z at hb ⊢
 refine PureFn.intro mixed (fn:=Tryz.f188) rfl rfl rfl fun M w0 => ?_
 cases z with
 |nil =>
  (try conv=>whnf);repeat' (first|(apply And.intro<;>try conv=>whnf)|(apply cellsI;rfl)|(refine PureFn.dy hb rfl ?_;try conv=>whnf)|fail)
  exact .refl _
 |cons a r =>
  (try conv=>whnf);repeat' (first|(apply And.intro<;>try conv=>whnf)|(apply cellsI;rfl)|(refine PureFn.dy hb rfl ?_;try conv=>whnf)|fail)
  exact .refl _
theorem fn_Poss (i:Int) (f:List Nd):PureFn Tryz.prog 153 [.int .i64 i,fpv f] (npv (buildL (nI 10 i) [f])):=by
 have hb:=fm_buildN (nI 10 i) [f] (by simp)
 generalize buildL (nI 10 i) [f]=z at hb ⊢
 refine PureFn.intro mixed (fn:=Tryz.f153) rfl rfl rfl fun M w0 => ?_
 cases z with
 |nil =>
  (try conv=>whnf);repeat' (first|(apply And.intro<;>try conv=>whnf)|(apply cellsI;rfl)|(refine PureFn.dy hb rfl ?_;try conv=>whnf)|fail)
  exact .refl _
 |cons a r =>
  (try conv=>whnf);repeat' (first|(apply And.intro<;>try conv=>whnf)|(apply cellsI;rfl)|(refine PureFn.dy hb rfl ?_;try conv=>whnf)|fail)
  exact .refl _
theorem fn_Every (i:Int) (f:List Nd):PureFn Tryz.prog 189 [.int .i64 i,fpv f] (npv (buildL (nG 11 i) [f])):=by
 have hb:=fm_buildN (nG 11 i) [f] (by simp)
 generalize buildL (nG 11 i) [f]=z at hb ⊢
 refine PureFn.intro mixed (fn:=Tryz.f189) rfl rfl rfl fun M w0 => ?_
 cases z with
 |nil =>
  (try conv=>whnf);repeat' (first|(apply And.intro<;>try conv=>whnf)|(apply cellsI;rfl)|(refine PureFn.dy hb rfl ?_;try conv=>whnf)|fail)
  exact .refl _
 |cons a r =>
  (try conv=>whnf);repeat' (first|(apply And.intro<;>try conv=>whnf)|(apply cellsI;rfl)|(refine PureFn.dy hb rfl ?_;try conv=>whnf)|fail)
  exact .refl _
theorem fn_Dist (i:Int) (f:List Nd):PureFn Tryz.prog 190 [.int .i64 i,fpv f] (npv (buildL (nG 12 i) [f])):=by
 have hb:=fm_buildN (nG 12 i) [f] (by simp)
 generalize buildL (nG 12 i) [f]=z at hb ⊢
 refine PureFn.intro mixed (fn:=Tryz.f190) rfl rfl rfl fun M w0 => ?_
 cases z with
 |nil =>
  (try conv=>whnf);repeat' (first|(apply And.intro<;>try conv=>whnf)|(apply cellsI;rfl)|(refine PureFn.dy hb rfl ?_;try conv=>whnf)|fail)
  exact .refl _
 |cons a r =>
  (try conv=>whnf);repeat' (first|(apply And.intro<;>try conv=>whnf)|(apply cellsI;rfl)|(refine PureFn.dy hb rfl ?_;try conv=>whnf)|fail)
  exact .refl _
theorem fn_Common (i:Int) (f g:List Nd):PureFn Tryz.prog 154 [.int .i64 i,fpv f,fpv g] (npv (buildL (nG 13 i) [f,g])):=by
 have hb:=fm_buildN (nG 13 i) [f,g] (by simp)
 generalize buildL (nG 13 i) [f,g]=z at hb ⊢
 refine PureFn.intro mixed (fn:=Tryz.f154) rfl rfl rfl fun M w0 => ?_
 cases z with
 |nil =>
  (try conv=>whnf);repeat' (first|(apply And.intro<;>try conv=>whnf)|(apply cellsI;rfl)|(refine PureFn.dy hb rfl ?_;try conv=>whnf)|fail)
  exact .refl _
 |cons a r =>
  (try conv=>whnf);repeat' (first|(apply And.intro<;>try conv=>whnf)|(apply cellsI;rfl)|(refine PureFn.dy hb rfl ?_;try conv=>whnf)|fail)
  exact .refl _
theorem ac_and (x y:Nat) (hx:x<2^64) (hy:y<2^64):PureFn Tryz.prog 235 [u64 x,u64 y] (u64 (x&&&y)):=by
 refine PureFn.intro mixed (fn:=Tryz.f235) rfl rfl rfl fun M w0 => ?_
 try conv=>whnf
 exact le_int (andU_nat hx hy)
def joinA (op:Nat→Nat→Nat) (rel:List (List Nat)) (g:Int) (first e:Nat):Nat→Nat
 |0=>first
 |i+1=>bif and64 (shr64 g i) 1==1 then op (joinA op rel g first e i) ((rel.getD i []).getD e 0) else joinA op rel g first e i
def badGr (a:Act) (g:Int):Bool:=bif bif aloneI a != 0 then true else decide (g<1) then true else decide (g≥shl64 1 (a.rel.length:Int))
def togL (op:Nat→Nat→Nat) (a:Act) (g:Int) (first:Nat):List Nat:=bif badGr a g then [] else (List.range a.pre.length).map fun e=>joinA op a.rel g first e a.rel.length
def growL (n:Nat) (p:Nat→Nat) (e:Nat):List PV:=(List.range n).map fun j=>u64 (bif decide (j<e) then p j else 0)
theorem growL_len (n:Nat) (p:Nat→Nat) (e:Nat):(growL n p e).length=n:=by simp[growL]
theorem growL_zero (n:Nat) (p:Nat→Nat):List.replicate n (PV.int .u64 0)=growL n p 0:=by
 apply List.ext_getElem (by simp[growL])
 intro i h1 h2
 simp[growL];rfl
theorem growL_full (n:Nat) (p:Nat→Nat):PV.sl (growL n p n)=rowPV ((List.range n).map p):=by
 rw[rowPV,List.map_map,growL]
 congr 1
 apply List.map_congr_left
 intro j hj
 rw[decide_eq_true (List.mem_range.1 hj)];rfl
theorem growL_get {n:Nat} {p:Nat→Nat} {e:Nat} (h:e<n):(growL n p e)[e]? = some (u64 0):=by
 simp[growL,List.getElem?_map,List.getElem?_range h]
theorem growL_set {n:Nat} {p:Nat→Nat} {e:Nat}:(growL n p e).set e (u64 (p e))=growL n p (e+1):=by
 apply List.ext_getElem?
 intro i
 rw[List.getElem?_set]
 by_cases hi:i<n
 ·simp only[growL,List.getElem?_map,List.getElem?_range hi,List.length_map,List.length_range,Option.map_some]
  by_cases he:e=i
  ·subst he;simp[hi]
  ·have:decide (i<e+1)=decide (i<e):=by
    by_cases q:i<e
    ·simp[q,Nat.lt_succ_of_lt q]
    ·have:¬ i<e+1:=by omega
     simp[q,this]
   simp[he,this]
 ·have h1:(growL n p e)[i]? = none:=List.getElem?_eq_none (by rw[growL_len];omega)
  have h2:(growL n p (e+1))[i]? = none:=List.getElem?_eq_none (by rw[growL_len];omega)
  rw[h1,h2]
  split
  ·split
   ·rename_i h3 h4;rw[growL_len] at h4;omega
   ·rfl
  ·rfl
theorem set_get {l:List PV} {e:Nat} {v:PV} (h:e<l.length):(l.set e v)[e]? = some v:=by simp[h]
theorem joinA_lt {op:Nat→Nat→Nat} (hop:∀ x y,x<2^64→y<2^64→op x y<2^64) {rel:List (List Nat)} (hr:∀ r,r∈rel→∀ s,s∈r→s<2^64) {g:Int} {first e:Nat} (hf:first<2^64):∀ i,joinA op rel g first e i<2^64
 |0=>hf
 |i+1=>by
  have ih:=joinA_lt hop hr (g:=g) (e:=e) hf i
  rw[joinA]
  cases and64 (shr64 g i) 1==1 with
  |false=>exact ih
  |true =>
   refine hop _ _ ih ?_
   rw[List.getD_eq_getElem?_getD,List.getD_eq_getElem?_getD]
   cases h1:rel[i]? with
   |none=>simp
   |some r =>
    simp only[Option.getD_some]
    cases h2:r[e]? with
    |none=>simp
    |some s=>exact hr r (List.mem_iff_getElem?.2 ⟨i,h1⟩) s (List.mem_iff_getElem?.2 ⟨e,h2⟩)
theorem ac_togAnd (a:Act) (g:Int) (first:Nat) (hf:Fit a) (hl:a.rel.length≤1000) (hp:∀ l,l∈a.post→l.length≤1000) (hfi:first<2^64) (M:Nat→Prop) (w0:W0) :
  DC Tryz.prog M w0 234 [.agg (cellsA a),.pv (.int .i64 g),.pv (u64 first),.clo 235 [] []] noHeap fun d L'=>frz d L' fun q _=>PLe q (rowPV (togL (fun x y=>x&&&y) a g first)):=by
 refine DC.introC [3] mixed (fn:=Tryz.f234) rfl rfl rfl ?_
 have hA:=ac_alone a hf hl hp
 have e3:((a.rel.map rowPV).length:Int)=(a.rel.length:Int):=by simp
 have e1:((a.pre.map fpv).length:Int)=(a.pre.length:Int):=by simp
 try conv=>whnf
 refine⟨{ _x:Unit // badGr a g=false },fun _=>[(1,.pv (.int .i64 g)),(2,.pv (u64 first)),(3,.clo 235 [] []),(4,.ref 0 0)],fun _=>1,fun _=>[(0,.var (cellsA a))],?_,?_⟩
 ·(try conv=>whnf);repeat' (first|(apply And.intro<;>try conv=>whnf)|(intro h;try conv=>whnf)|apply True.intro|(apply WhenQ.mk;(try conv=>whnf);rotate_left;(try conv=>whnf);rotate_right)|with_reducible assumption|(apply not_of;with_reducible assumption)|(refine PureFn.dy hA rfl ?_;try conv=>whnf)|fail)
  ·exact Int.natCast_nonneg _
  ·have hb:badGr a g=true:=by rw[badGr,← e3];exact h
   rw[togL,hb];exact .nil
  ·have hb:badGr a g=false:=by rw[badGr,← e3];exact h
   exact⟨⟨(),hb⟩,(by exact Wk.sm rfl rfl rfl rfl rfl)⟩
 rintro⟨_,hb⟩
 have h0:aloneI a=0:=by
  by_cases h:aloneI a=0
  ·exact h
  ·have:(aloneI a != 0)=true:=by simpa using h
   rw[badGr,this] at hb;cases hb
 have hO:=actI_ok h0
 have hn8:=hO.n8
 have hag:=hO.agn
 have hR:rowPV (togL (fun x y=>x&&&y) a g first)=.sl (growL a.pre.length (fun e=>joinA (fun x y=>x&&&y) a.rel g first e a.rel.length) a.pre.length):=by
  rw[togL,hb];exact (growL_full _ _).symm
 have hge:g=(g.toNat:Int):=by
  by_cases q:g<1
  ·rw[badGr,decide_eq_true q] at hb
   cases hh:(aloneI a != 0)<;>rw[hh] at hb<;>cases hb
  ·omega
 rw[hR]
 generalize hp':(fun e=>joinA (fun x y=>x&&&y) a.rel g first e a.rel.length)=p
 have hz:List.replicate (((a.pre.map fpv).length:Nat):Int).toNat (PV.int .u64 0)=growL a.pre.length p 0:=by rw[← growL_zero,List.length_map];rfl
 (try conv=>whnf);repeat' (first|(apply And.intro<;>try conv=>whnf)|(apply Or.inl;try conv=>whnf)|fail)
 ·rfl
 ·exact Int.natCast_nonneg _
 ·show ((a.pre.map fpv).length:Int)≤(big:Int)
  rw[e1];simp only[big];omega
 refine⟨{ e:Nat // e≤a.pre.length },fun e=>[(1,.pv (.int .i64 g)),(2,.pv (u64 first)),(3,.clo 235 [] []),(4,.ref 0 0),(9,.buf 1 (growL a.pre.length p e.1).length),(33,.pv (i64 (growL a.pre.length p e.1).length)),(34,.pv (i64 e.1))],fun _=>2,fun e=>[(0,.var (cellsA a)),(1,.arr 1 (growL a.pre.length p e.1))],fun e=>a.pre.length-e.1,⟨⟨0,Nat.zero_le _⟩,?_⟩,?_⟩
 ·(refine Wk.of ?_ ?_ rfl rfl rfl<;>repeat' (first|exact trivial|exact WkD.same _|exact WkO.same _ _ rfl|refine WkD.int ?_|refine⟨?_,?_⟩|fail))
  ·exact WkD.eq (congrArg (fun z:List PV=>DV.buf 1 z.length) hz)
  ·exact congrArg (fun z:List PV=>(z.length:Int)) hz
  ·exact WkO.same _ _ (congrArg (fun z=>some (DObj.arr 1 z)) hz)
 rintro⟨e,he⟩
 have hgl:=growL_len a.pre.length p e
 (try conv=>whnf);repeat' (first|(apply And.intro<;>try conv=>whnf)|(intro h;try conv=>whnf)|(apply bleI;rfl)|fail)
 ·have hi':e<a.pre.length:=by have:=lt_dec h;rwa [hgl] at this
  refine⟨e,rfl,by rw[hgl];exact hi',?_⟩
  (try conv=>whnf);repeat' (first|(apply And.intro<;>try conv=>whnf)|fail)
  refine⟨u64 0,growL_get hi',Nat.le_refl 1,?_⟩
  try conv=>whnf
  refine⟨{ i:Nat // i≤a.rel.length },fun i=>[(1,.pv (.int .i64 g)),(2,.pv (u64 first)),(3,.clo 235 [] []),(4,.ref 0 0),(9,.buf 1 (growL a.pre.length p e).length),(10,.pv (i64 e)),(33,.pv (i64 (growL a.pre.length p e).length)),(34,.pv (i64 e)),(42,.pv (.sl (a.rel.map rowPV))),(43,.pv (i64 (a.rel.map rowPV).length)),(44,.pv (i64 i.1))],fun _=>2,fun i=>[(0,.var (cellsA a)),(1,.arr 1 ((growL a.pre.length p e).set e (u64 (joinA (fun x y=>x&&&y) a.rel g first e i.1))))],fun i=>a.rel.length-i.1,⟨⟨0,Nat.zero_le _⟩,?_⟩,?_⟩
  ·(refine Wk.of ?_ ?_ rfl rfl rfl<;>repeat' (first|exact trivial|exact WkD.same _|exact WkO.same _ _ rfl|refine⟨?_,?_⟩|fail))
  rintro⟨i,hi⟩
  have hgp:(growL a.pre.length p e).set e (u64 (p e))=growL a.pre.length p (e+1):=growL_set
  have hsl:((growL a.pre.length p e).set e (u64 (joinA (fun x y=>x&&&y) a.rel g first e i))).length=a.pre.length:=by rw[List.length_set,hgl]
  (try conv=>whnf);repeat' (first|(apply And.intro<;>try conv=>whnf)|(intro h;try conv=>whnf)|(apply infoT;rfl)|fail)
  ·have hi2:i<a.rel.length:=by simpa using lt_dec h
   have hn:a.rel[i]? = some a.rel[i]:=List.getElem?_eq_getElem hi2
   have hrl:=hO.rows _ (List.getElem_mem hi2)
   have hm:a.rel[i][e]? = some (a.rel[i][e]'(by omega)):=List.getElem?_eq_getElem (by omega)
   have hmf:=hf _ (List.getElem_mem hi2) _ (List.getElem_mem (show e<a.rel[i].length by omega))
   have hgd:(a.rel.getD i []).getD e 0=a.rel[i][e]'(by omega):=by rw[List.getD_eq_getElem?_getD,List.getD_eq_getElem?_getD,hn,Option.getD_some,hm];rfl
   have hjl:joinA (fun x y=>x&&&y) a.rel g first e i<2^64:=joinA_lt (fun _ _ hx _=>Nat.lt_of_le_of_lt Nat.and_le_left hx) hf hfi i
   refine⟨_,_,rfl,idx_map hn,rfl,?_⟩
   (try conv=>whnf);repeat' (first|(apply And.intro<;>try conv=>whnf)|(intro h;try conv=>whnf)|fail)
   ·exact Int.natCast_nonneg _
   ·refine⟨Plan.lin 0 14,[13],by kernel_rfl,?_⟩
    have hPF:=ac_and _ _ hjl hmf
    have hgE:e<(growL a.pre.length p e).length:=by rw[hgl];exact hi'
    have h5:(and64 (shr64 g i) 1==1)=true:=h
    have hj2:joinA (fun x y=>x&&&y) a.rel g first e (i+1)=(fun x y=>x&&&y) (joinA (fun x y=>x&&&y) a.rel g first e i) (a.rel[i][e]'(by omega)):=by rw[joinA,h5,hgd];rfl
    (try conv=>whnf);repeat' (first|(apply And.intro<;>try conv=>whnf)|fail)
    ·rw[List.length_set]
    refine⟨e,rfl,by rw[hgl];exact hi',?_⟩
    (try conv=>whnf);repeat' (first|(apply And.intro<;>try conv=>whnf)|fail)
    ·rw[List.length_set]
    refine⟨_,set_get hgE,?_⟩
    (try conv=>whnf);repeat' (first|(apply And.intro<;>try conv=>whnf)|(apply infoT;rfl)|(refine⟨_,_,rfl,idx_map (by with_reducible assumption),rfl,?_⟩;try conv=>whnf)|(refine⟨_,(by (conv=>whnf);exact hPF),rfl,?_⟩;try conv=>whnf)|fail)
    ·rw[List.length_set]
    refine⟨e,rfl,by rw[hgl];exact hi',?_⟩
    (try conv=>whnf);repeat' (first|(apply And.intro<;>try conv=>whnf)|fail)
    ·rw[List.length_set]
    refine⟨_,set_get hgE,Nat.le_refl 1,?_⟩
    try conv=>whnf
    have hst:((growL a.pre.length p e).set e (u64 (joinA (fun x y=>x&&&y) a.rel g first e i))).set e (u64 ((fun x y=>x&&&y) (joinA (fun x y=>x&&&y) a.rel g first e i) (a.rel[i][e]'(by omega))))=(growL a.pre.length p e).set e (u64 (joinA (fun x y=>x&&&y) a.rel g first e (i+1))):=by rw[List.set_set,hj2]
    refine⟨⟨i+1,hi2⟩,by show a.rel.length-(i+1)<a.rel.length-i;omega,?_⟩
    (refine Wk.of ?_ ?_ rfl rfl rfl<;>repeat' (first|exact trivial|exact WkD.same _|exact WkO.same _ _ rfl|refine WkD.int ?_|refine⟨?_,?_⟩|(refine wrapA ?_ ?_ ?_;(focus simp;done);(focus (try dsimp only);omega);(focus (try dsimp only);omega))|fail))
    exact WkO.same _ _ (congrArg (fun z=>some (DObj.arr 1 z)) hst)
   ·have h5:(and64 (shr64 g i) 1==1)=false:=h
    have hj2:joinA (fun x y=>x&&&y) a.rel g first e (i+1)=joinA (fun x y=>x&&&y) a.rel g first e i:=by rw[joinA,h5];rfl
    refine⟨⟨i+1,hi2⟩,by show a.rel.length-(i+1)<a.rel.length-i;omega,?_⟩
    (refine Wk.of ?_ ?_ rfl rfl rfl<;>repeat' (first|exact trivial|exact WkD.same _|exact WkO.same _ _ rfl|refine WkD.int ?_|refine⟨?_,?_⟩|(refine wrapA ?_ ?_ ?_;(focus simp;done);(focus (try dsimp only);omega);(focus (try dsimp only);omega))|fail))
    exact WkO.same _ _ (congrArg (fun z=>some (DObj.arr 1 ((growL a.pre.length p e).set e (u64 z)))) hj2.symm)
  ·have hi2:i=a.rel.length:=ge_dec (m:=(a.rel.map rowPV).length) h (by simpa using hi) |>.trans (by simp)
   subst hi2
   have hgq:(growL a.pre.length p e).set e (u64 (joinA (fun x y=>x&&&y) a.rel g first e a.rel.length))=growL a.pre.length p (e+1):=by rw[← hgp,← hp']
   have hgl2:(growL a.pre.length p e).length=(growL a.pre.length p (e+1)).length:=by rw[growL_len,growL_len]
   refine⟨⟨e+1,hi'⟩,by show a.pre.length-(e+1)<a.pre.length-e;omega,?_⟩
   (refine Wk.of ?_ ?_ rfl rfl rfl<;>repeat' (first|exact trivial|exact WkD.same _|exact WkO.same _ _ rfl|refine WkD.int ?_|refine⟨?_,?_⟩|(refine wrapA ?_ ?_ ?_;(focus simp;done);(focus (try dsimp only);omega);(focus (try dsimp only);omega))|fail))
   ·exact WkD.eq (congrArg (DV.buf 1) hgl2)
   ·exact congrArg (fun z:Nat=>(z:Int)) hgl2
   ·exact WkO.same _ _ (congrArg (fun z=>some (DObj.arr 1 z)) hgq)
 ·have hi':e=a.pre.length:=by have:=ge_dec h (by rw[hgl];exact he);rwa [hgl] at this
  subst hi'
  exact .refl _
def allW (n:Nat):Nat:=(IntKind.wrap .u64 (shlU 1 n-1)).toNat
theorem allW_lt (n:Nat):allW n<2^64:=by
 have h1:0≤IntKind.wrap .u64 (shlU 1 n-1)∧IntKind.wrap .u64 (shlU 1 n-1)<2^64:=by
  show 0≤(shlU 1 n-1) % (2^64:Int)∧(shlU 1 n-1) % (2^64:Int)<2^64
  exact⟨Int.emod_nonneg _ (by decide),Int.emod_lt_of_pos _ (by decide)⟩
 unfold allW;omega
theorem allW_eq (n:Nat):IntKind.wrap .u64 (shlU 1 n-1)=(allW n:Int):=by
 have h1:0≤IntKind.wrap .u64 (shlU 1 n-1):=by
  show 0≤(shlU 1 n-1) % (2^64:Int)
  exact Int.emod_nonneg _ (by decide)
 unfold allW;omega
theorem tog_meet (a:Act) (g:Int) (hf:Fit a) (hl:a.rel.length≤1000) (hp:∀ l,l∈a.post→l.length≤1000) (M:Nat→Prop) (w0:W0) :
  DC Tryz.prog M w0 234 [.agg (cellsA a),.pv (.int .i64 g),.pv (.int .u64 (IntKind.wrap .u64 (shlU 1 ((a.pre.map fpv).length:Nat)-1))),.clo 235 [] []] noHeap fun d L'=>frz d L' fun q _=>PLe q (rowPV (togL (fun x y=>x&&&y) a g (allW (a.pre.map fpv).length))):=by
 rw[allW_eq];exact ac_togAnd a g _ hf hl hp (allW_lt _) M w0
theorem ac_Meet (a:Act) (g:Int) (hf:Fit a) (hl:a.rel.length≤1000) (hp:∀ l,l∈a.post→l.length≤1000):PureFn Tryz.prog 221 [a.pv,.int .i64 g] (rowPV (togL (fun x y=>x&&&y) a g (allW (a.pre.map fpv).length))):=by
 refine PureFn.intro mixed (fn:=Tryz.f221) rfl rfl rfl fun M w0 => ?_
 try conv=>whnf
 refine⟨Plan.lin 0 9,[7],by kernel_rfl,?_⟩
 (try conv=>whnf);repeat' (first|(apply And.intro<;>try conv=>whnf)|fail)
 ·exact Int.natCast_nonneg _
 refine DC.alone (p:=rowPV (togL (fun x y=>x&&&y) a g (allW (a.pre.map fpv).length))) rfl (fun M w0=>tog_meet a g hf hl hp M w0) ?_
 try conv=>whnf
 exact .refl _
def valL (fact:Int):List Asg→List Nd
 | []=>buildL (nI 3 fact) []
 |x::r=>bif x.fact==fact then comp x.to else valL fact r
theorem valL_drop {fact:Int} {l:List Asg} {i:Nat} (h:i<l.length):valL fact (l.drop i)=bif l[i].fact==fact then comp l[i].to else valL fact (l.drop (i+1)):=by
 rw[List.drop_eq_getElem_cons h];rfl
def badEv (a:Act) (ev:Int):Bool:=bif decide (ev<0) then true else decide (ev≥(a.pre.length:Int))
def valI (a:Act) (ev fact:Int):List Nd×Int :=
 bif aloneI a != 0 then ([],aloneI a) else bif badEv a ev then ([],6) else bif badF fact then ([],2) else (valL fact (a.post.getD ev.toNat []),0)
def pairF (x:List Nd×Int):PV:=.tup [fpv x.1,.int .i64 x.2]
theorem le_nilF (e:Int):PLe (.tup [.nil,.int .i64 e]) (pairF ([],e)):=PLe.tups ⟨.nil,.refl _,trivial⟩
theorem badEv_no {a:Act} {ev:Int} (h:badEv a ev=false):∃ k:Nat,ev=k∧k<a.pre.length:=by
 unfold badEv at h
 by_cases h1:ev<0
 ·rw[decide_eq_true h1] at h;cases h
 ·by_cases h2:ev≥(a.pre.length:Int)
  ·rw[decide_eq_false h1,decide_eq_true h2] at h;cases h
  ·exact⟨ev.toNat,by omega,by omega⟩
theorem ac_Value (a:Act) (ev fact:Int) (hf:Fit a) (hl:a.rel.length≤1000) (hp:∀ l,l∈a.post→l.length≤1000):PureFn Tryz.prog 61 [a.pv,.int .i64 ev,.int .i64 fact] (pairF (valI a ev fact)):=by
 refine PureFn.introC [4,6,8] mixed (fn:=Tryz.f61) rfl rfl rfl fun M w0 => ?_
 have hA:=ac_alone a hf hl hp
 have e1:((a.pre.map fpv).length:Int)=(a.pre.length:Int):=by simp
 try conv=>whnf
 refine⟨{ _x:Unit // (aloneI a != 0)=false },fun _=>[(1,.pv (.int .i64 ev)),(2,.pv (.int .i64 fact)),(3,.ref 0 0)],fun _=>1,fun _=>[(0,.var (cellsA a))],?_,?_⟩
 ·(try conv=>whnf);repeat' (first|(apply And.intro<;>try conv=>whnf)|(intro h;try conv=>whnf)|(refine PureFn.dy hA rfl ?_;try conv=>whnf)|fail)
  ·rw[valI,h];exact le_nilF _
  ·exact⟨⟨(),h⟩,(by exact Wk.sm rfl rfl rfl rfl rfl)⟩
 rintro⟨_,h0⟩
 refine⟨{ _x:Unit // badEv a ev=false },fun _=>[(1,.pv (.int .i64 ev)),(2,.pv (.int .i64 fact)),(3,.ref 0 0)],fun _=>1,fun _=>[(0,.var (cellsA a))],?_,?_⟩
 ·(try conv=>whnf);repeat' (first|(apply And.intro<;>try conv=>whnf)|(intro h;try conv=>whnf)|apply True.intro|(apply WhenQ.mk;(try conv=>whnf);rotate_left;(try conv=>whnf);rotate_right)|with_reducible assumption|(apply not_of;with_reducible assumption)|fail)
  ·have hb:badEv a ev=true:=by rw[badEv,← e1];exact h
   rw[valI,h0,hb];exact le_nilF _
  ·exact⟨⟨(),by rw[badEv,← e1];exact h⟩,(by exact Wk.sm rfl rfl rfl rfl rfl)⟩
 rintro⟨_,h1⟩
 refine⟨{ _x:Unit // badF fact=false },fun _=>[(1,.pv (.int .i64 ev)),(2,.pv (.int .i64 fact)),(3,.ref 0 0)],fun _=>1,fun _=>[(0,.var (cellsA a))],?_,?_⟩
 ·(try conv=>whnf);repeat' (first|(apply And.intro<;>try conv=>whnf)|(intro h;try conv=>whnf)|apply True.intro|(apply WhenQ.mk;(try conv=>whnf);rotate_left;(try conv=>whnf);rotate_right)|with_reducible assumption|(apply not_of;with_reducible assumption)|fail)
  ·rw[valI,h0,h1,show badF fact=true from h];exact le_nilF _
  ·exact⟨⟨(),h⟩,(by exact Wk.sm rfl rfl rfl rfl rfl)⟩
 rintro⟨_,h2⟩
 have hv:valI a ev fact=(valL fact (a.post.getD ev.toNat []),0):=by rw[valI,h0,h1,h2];rfl
 obtain⟨k,rfl,hk⟩:=badEv_no h1
 have hO:=actI_ok (show aloneI a=0 by simpa using h0)
 have hk2:k<a.post.length:=by rw[hO.post];exact hk
 have hn:a.post[k]? = some a.post[k]:=List.getElem?_eq_getElem hk2
 have hlp:=hp _ (List.getElem_mem hk2)
 rw[hv,show a.post.getD (k:Int).toNat []=a.post[k] by rw[Int.toNat_natCast,List.getD_eq_getElem?_getD,hn];rfl]
 generalize a.post[k]=l at hn hlp
 (try conv=>whnf);repeat' (first|(apply And.intro<;>try conv=>whnf)|(apply infoT;rfl)|(refine⟨_,_,rfl,idx_map (by with_reducible assumption),rfl,?_⟩;try conv=>whnf)|fail)
 refine⟨{ i:Nat // i≤l.length∧valL fact l=valL fact (l.drop i) },fun i=>[(2,.pv (.int .i64 fact)),(35,.pv (postPV l)),(36,.pv (i64 (l.map Asg.pv).length)),(37,.pv (i64 i.1))],fun _=>1,fun _=>[(0,.var (cellsA a))],fun i=>l.length-i.1,⟨⟨0,Nat.zero_le _,rfl⟩,(by exact Wk.sm rfl rfl rfl rfl rfl)⟩,?_⟩
 rintro⟨i,hi,he⟩
 (try conv=>whnf);repeat' (first|(apply And.intro<;>try conv=>whnf)|(intro h;try conv=>whnf)|(apply infoT;rfl)|fail)
 ·have hi':i<l.length:=by simpa using lt_dec h
  have hm:l[i]? = some l[i]:=List.getElem?_eq_getElem hi'
  have hd:=valL_drop (fact:=fact) hi'
  have hC:=fm_Compact l[i].to
  refine⟨_,_,rfl,idx_map hm,rfl,?_⟩
  (try conv=>whnf);repeat' (first|(apply And.intro<;>try conv=>whnf)|(intro h;try conv=>whnf)|(refine PureFn.dy hC rfl ?_;try conv=>whnf)|fail)
  ·rw[he,hd,show (l[i].fact==fact)=true from h];exact .refl _
  ·exact⟨⟨i+1,hi',by rw[he,hd,show (l[i].fact==fact)=false from h];rfl⟩,by show l.length-(i+1)<l.length-i;omega,(by refine Wk.of ?_ ?_ rfl rfl rfl<;>repeat' (first|exact trivial|exact WkD.same _|exact WkO.same _ _ rfl|refine WkD.int ?_|refine⟨?_,?_⟩|(refine wrapA ?_ ?_ ?_;(focus simp;done);(focus (try dsimp only);omega);(focus (try dsimp only);omega))|fail))⟩
 ·have hi':i=l.length:=by have:=ge_dec (m:=(l.map Asg.pv).length) h (by simpa using hi);simpa using this
  have hF:=fm_Fact fact
  (try conv=>whnf);repeat' (first|(refine PureFn.dy hF rfl ?_;try conv=>whnf)|fail)
  rw[he,hi',List.drop_length];exact .refl _
def eqL {α:Type} (p:α→α→Bool):List α→List α→Bool
 | [],[]=>true
 |x::s,y::t=>bif p x y then eqL p s t else false
 |_,_=>false
theorem eqL_len {α:Type} {p:α→α→Bool}:∀ {s t:List α},eqL p s t=true→s.length=t.length
 | [],[],_=>rfl
 |x::s,y::t,h=>by
  rw[eqL] at h
  cases hp:p x y with
  |false=>rw[hp] at h;cases h
  |true=>rw[hp] at h;simp[eqL_len (show eqL p s t=true from h)]
 | [],_::_,h=>by simp[eqL] at h
 |_::_,[],h=>by simp[eqL] at h
theorem eqL_drop {α:Type} {p:α→α→Bool} {s t:List α} {i:Nat} (hs:i<s.length) (ht:i<t.length):eqL p (s.drop i) (t.drop i)=bif p s[i] t[i] then eqL p (s.drop (i+1)) (t.drop (i+1)) else false:=by
 rw[List.drop_eq_getElem_cons hs,List.drop_eq_getElem_cons ht];rfl
theorem eqL_ne {α:Type} {p:α→α→Bool} {s t:List α} (h:s.length≠t.length):eqL p s t=false:=by
 cases hh:eqL p s t with
 |false=>rfl
 |true=>exact absurd (eqL_len hh) h
theorem eqf_A (fid:Nat) (p:Asg→Asg→Bool) (hcb:callable Tryz.prog fid=true) (a b:List Asg) (hl:a.length≤1000) (hw:∀ x,x∈a→∀ y,y∈b→PureFn Tryz.prog fid [Asg.pv x,Asg.pv y] (.bool (p x y))) (M:Nat→Prop) (w0:W0) :
  DC Tryz.prog M w0 79 [.pv (.sl (a.map Asg.pv)),.pv (.sl (b.map Asg.pv)),.clo fid [] []] noHeap fun d L'=>frz d L' fun q _=>PLe q (.bool (eqL p a b)):=by
 refine DC.intro mixed (fn:=Tryz.f79) rfl rfl rfl ?_
 (try conv=>whnf);repeat' (first|(apply And.intro<;>try conv=>whnf)|(intro h;try conv=>whnf)|fail)
 ·refine le_bool ?_
  have:¬ a.length=b.length:=by simp at h;omega
  exact (eqL_ne this).symm
 ·have hl2:a.length=b.length:=by simp at h;omega
  refine⟨{ i:Nat // i≤a.length∧eqL p a b=eqL p (a.drop i) (b.drop i) },fun i=>[(1,.pv (.sl (b.map Asg.pv))),(2,.clo fid [] []),(15,.pv (.sl (a.map Asg.pv))),(16,.pv (i64 (a.map Asg.pv).length)),(17,.pv (i64 i.1))],fun _=>0,fun _=>[],fun i=>a.length-i.1,
   ⟨⟨0,Nat.zero_le _,rfl⟩,(by exact Wk.sm rfl rfl rfl rfl rfl)⟩,?_⟩
  rintro⟨i,hi,he⟩
  (try conv=>whnf);repeat' (first|(apply And.intro<;>try conv=>whnf)|(intro h;try conv=>whnf)|(apply infoT;rfl)|fail)
  ·have hi':i<a.length:=by simpa using lt_dec h
   have hj':i<b.length:=by omega
   have hn:a[i]? = some a[i]:=List.getElem?_eq_getElem hi'
   have hm:b[i]? = some b[i]:=List.getElem?_eq_getElem hj'
   have hd:=eqL_drop (p:=p) hi' hj'
   have hwi:=hw _ (List.getElem_mem hi') _ (List.getElem_mem hj')
   refine⟨_,_,rfl,idx_map hn,rfl,?_⟩
   (try conv=>whnf);repeat' (first|(apply And.intro<;>try conv=>whnf)|(apply infoT;rfl)|(refine⟨_,_,rfl,idx_map (by with_reducible assumption),rfl,?_⟩;try conv=>whnf)|fail)
   refine PureFn.dcq hcb ?_
   conv=>whnf
   refine⟨_,_,hwi,⟨.refl _,.refl _,trivial⟩,?_⟩
   (try conv=>whnf);repeat' (first|(apply And.intro<;>try conv=>whnf)|(intro h;try conv=>whnf)|fail)
   ·refine le_bool ?_
    have h':p a[i] b[i]=false:=by simpa using h
    rw[he,hd,h'];rfl
   ·have h':p a[i] b[i]=true:=by simpa using h
    exact⟨⟨i+1,hi',by rw[he,hd,h'];rfl⟩,by show a.length-(i+1)<a.length-i;omega,(by refine Wk.of ?_ ?_ rfl rfl rfl<;>repeat' (first|exact trivial|exact WkD.same _|refine WkD.int ?_|refine⟨?_,?_⟩|(refine wrapA ?_ ?_ ?_;(focus simp;done);(focus (try dsimp only);omega);(focus (try dsimp only);omega))|fail))⟩
  ·have hi':¬ i<a.length:=by have:=ge_dec (m:=(a.map Asg.pv).length) h (by simpa using hi);simp at this;omega
   refine le_bool ?_
   rw[he,(List.drop_eq_nil_of_le (by omega):a.drop i=[]),(List.drop_eq_nil_of_le (by omega):b.drop i=[])];rfl
def asS (x y:Asg):Bool:=bif x.fact==y.fact then same x.to y.to else false
def orA (rel:List (List Nat)) (e:Nat):Nat→Nat
 |0=>0
 |i+1=>orA rel e i |||(rel.getD i []).getD e 0
def inP (rel:List (List Nat)) (b e s i:Nat):Nat:=bif b.testBit e then s |||orA rel e i else s
def Rel (rel:List (List Nat)) (n:Nat):Prop:=(∀ r,r∈rel→r.length=n)∧∀ r,r∈rel→∀ s,s∈r→s<2^n
theorem rel_get {rel:List (List Nat)} {n i e:Nat} (h:Rel rel n):(rel.getD i []).getD e 0<2^n:=by
 rw[List.getD_eq_getElem?_getD,List.getD_eq_getElem?_getD]
 cases h1:rel[i]? with
 |none=>simp;exact Nat.two_pow_pos _
 |some r =>
  simp only[Option.getD_some]
  cases h2:r[e]? with
  |none=>simp;exact Nat.two_pow_pos _
  |some s=>exact h.2 r (List.mem_iff_getElem?.2 ⟨i,h1⟩) s (List.mem_iff_getElem?.2 ⟨e,h2⟩)
theorem orA_lt {rel:List (List Nat)} {n e:Nat} (h:Rel rel n):∀ i,orA rel e i<2^n
 |0=>Nat.two_pow_pos _
 |i+1=>Nat.or_lt_two_pow (orA_lt h i) (rel_get h)
theorem inP_lt {rel:List (List Nat)} {n b e s i:Nat} (h:Rel rel n) (hs:s<2^n):inP rel b e s i<2^n:=by
 unfold inP
 cases b.testBit e with
 |true=>exact Nat.or_lt_two_pow hs (orA_lt h i)
 |false=>exact hs
def Sub (a b:Nat):Prop:=∀ i,a.testBit i=true→b.testBit i=true
theorem sub_or {a b:Nat}:Sub a (a |||b):=fun i h=>by rw[Nat.testBit_or,h];rfl
theorem Sub.trans {a b c:Nat} (h:Sub a b) (g:Sub b c):Sub a c:=fun i hi=>g i (h i hi)
theorem or_sub {a b c:Nat} (h:Sub a c) (g:Sub b c):Sub (a |||b) c:=fun i hi=>by
 rw[Nat.testBit_or] at hi
 cases q:a.testBit i with
 |true=>exact h i q
 |false=>rw[q] at hi;exact g i (by simpa using hi)
theorem sub_antisymm {a b:Nat} (h:Sub a b) (g:Sub b a):a=b:=Nat.eq_of_testBit_eq fun i=>by
 cases q:a.testBit i with
 |true=>exact (h i q).symm
 |false =>
  cases r:b.testBit i with
  |false=>rfl
  |true=>rw[g i r] at q;cases q
def card (n s:Nat):Nat:=((List.range n).filter fun e=>s.testBit e).length
theorem card_le (n s:Nat):card n s≤n:=by
 have:=List.length_filter_le (fun e=>s.testBit e) (List.range n)
 rw[List.length_range] at this;exact this
theorem card_mono {s t:Nat} (h:Sub s t):∀ n,card n s≤card n t
 |0=>Nat.le_refl _
 |n+1=>by
  have ih:=card_mono h n
  unfold card at *
  rw[List.range_succ,List.filter_append,List.filter_append,List.length_append,List.length_append]
  cases q:s.testBit n with
  |true=>simp[q,h n q];exact ih
  |false=>simp[q];omega
theorem card_lt {s t:Nat} (h:Sub s t) {e:Nat} (h1:s.testBit e=false) (h2:t.testBit e=true):∀ n,e<n→card n s<card n t
 |0,h=>by omega
 |n+1,he=>by
  unfold card
  rw[List.range_succ,List.filter_append,List.filter_append,List.length_append,List.length_append]
  by_cases q:e=n
  ·subst q
   have:=card_mono h e
   unfold card at this
   simp[h1,h2];omega
  ·have:=card_lt h h1 h2 n (by omega)
   unfold card at this
   cases q:s.testBit n with
   |true=>simp[q,h n q];exact this
   |false=>simp[q];omega
theorem bit_lt {s n i:Nat} (hs:s<2^n) (h:s.testBit i=true):i<n:=by
 rcases Nat.lt_or_ge i n with q|q
 ·exact q
 ·rw[Nat.testBit_lt_two_pow (Nat.lt_of_lt_of_le hs (Nat.pow_le_pow_right (by decide) q))] at h;cases h
theorem card_grow {s t n:Nat} (h:Sub s t) (hne:s≠t) (ht:t<2^n):card n s<card n t:=by
 have:∃ e,s.testBit e=false∧t.testBit e=true:=Classical.byContradiction fun hn=>hne (sub_antisymm h fun i hi=>by
  cases q:s.testBit i with
  |true=>rfl
  |false=>exact absurd ⟨i,q,hi⟩ hn)
 obtain⟨e,h1,h2⟩:=this
 exact card_lt h h1 h2 n (bit_lt ht h2)
theorem grow_stops {n:Nat} {f:Nat→Nat} (q:Nat→Nat) (hq:∀ k,q (k+1)=f (q k)) (hlt:∀ k,q k<2^n) (hsub:∀ k,Sub (q k) (q (k+1))) (h0:q 0≠0) :
  ∀ k,q k=q (k+1)∨k+2≤card n (q (k+1)):=by
 have hc0:1≤card n (q 0):=by
  have:card n 0<card n (q 0):=card_grow (fun i hi=>by rw[Nat.zero_testBit] at hi;cases hi) (fun e=>h0 e.symm) (hlt 0)
  omega
 intro k
 induction k with
 |zero =>
  by_cases e:q 0=q 1
  ·exact .inl e
  ·have:=card_grow (hsub 0) e (hlt 1);exact .inr (by omega)
 |succ k ih =>
  by_cases e:q (k+1)=q (k+2)
  ·exact .inl e
  ·rcases ih with h|h
   ·exact absurd (by rw[hq (k+1),← h,← hq k];exact h) e
   ·have:=card_grow (hsub (k+1)) e (hlt (k+2));exact .inr (by omega)
theorem inP_sub {rel:List (List Nat)} {b e s i:Nat}:Sub s (inP rel b e s i):=by
 unfold inP
 cases b.testBit e with
 |true=>exact sub_or
 |false=>exact fun _ h=>h
def evsL (s i:Nat):List Nat:=(List.range i).filter fun e=>s.testBit e
theorem evsL_succ (s i:Nat):evsL s (i+1)=bif s.testBit i then evsL s i++[i] else evsL s i:=by
 rw[evsL,List.range_succ,List.filter_append]
 cases h:s.testBit i<;>simp[h,evsL]
theorem getD_mem {α:Type} {l:List α} {i:Nat} {d:α} (h:i<l.length):l[i]? = some (l.getD i d):=by rw[List.getD_eq_getElem?_getD,List.getElem?_eq_getElem h];rfl
def redE {α:Type} (d:α) (h:Nd→α→α→α×Int):List Nd→List α→List α×Int
 | [],l=>(l,0)
 |x::r,l=>bif (h x (l.getD x.x.toNat d) (l.getD x.y.toNat d)).2 != 0 then ([],(h x (l.getD x.x.toNat d) (l.getD x.y.toNat d)).2) else redE d h r (l++[(h x (l.getD x.x.toNat d) (l.getD x.y.toNat d)).1])
theorem redE_drop {α:Type} {d:α} {h:Nd→α→α→α×Int} {c:List Nd} {l:List α} {i:Nat} {x:Nd} (hx:c[i]? = some x) :
  redE d h (c.drop i) l=bif (h x (l.getD x.x.toNat d) (l.getD x.y.toNat d)).2 != 0 then ([],(h x (l.getD x.x.toNat d) (l.getD x.y.toNat d)).2) else redE d h (c.drop (i+1)) (l++[(h x (l.getD x.x.toNat d) (l.getD x.y.toNat d)).1]):=by
 obtain⟨h1,h2⟩:=List.getElem?_eq_some_iff.1 hx
 rw[List.drop_eq_getElem_cons h1,h2];rfl
theorem redE_end {α:Type} {d:α} {h:Nd→α→α→α×Int} {c:List Nd} {l:List α}:redE d h (c.drop c.length) l=(l,0):=by
 rw[List.drop_length];rfl
theorem redE_all {α:Type} {d:α} {h:Nd→α→α→α×Int} {c:List Nd} (Q:Nat→α→Prop)
  (step:∀ (i:Nat) x (l:List α),c[i]? = some x→l.length=i→(∀ (j:Nat) z,l[j]? = some z→Q j z)→(h x (l.getD x.x.toNat d) (l.getD x.y.toNat d)).2=0→Q i (h x (l.getD x.x.toNat d) (l.getD x.y.toNat d)).1) :
  ∀ (n i:Nat) (l:List α),i+n=c.length→l.length=i→(∀ (j:Nat) z,l[j]? = some z→Q j z)→(redE d h (c.drop i) l).2=0 →
   (redE d h (c.drop i) l).1.length=c.length∧∀ (j:Nat) z,(redE d h (c.drop i) l).1[j]? = some z→Q j z
 |0,i,l,hi,hl,hQ,he=>by
  have:i=c.length:=by omega
  subst this
  rw[redE_end]
  exact⟨hl,hQ⟩
 |n+1,i,l,hi,hl,hQ,he=>by
  have hx:c[i]? = some (c[i]'(by omega)):=List.getElem?_eq_getElem (by omega)
  have hs:=step i _ l hx hl hQ
  rw[redE_drop hx] at he ⊢
  generalize h (c[i]'(by omega)) (l.getD (c[i]'(by omega)).x.toNat d) (l.getD (c[i]'(by omega)).y.toNat d)=z at hs he ⊢
  cases hz:(z.2 != 0) with
  |true =>
   rw[hz] at he
   have he:z.2=0:=he
   rw[he] at hz;cases hz
  |false =>
   rw[hz,cond_false] at he
   rw[cond_false]
   refine redE_all Q step n (i+1) (l++[z.1]) (by omega) (by simp[hl]) (fun j y hy => ?_) he
   rcases Nat.lt_or_ge j l.length with q|q
   ·rw[List.getElem?_append_left q] at hy;exact hQ j y hy
   ·rw[List.getElem?_append_right q] at hy
    have:j=l.length:=by
     have:=(List.getElem?_eq_some_iff.1 hy).1
     simp at this;omega
    subst this
    simp at hy
    subst hy
    rw[hl]
    exact hs (by simpa using hz)
def nz (z:List Nd):List Nd×Int:=(z,bif z.isEmpty then 8 else 0)
theorem nz_ok {z:List Nd} (h:(nz z).2=0):z≠[]:=by rintro rfl;exact absurd h (by decide)
def lastF (r:List (List Nd)×Int):List Nd×Int:=bif r.2 != 0 then ([],r.2) else (r.1.getD (r.1.length-1) [],0)
theorem last_get' {α:Type} {l:List α} {d:α} (h:1≤l.length):l[l.length-1]? = some (l.getD (l.length-1) d):=getD_mem (by omega)
end Go.Proofs.YtejbieopeicgkaaGreatDoor
namespace Go.Dv
open Go.RowKit (Below)
mutual
def DV.ren (ρ:Nat→Nat):DV→DV
 |.agg l=>.agg (DV.rens ρ l)
 |.tup l=>.tup (DV.rens ρ l)
 |.ref k c=>.ref (ρ k) c
 |.aref k n i c=>.aref (ρ k) n i c
 |.buf k n=>.buf (ρ k) n
 |.mp k=>.mp (ρ k)
 |.vbuf k n=>.vbuf (ρ k) n
 |.clo f a b=>.clo f (DV.rens ρ a) (DV.rens ρ b)
 |.when c d=>.when c (d.ren ρ)
 |.pv p=>.pv p
 |.e0=>.e0
 |.eptr p c=>.eptr p c
 |.fnv v=>.fnv v
 |.raw v=>.raw v
 |.any=>.any
def DV.rens (ρ:Nat→Nat):List DV→List DV
 | []=>[]
 |d::r=>d.ren ρ::DV.rens ρ r
end
def DObj.ren (ρ:Nat→Nat):DObj→DObj
 |.var cs=>.var (DV.rens ρ cs)
 |.arr sz es=>.arr sz es
 |.fz l=>.fz l
 |.mp es=>.mp es
 |.gone=>.gone
mutual
def DV.keys (p:Nat→Bool):DV→Bool
 |.agg l=>DV.keyss p l
 |.tup l=>DV.keyss p l
 |.ref k _=>p k
 |.aref k _ _ _=>p k
 |.buf k _=>p k
 |.mp k=>p k
 |.vbuf k _=>p k
 |.clo _ a b=>DV.keyss p a && DV.keyss p b
 |.when c d=>!c||d.keys p
 |_=>true
def DV.keyss (p:Nat→Bool):List DV→Bool
 | []=>true
 |d::r=>d.keys p && DV.keyss p r
end
def DObj.keys (p:Nat→Bool):DObj→Bool
 |.var cs=>DV.keyss p cs
 |_=>true
theorem keyss_iff {p:Nat→Bool}:∀ {l:List DV},DV.keyss p l=true→∀ (i:Nat) (d:DV),l[i]? = some d→d.keys p=true
 | [],_,i,d,h=>by simp at h
 |x::r,hk,i,d,h=>by
  simp only[DV.keyss,Bool.and_eq_true] at hk
  cases i with
  |zero=>simp at h;subst h;exact hk.1
  |succ i=>exact keyss_iff hk.2 i d (by simpa using h)
theorem rens_len {ρ:Nat→Nat}:∀ (l:List DV),(DV.rens ρ l).length=l.length
 | []=>rfl
 |_::r=>by rw[DV.rens,List.length_cons,List.length_cons,rens_len r]
theorem rens_get {ρ:Nat→Nat}:∀ {l:List DV} {i:Nat} {d:DV},(DV.rens ρ l)[i]? = some d→∃ d0,l[i]? = some d0∧d=d0.ren ρ
 | [],i,d,h=>by simp[DV.rens] at h
 |x::r,i,d,h=>by
  rw[DV.rens] at h
  cases i with
  |zero=>simp at h;exact⟨x,by simp,h.symm⟩
  |succ i =>
   obtain⟨d0,h1,h2⟩:=rens_get (l:=r) (i:=i) (by simpa using h)
   exact⟨d0,by simpa using h1,h2⟩
theorem ren_var {ρ:Nat→Nat} {o:Option DObj} {cs:List DV} (h:o.map (DObj.ren ρ)=some (.var cs)):∃ c0,o=some (.var c0)∧cs=DV.rens ρ c0:=by
 cases o with
 |none=>cases h
 |some o =>
  cases o with
  |var c0=>exact⟨c0,rfl,by simpa [DObj.ren] using h.symm⟩
  |arr=>simp[DObj.ren] at h
  |fz=>simp[DObj.ren] at h
  |mp=>simp[DObj.ren] at h
  |gone=>simp[DObj.ren] at h
theorem ren_arr {ρ:Nat→Nat} {o:Option DObj} {sz:Nat} {es:List PV} (h:o.map (DObj.ren ρ)=some (.arr sz es)):o=some (.arr sz es):=by
 cases o with
 |none=>cases h
 |some o=>cases o<;>simp[DObj.ren] at h;obtain⟨rfl,rfl⟩:=h;rfl
theorem ren_fz {ρ:Nat→Nat} {o:Option DObj} {es:List PV} (h:o.map (DObj.ren ρ)=some (.fz es)):o=some (.fz es):=by
 cases o with
 |none=>cases h
 |some o=>cases o<;>simp[DObj.ren] at h;subst h;rfl
theorem ren_mp {ρ:Nat→Nat} {o:Option DObj} {es:List (PV×PV)} (h:o.map (DObj.ren ρ)=some (.mp es)):o=some (.mp es):=by
 cases o with
 |none=>cases h
 |some o=>cases o<;>simp[DObj.ren] at h;subst h;rfl
theorem ren_some {ρ:Nat→Nat} {o:Option DObj} {x:DObj} (h:o.map (DObj.ren ρ)=some x):∃ y,o=some y∧x=y.ren ρ:=by
 cases o with
 |none=>cases h
 |some y=>exact⟨y,rfl,by simpa using h.symm⟩
theorem live_ren {ρ:Nat→Nat} {m:Loc} {o:DObj}:liveAt m (o.ren ρ)↔liveAt m o:=by cases o<;>exact Iff.rfl
section
variable {P:Program} {M:Nat→Prop} {w0:W0}
theorem RelV.ren {T T':Nat→Prop} {w:World} {μ μ':Nat→Loc} {L L':DH} {ρ:Nat→Nat} {p:Nat→Bool} {d:DV} {v:Value} (h:RelV T w μ L d v) (hu:d.keys p=true) (hT:∀ b,T' b→T b)
  (hL:∀ k,p k=true→L'.get (ρ k)=(L.get k).map (DObj.ren ρ)∧μ' (ρ k)=μ k):RelV T' w μ' L' (d.ren ρ) v:=by
 induction h with
 |pv q v h=>exact .pv q v (h.sub hT)
 |e0 a=>exact .e0 a
 |agg l vs h1 _ ih =>
  simp only[DV.keys] at hu
  refine .agg _ vs (by rw[rens_len];exact h1) fun i d v hi hv => ?_
  obtain⟨d0,g1,rfl⟩:=rens_get hi
  exact ih i d0 v g1 hv (keyss_iff hu i d0 g1)
 |tup l vs h1 _ ih =>
  simp only[DV.keys] at hu
  refine .tup _ vs (by rw[rens_len];exact h1) fun i d v hi hv => ?_
  obtain⟨d0,g1,rfl⟩:=rens_get hi
  exact ih i d0 v g1 hv (keyss_iff hu i d0 g1)
 |ref k c v h1 h2 =>
  obtain⟨e1,e2⟩:=hL k hu
  refine .ref (ρ k) c v h1 fun cs hc => ?_
  rw[e1] at hc
  obtain⟨c0,hc0,_⟩:=ren_var hc
  rw[e2];exact h2 c0 hc0
 |aref k m i c v h1 h2 h3 =>
  obtain⟨e1,e2⟩:=hL k hu
  exact .aref (ρ k) m i c v h1 (fun sz es hc=>by rw[e1] at hc;rw[e2];exact h2 sz es (ren_arr hc)) (fun es hc=>by rw[e1] at hc;rw[e2];exact h3 es (ren_fz hc))
 |eptr q c b off val h1 h2 h3 h4=>exact .eptr q c b off val (fun hb=>h1 (hT b hb)) h2 h3 fun j q hj=>(h4 j q hj).sub hT
 |buf k m v h1 h2 h3 =>
  obtain⟨e1,e2⟩:=hL k hu
  exact .buf (ρ k) m v h1 (fun sz es hc=>by rw[e1] at hc;rw[e2];exact h2 sz es (ren_arr hc)) (fun es hc=>by rw[e1] at hc;rw[e2];exact h3 es (ren_fz hc))
 |vbuf k n v h1 h2 =>
  obtain⟨e1,e2⟩:=hL k hu
  refine .vbuf (ρ k) n v h1 fun cs hc => ?_
  rw[e1] at hc
  obtain⟨c0,hc0,_⟩:=ren_var hc
  rw[e2];exact h2 c0 hc0
 |mp k v h1 h2 =>
  obtain⟨e1,e2⟩:=hL k hu
  exact .mp (ρ k) v h1 fun es hc=>by rw[e1] at hc;rw[e2];exact h2 es (ren_mp hc)
 |clo f first caps fs cs h1 h2 _ _ ih1 ih2 =>
  simp only[DV.keys,Bool.and_eq_true] at hu
  refine .clo f _ _ fs cs (by rw[rens_len];exact h1) (by rw[rens_len];exact h2) (fun i d v hi hv => ?_) (fun i d v hi hv => ?_)
  ·obtain⟨d0,g1,rfl⟩:=rens_get hi
   exact ih1 i d0 v g1 hv (keyss_iff hu.1 i d0 g1)
  ·obtain⟨d0,g1,rfl⟩:=rens_get hi
   exact ih2 i d0 v g1 hv (keyss_iff hu.2 i d0 g1)
 |fnv v=>exact .fnv v
 |when c d v _ h2 ih=>exact .when c _ v (fun hc=>ih hc (by simpa [DV.keys,hc] using hu)) h2
 |raw v=>exact .raw v
 |any v=>exact .any v
theorem ObjRel.ren {T T':Nat→Prop} {w:World} {μ μ':Nat→Loc} {L L':DH} {ρ:Nat→Nat} {p:Nat→Bool} {k k':Nat} {o:DObj} (h:ObjRel T w μ L k o) (hu:o.keys p=true) (hk:μ' k'=μ k) (hT:∀ b,T' b→T b)
  (hL:∀ k,p k=true→L'.get (ρ k)=(L.get k).map (DObj.ren ρ)∧μ' (ρ k)=μ k):ObjRel T' w μ' L' k' (o.ren ρ):=by
 cases o with
 |var cs =>
  obtain⟨vs,ty,h1,h2,h3⟩:=h
  refine⟨vs,ty,by rw[hk];exact h1,by rw[rens_len];exact h2,fun i d v hi hv => ?_⟩
  obtain⟨d0,g1,rfl⟩:=rens_get hi
  exact (h3 i d0 v g1 hv).ren (keyss_iff hu i d0 g1) hT hL
 |arr sz es =>
  rcases h with⟨h1,h2⟩|⟨vs,ty,h1,h2,h3,h4,h5,h6⟩
  ·exact .inl ⟨by rw[hk];exact h1,h2⟩
  ·refine .inr ⟨vs,ty,by rw[hk];exact h1,by rw[hk];exact h2,by rw[hk];exact h3,by rw[hk];exact h4,h5,fun i p j q hp hq => ?_⟩
   obtain⟨v,g1,g2⟩:=h6 i p j q hp hq
   exact⟨v,g1,g2.sub hT⟩
 |fz l =>
  rcases h with⟨h1,h2⟩|⟨h1,h2,h3⟩
  ·exact .inl ⟨by rw[hk];exact h1,h2⟩
  ·exact .inr ⟨by rw[hk];exact h1,by rw[hk];exact h2,by rw[hk];exact h3.sub hT⟩
 |gone=>trivial
 |mp es =>
  obtain⟨ents,clock,h1,h2,h3⟩:=h
  exact⟨ents,clock,by rw[hk];exact h1,h2,fun i kv e hi he=>⟨(h3 i kv e hi he).1.sub hT,(h3 i kv e hi he).2.sub hT⟩⟩
mutual
theorem keys_under (n:Nat):∀ d:DV,d.keys (fun k=>Nat.blt k n)=d.under n
 |.agg l=>by simp only[DV.keys,DV.under];exact keyss_unders n l
 |.tup l=>by simp only[DV.keys,DV.under];exact keyss_unders n l
 |.ref _ _=>rfl
 |.aref _ _ _ _=>rfl
 |.buf _ _=>rfl
 |.mp _=>rfl
 |.vbuf _ _=>rfl
 |.clo _ a b=>by simp only[DV.keys,DV.under,keyss_unders n a,keyss_unders n b]
 |.when c d=>by simp only[DV.keys,DV.under,keys_under n d]
 |.pv _=>rfl
 |.e0=>rfl
 |.eptr _ _=>rfl
 |.fnv _=>rfl
 |.raw _=>rfl
 |.any=>rfl
theorem keyss_unders (n:Nat):∀ l:List DV,DV.keyss (fun k=>Nat.blt k n) l=DV.unders n l
 | []=>rfl
 |d::r=>by simp only[DV.keyss,DV.unders,keys_under n d,keyss_unders n r]
end
mutual
theorem ren_under {n m:Nat} {ρ:Nat→Nat} (hρ:∀ k,k<n→ρ k<m):∀ d:DV,d.under n=true→(d.ren ρ).under m=true
 |.agg l,h=>by simp only[DV.under,DV.ren] at h ⊢;exact rens_under hρ l h
 |.tup l,h=>by simp only[DV.under,DV.ren] at h ⊢;exact rens_under hρ l h
 |.ref k _,h=>by simp only[DV.under,DV.ren,Nat.blt_eq] at h ⊢;exact hρ k h
 |.aref k _ _ _,h=>by simp only[DV.under,DV.ren,Nat.blt_eq] at h ⊢;exact hρ k h
 |.buf k _,h=>by simp only[DV.under,DV.ren,Nat.blt_eq] at h ⊢;exact hρ k h
 |.mp k,h=>by simp only[DV.under,DV.ren,Nat.blt_eq] at h ⊢;exact hρ k h
 |.vbuf k _,h=>by simp only[DV.under,DV.ren,Nat.blt_eq] at h ⊢;exact hρ k h
 |.clo _ a b,h=>by
  simp only[DV.under,DV.ren,Bool.and_eq_true] at h ⊢
  exact⟨rens_under hρ a h.1,rens_under hρ b h.2⟩
 |.when c d,h=>by
  simp only[DV.under,DV.ren] at h ⊢
  cases c with
  |false=>rfl
  |true=>simpa using ren_under hρ d (by simpa using h)
 |.pv _,_=>rfl
 |.e0,_=>rfl
 |.eptr _ _,_=>rfl
 |.fnv _,_=>rfl
 |.raw _,_=>rfl
 |.any,_=>rfl
theorem rens_under {n m:Nat} {ρ:Nat→Nat} (hρ:∀ k,k<n→ρ k<m):∀ l:List DV,DV.unders n l=true→DV.unders m (DV.rens ρ l)=true
 | [],_=>rfl
 |d::r,h=>by
  simp only[DV.unders,DV.rens,Bool.and_eq_true] at h ⊢
  exact⟨ren_under hρ d h.1,rens_under hρ r h.2⟩
end
theorem obj_keys {n:Nat}:∀ {o:DObj},o.under n=true→o.keys (fun k=>Nat.blt k n)=true
 |.var cs,h=>by simp only[DObj.under] at h;simp only[DObj.keys];rw[keyss_unders];exact h
 |.arr _ _,_=>rfl
 |.fz _,_=>rfl
 |.mp _,_=>rfl
 |.gone,_=>rfl
theorem obj_ren_under {n m:Nat} {ρ:Nat→Nat} (hρ:∀ k,k<n→ρ k<m):∀ {o:DObj},o.under n=true→(o.ren ρ).under m=true
 |.var cs,h=>rens_under hρ cs h
 |.arr _ _,_=>rfl
 |.fz _,_=>rfl
 |.mp _,_=>rfl
 |.gone,_=>rfl
def DH.mergeR (L:DH) (ρ σ:Nat→Nat) (p:Nat→Bool) (L':DH):DH:={ L with get:=fun k=>bif p k then (L'.get (σ k)).map (DObj.ren ρ) else L.get k }
theorem mergeR_in {L L':DH} {ρ σ:Nat→Nat} {p:Nat→Bool} {k:Nat} (h:p k=true):(L.mergeR ρ σ p L').get k=(L'.get (σ k)).map (DObj.ren ρ):=by
 simp only[DH.mergeR,h,cond_true]
theorem mergeR_out {L L':DH} {ρ σ:Nat→Nat} {p:Nat→Bool} {k:Nat} (h:p k=false):(L.mergeR ρ σ p L').get k=L.get k:=by
 simp only[DH.mergeR,h,cond_false]
theorem DC.ren {f:FuncId} {args:List DV} {L H:DH} {K:DV→DH→Prop} (ρ σ:Nat→Nat) (p:Nat→Bool) (h1:∀ k,k<H.next→p (ρ k)=true∧σ (ρ k)=k∧ρ k<L.next) (h2:∀ k,p k=true→σ k<H.next∧ρ (σ k)=k)
  (hag:∀ k,k<H.next→H.get k=(L.get (ρ k)).map (DObj.ren σ)) (hkp:∀ k o,k<H.next→L.get (ρ k)=some o→o.keys p=true) (hnone:∀ k,H.next≤k→H.get k=none) (hlo:H.lo=0) (hlo':L.lo=0)
  (hbase:H.base≤H.next) (hkeys:∀ k o,H.get k=some o→o.under H.next=true) (hargs:DV.keyss p args=true) (hargsU:DV.unders H.next (DV.rens σ args)=true)
  (h:∀ M,DC P M w0.no f (DV.rens σ args) H fun d L'=>L'.next=H.next∧K (d.ren ρ) (L.mergeR ρ σ p L')):DC P M w0 f args L K:=by
 refine DC.mk ⟨(h M).elim.1,fun μ w vs hr hu hrel => ?_⟩
 have hlt:∀ k o,H.get k=some o→k<H.next:=fun k o hk=>by
  rcases Nat.lt_or_ge k H.next with h'|h'
  ·exact h'
  ·rw[hnone k h'] at hk;cases hk
 have hsub:∀ k o,H.get k=some o→∃ o',L.get (ρ k)=some o'∧o=o'.ren σ:=fun k o hk=>by
  rw[hag k (hlt k o hk)] at hk
  exact ren_some hk
 let M':Nat→Prop:=fun b=>M b∨∃ k o,p k=false∧L.get k=some o∧liveAt (μ k) o∧(μ k).blk=b
 let μH:Nat→Loc:=fun k=>μ (ρ k)
 have hin:∀ k o,p k=true→L.get k=some o→H.get (σ k)=some (o.ren σ):=fun k o hk ho=>by
  obtain⟨g1,g2⟩:=h2 k hk
  rw[hag _ g1,g2,ho];rfl
 have hT:∀ b,Tot M' μH H b↔Tot M μ L b:=fun b=>by
  constructor
  ·rintro ((hb|⟨k,o,_,h2,h3,h4⟩)|⟨k,o,q1,q2,q3⟩)
   ·exact .inl hb
   ·exact .inr ⟨k,o,h2,h3,h4⟩
   ·obtain⟨o',g1,rfl⟩:=hsub k o q1
    exact .inr ⟨ρ k,o',g1,live_ren.1 q2,q3⟩
  ·rintro (hb|⟨k,o,q1,q2,q3⟩)
   ·exact .inl (.inl hb)
   ·cases hp:p k with
    |true =>
     obtain⟨g1,g2⟩:=h2 k hp
     refine .inr ⟨σ k,o.ren σ,hin k o hp q1,?_,?_⟩
     ·show liveAt (μ (ρ (σ k))) _
      rw[g2];exact live_ren.2 q2
     ·show (μ (ρ (σ k))).blk=b
      rw[g2];exact q3
    |false=>exact .inl (.inr ⟨k,o,hp,q1,q2,q3⟩)
 have hLH:∀ k,p k=true→H.get (σ k)=(L.get k).map (DObj.ren σ)∧μH (σ k)=μ k:=fun k hk=>by
  obtain⟨g1,g2⟩:=h2 k hk
  exact⟨by rw[hag _ g1,g2],by show μ (ρ (σ k))=μ k;rw[g2]⟩
 have hrH:HR M' w0 μH H w:=by
  refine⟨hr.ext,?_,fun k o hk=>⟨hlt k o hk,hkeys k o hk⟩,?_,?_,?_,hbase,by rw[hlo];exact Nat.zero_le _,hr.glb⟩
  ·rintro b (hb|⟨k,o,_,q2,q3,rfl⟩)
   ·exact hr.mlt b hb
   ·exact (hr.live k o q2 q3).1
  ·intro k o hk hl
   obtain⟨o',g0,rfl⟩:=hsub k o hk
   obtain⟨g1,g2,g3⟩:=hr.live (ρ k) o' g0 (live_ren.1 hl)
   refine⟨g1,?_,fun _=>g3 (by rw[hlo'];exact Nat.zero_le _)⟩
   rintro (hb|⟨k',o2,hk',q2,q3,q4⟩)
   ·exact g2 hb
   ·have:=hr.inj k' o2 (ρ k) o' q2 q3 g0 (live_ren.1 hl) q4
    rw[this,(h1 k (hlt k _ hk)).1] at hk'
    cases hk'
  ·intro k o k' o' q1 q2 q3 q4 q5
   obtain⟨a,a1,rfl⟩:=hsub k o q1
   obtain⟨b,b1,rfl⟩:=hsub k' o' q3
   have e:=hr.inj (ρ k) a (ρ k') b a1 (live_ren.1 q2) b1 (live_ren.1 q4) q5
   rw[← (h1 k (hlt k _ q1)).2.1,← (h1 k' (hlt k' _ q3)).2.1,e]
  ·intro k o hk
   obtain⟨o',g0,rfl⟩:=hsub k o hk
   exact (hr.obj (ρ k) o' g0).ren (hkp k o' (hlt k _ hk) g0) rfl (fun b hb=>(hT b).1 hb) hLH
 have hrelH:RelVs (Tot M' μH H) w μH H (DV.rens σ args) vs:=⟨by rw[rens_len];exact hrel.1,fun i d v hd hv=>by
  obtain⟨d0,g1,rfl⟩:=rens_get hd
  exact (hrel.2 i d0 v g1 hv).ren (keyss_iff hargs i d0 g1) (fun b hb=>(hT b).1 hb) hLH⟩
 refine ((h M').elim.2 μH w vs (hrH.same rfl) hargsU hrelH).mono ?_
 intro e w' hfin
 obtain⟨v,he,μ',d,L',⟨hn',hK⟩,hr',hv,hdu,hs⟩:=hfin.no
 let μL:Nat→Loc:=fun k=>bif p k then μ' (σ k) else μ k
 have hμin:∀ k,p k=true→μL k=μ' (σ k):=fun k hk=>by show (bif p k then _ else _)=_;rw[hk];rfl
 have hμout:∀ k,p k=false→μL k=μ k:=fun k hk=>by show (bif p k then _ else _)=_;rw[hk];rfl
 refine .inl ⟨v,he,μL,d.ren ρ,L.mergeR ρ σ p L',hK,?_⟩
 have hk':∀ k o,L'.get k=some o→k<H.next:=fun k o hk=>by have:=(hr'.keys k o hk).1;omega
 have hframe:∀ k o,p k=false→L.get k=some o→liveAt (μ k) o→w'.heap[(μ k).blk]? = w.heap[(μ k).blk]? := by
  intro k o hk hg hl
  refine hs.same _ (hr.live k o hg hl).1 ?_
  rintro⟨j,o',q1,q2,q3,q4⟩
  obtain⟨a,a1,rfl⟩:=hsub j o' q2
  have:=hr.inj (ρ j) a k o a1 (live_ren.1 q3) hg hl q4
  rw[← this,(h1 j (hlt j _ q2)).1] at hk
  cases hk
 have hW:∀ b,Wbl μH H b→Wbl μ L b:=by
  rintro b ⟨k,o,q1,q2,q3,q4⟩
  obtain⟨a,a1,rfl⟩:=hsub k o q2
  exact⟨ρ k,a,by rw[hlo'];exact Nat.zero_le _,a1,live_ren.1 q3,q4⟩
 have hback:∀ k o,p k=true→(L.mergeR ρ σ p L').get k=some o→∃ o',L'.get (σ k)=some o'∧o=o'.ren ρ:=fun k o hk ho=>by
  rw[mergeR_in hk] at ho
  exact ren_some ho
 have hstp:Stp L μ w (L.mergeR ρ σ p L') μL w':=by
  refine⟨⟨?_,?_,?_,?_⟩,hs.os,hs.tape,hs.output,hs.size,fun b hb hn=>hs.same b hb fun hw=>hn (hW b hw),?_,Nat.le_refl _,rfl,rfl⟩
  ·intro k cs' hkl hc
   cases hp:p k with
   |true =>
    rw[mergeR_in hp] at hc
    rw[hμin k hp]
    obtain⟨c0,g1,_⟩:=ren_var hc
    obtain⟨cs,g2,g3⟩:=hs.evo.var (σ k) c0 (h2 k hp).1 g1
    obtain⟨a,a1,a2⟩:=hsub (σ k) _ g2
    rw[(h2 k hp).2] at a1
    cases a with
    |var ca=>exact⟨ca,a1,by rw[g3];show μ (ρ (σ k))=μ k;rw[(h2 k hp).2]⟩
    |arr=>simp[DObj.ren] at a2
    |fz=>simp[DObj.ren] at a2
    |mp=>simp[DObj.ren] at a2
    |gone=>simp[DObj.ren] at a2
   |false =>
    rw[mergeR_out hp] at hc
    rw[hμout k hp]
    exact⟨cs',hc,rfl⟩
  ·intro k cs' hkl hc
   cases hp:p k with
   |true =>
    rw[mergeR_in hp] at hc
    rw[hμin k hp]
    obtain⟨cs,g2,g3⟩:=hs.evo.mp (σ k) cs' (h2 k hp).1 (ren_mp hc)
    obtain⟨a,a1,a2⟩:=hsub (σ k) _ g2
    rw[(h2 k hp).2] at a1
    have a3:=ren_mp (ρ:=σ) (o:=some a) (es:=cs) (by rw[a2];rfl)
    exact⟨cs,by rw[a1];exact a3,by rw[g3];show μ (ρ (σ k))=μ k;rw[(h2 k hp).2]⟩
   |false =>
    rw[mergeR_out hp] at hc
    rw[hμout k hp]
    exact⟨cs',hc,rfl⟩
  ·intro k sz es' hkl hc
   cases hp:p k with
   |true =>
    rw[mergeR_in hp] at hc
    rw[hμin k hp]
    obtain⟨es,g2,g3⟩:=hs.evo.arr (σ k) sz es' (h2 k hp).1 (ren_arr hc)
    obtain⟨a,a1,a2⟩:=hsub (σ k) _ g2
    rw[(h2 k hp).2] at a1
    have a3:=ren_arr (ρ:=σ) (o:=some a) (sz:=sz) (es:=es) (by rw[a2];rfl)
    refine⟨es,by rw[a1];exact a3,?_⟩
    rcases g3 with g3|⟨g3,g4⟩
    ·exact .inl g3
    ·exact .inr ⟨g3,by rw[g4];show μ (ρ (σ k))=μ k;rw[(h2 k hp).2]⟩
   |false =>
    rw[mergeR_out hp] at hc
    rw[hμout k hp]
    exact⟨es',hc,.inr ⟨rfl,rfl⟩⟩
  ·intro k es' hkl hc
   cases hp:p k with
   |true =>
    rw[mergeR_in hp] at hc
    rw[hμin k hp]
    have em:μH (σ k)=μ k:=by show μ (ρ (σ k))=μ k;rw[(h2 k hp).2]
    rcases hs.evo.fz (σ k) es' (h2 k hp).1 (ren_fz hc) with⟨g2,g3⟩|⟨sz,es,g2,g3,g4⟩
    ·obtain⟨a,a1,a2⟩:=hsub (σ k) _ g2
     rw[(h2 k hp).2] at a1
     have a3:=ren_fz (ρ:=σ) (o:=some a) (es:=es') (by rw[a2];rfl)
     exact .inl ⟨by rw[a1];exact a3,by rw[g3];exact em⟩
    ·obtain⟨a,a1,a2⟩:=hsub (σ k) _ g2
     rw[(h2 k hp).2] at a1
     have a3:=ren_arr (ρ:=σ) (o:=some a) (sz:=sz) (es:=es) (by rw[a2];rfl)
     refine .inr ⟨sz,es,by rw[a1];exact a3,g3,?_⟩
     rcases g4 with g4|⟨g4,g5⟩
     ·exact .inl g4
     ·exact .inr ⟨g4,by rw[g5];exact em⟩
   |false =>
    rw[mergeR_out hp] at hc
    rw[hμout k hp]
    exact .inl ⟨hc,rfl⟩
  ·intro k o hc hl
   cases hp:p k with
   |true =>
    obtain⟨o',g1,rfl⟩:=hback k o hp hc
    rw[hμin k hp] at hl ⊢
    rcases hs.blk (σ k) o' g1 (live_ren.1 hl) with⟨q1,⟨o0,q2,q3⟩,q4⟩|q1
    ·obtain⟨a,a1,rfl⟩:=hsub (σ k) _ q2
     rw[(h2 k hp).2] at a1
     have em:μH (σ k)=μ k:=by show μ (ρ (σ k))=μ k;rw[(h2 k hp).2]
     rw[em] at q3 q4
     exact .inl ⟨(hr.keys k a a1).1,⟨a,a1,live_ren.1 q3⟩,q4⟩
    ·exact .inr q1
   |false =>
    rw[mergeR_out hp] at hc
    rw[hμout k hp] at hl ⊢
    exact .inl ⟨(hr.keys k o hc).1,⟨o,hc,hl⟩,rfl⟩
 have hT':∀ b,Tot M μL (L.mergeR ρ σ p L') b→Tot M' μ' L' b:=by
  rintro b (hb|⟨k,o,q1,q2,q3⟩)
  ·exact .inl (.inl hb)
  ·cases hp:p k with
   |true =>
    obtain⟨o',g1,rfl⟩:=hback k o hp q1
    rw[hμin k hp] at q2 q3
    exact .inr ⟨σ k,o',g1,live_ren.1 q2,q3⟩
   |false =>
    rw[mergeR_out hp] at q1
    rw[hμout k hp] at q2 q3
    exact .inl (.inr ⟨k,o,hp,q1,q2,q3⟩)
 have hL':∀ k,Nat.blt k H.next=true→(L.mergeR ρ σ p L').get (ρ k)=(L'.get k).map (DObj.ren ρ)∧μL (ρ k)=μ' k:=fun k hk=>by
  have hk:k<H.next:=by simpa using hk
  obtain⟨g1,g2,_⟩:=h1 k hk
  exact⟨by rw[mergeR_in g1,g2],by rw[hμin _ g1,g2]⟩
 have hnew:∀ k o,L'.get k=some o→liveAt (μ' k) o→∀ j oj,p j=false→L.get j=some oj→liveAt (μ j) oj→(μ' k).blk≠(μ j).blk:=by
  intro k o hk hl j oj hj q2 q3 he
  exact (hr'.live k o hk hl).2.1 (.inr ⟨j,oj,hj,q2,q3,he.symm⟩)
 have hdk:d.keys (fun k=>Nat.blt k H.next)=true:=by rw[keys_under,← hn'];exact hdu
 have hρu:∀ k,k<H.next→ρ k<L.next:=fun k hk=>(h1 k hk).2.2
 refine⟨⟨hr'.ext,fun b hb=>hr'.mlt b (.inl hb),?_,?_,?_,?_,hr.base,hr.lob,hr.glb⟩,hv.ren hdk hT' hL',ren_under hρu d (by rw[← hn'];exact hdu),hstp⟩
 ·intro k o hk
  cases hp:p k with
  |true =>
   obtain⟨o',g1,rfl⟩:=hback k o hp hk
   have g2:=(hr'.keys (σ k) o' g1).2
   rw[hn'] at g2
   have:=hρu (σ k) (h2 k hp).1
   rw[(h2 k hp).2] at this
   exact⟨this,obj_ren_under hρu g2⟩
  |false=>rw[mergeR_out hp] at hk;exact hr.keys k o hk
 ·intro k o hk hl
  cases hp:p k with
  |true =>
   obtain⟨o',g1,rfl⟩:=hback k o hp hk
   rw[hμin k hp] at hl ⊢
   obtain⟨q1,q2,q3⟩:=hr'.live (σ k) o' g1 (live_ren.1 hl)
   refine⟨q1,fun hM=>q2 (.inl hM),fun _=>q3 (by rw[hs.lo,hlo];exact Nat.zero_le _)⟩
  |false =>
   rw[mergeR_out hp] at hk
   rw[hμout k hp] at hl ⊢
   obtain⟨q1,q2,q3⟩:=hr.live k o hk hl
   exact⟨Nat.lt_of_lt_of_le q1 hs.size,q2,q3⟩
 ·intro k o k' o' q1 q2 q3 q4 q5
  cases hp:p k with
  |true =>
   cases hp':p k' with
   |true =>
    obtain⟨a,a1,rfl⟩:=hback k o hp q1
    obtain⟨b,b1,rfl⟩:=hback k' o' hp' q3
    rw[hμin k hp] at q2 q5
    rw[hμin k' hp'] at q4 q5
    have e:=hr'.inj (σ k) a (σ k') b a1 (live_ren.1 q2) b1 (live_ren.1 q4) q5
    rw[← (h2 k hp).2,← (h2 k' hp').2,e]
   |false =>
    obtain⟨a,a1,rfl⟩:=hback k o hp q1
    rw[mergeR_out hp'] at q3
    rw[hμin k hp] at q2 q5
    rw[hμout k' hp'] at q4 q5
    exact absurd q5 (hnew (σ k) a a1 (live_ren.1 q2) k' o' hp' q3 q4)
  |false =>
   cases hp':p k' with
   |true =>
    obtain⟨b,b1,rfl⟩:=hback k' o' hp' q3
    rw[mergeR_out hp] at q1
    rw[hμout k hp] at q2 q5
    rw[hμin k' hp'] at q4 q5
    exact absurd q5.symm (hnew (σ k') b b1 (live_ren.1 q4) k o hp q1 q2)
   |false =>
    rw[mergeR_out hp] at q1
    rw[mergeR_out hp'] at q3
    rw[hμout k hp] at q2 q5
    rw[hμout k' hp'] at q4 q5
    exact hr.inj k o k' o' q1 q2 q3 q4 q5
 ·intro k o hk
  cases hp:p k with
  |true =>
   obtain⟨a,a1,rfl⟩:=hback k o hp hk
   have g2:=(hr'.keys (σ k) a a1).2
   rw[hn'] at g2
   exact (hr'.obj (σ k) a a1).ren (obj_keys g2) (hμin k hp) hT' hL'
  |false =>
   rw[mergeR_out hp] at hk
   exact (hr.obj k o hk).stp hstp (hμout k hp) (hframe k o hp hk) (hr.keys k o hk).2
end
section
variable {P:Program} {M:Nat→Prop} {w0:W0}
theorem whenOff {c:Bool} {A B:DV→Prop} (hc:c=false) (h2:B (.pv (.bool false))):WhenQ (fun d=>c=true→A d) B :=
 WhenQ.mk (d:=.pv (.bool false)) (fun h=>by rw[hc] at h;cases h) h2
theorem get_eq {L:DH} {k:Nat} {o:Option DObj} (h:L.get k=o):L.get k=o:=h
theorem merge_same {L:DH} {ρ σ:Nat→Nat} {p:Nat→Bool} {L':DH} (h:∀ k,p k=true→(L'.get (σ k)).map (DObj.ren ρ)=L.get k):L.mergeR ρ σ p L'=L:=by
 unfold DH.mergeR
 cases L with
 |mk next lo base get =>
  simp only[DH.mk.injEq,true_and]
  funext k
  cases hk:p k with
  |true=>exact h k hk
  |false=>rfl
theorem DC.lend {f:FuncId} {rest:List DV} {L:DH} {K:DV→DH→Prop} {k n sz:Nat} {es:List PV} {q:DV} (hg:L.get k=some (.arr sz es)) (h0:L.lo=0) (hk:k<L.next) (hr:∀ σ,DV.rens σ rest=rest) (hrk:∀ p,DV.keyss p rest=true) (hru:DV.unders 1 rest=true) (hq:∀ ρ,q.ren ρ=q)
  (h:∀ M (K':DV→DH→Prop),K' q ⟨1,0,1,objsOf [(0,.arr sz es)]⟩→DC P M w0.no f (.buf 0 n::rest) ⟨1,0,1,objsOf [(0,.arr sz es)]⟩ K') (hK:K q L):DC P M w0 f (.buf k n::rest) L K:=by
 have hkk:Nat.beq k k=true:=Nat.beq_refl k
 refine DC.ren (H:=⟨1,0,1,objsOf [(0,.arr sz es)]⟩) (fun _=>k) (fun _=>0) (fun j=>Nat.beq j k) (fun j hj=>⟨hkk,?_,hk⟩) (fun j hj=>⟨Nat.zero_lt_one,(Nat.eq_of_beq_eq_true hj).symm⟩) (fun j hj => ?_) (fun j o hj ho => ?_) (fun j hj => ?_) rfl h0 (Nat.le_refl 1) (fun j o ho => ?_) ?_ ?_ fun M' => ?_
 ·have:j<1:=hj
  show 0=j
  omega
 ·have:j<1:=hj
  have:j=0:=by omega
  subst this
  show some (DObj.arr sz es)=(L.get k).map _
  rw[hg];rfl
 ·rw[hg] at ho
  obtain rfl:=Option.some.inj ho
  rfl
 ·have:1≤j:=hj
  show (bif Nat.beq j 0 then _ else none)=none
  have:Nat.beq j 0=false:=by
   cases hb:Nat.beq j 0 with
   |false=>rfl
   |true=>have:=Nat.eq_of_beq_eq_true hb;omega
  rw[this];rfl
 ·have:j=0∧o=.arr sz es:=by
   have ho:(bif Nat.beq j 0 then some (DObj.arr sz es) else none)=some o:=ho
   cases hb:Nat.beq j 0 with
   |false=>rw[hb] at ho;cases ho
   |true=>rw[hb] at ho;exact⟨Nat.eq_of_beq_eq_true hb,(Option.some.inj ho).symm⟩
  obtain⟨rfl,rfl⟩:=this
  rfl
 ·show (Nat.beq k k && DV.keyss _ rest)=true
  rw[hkk,hrk];rfl
 ·show (Nat.blt 0 1 && DV.unders 1 (DV.rens _ rest))=true
  rw[hr,hru];rfl
 ·show DC P M' w0.no f (.buf 0 n::DV.rens _ rest) _ _
  rw[hr]
  refine h M' _ ⟨rfl,?_⟩
  rw[hq,merge_same]
  ·exact hK
  ·intro j hj
   have:=Nat.eq_of_beq_eq_true hj
   subst this
   show (some (DObj.arr sz es)).map _=L.get j
   rw[hg];rfl
theorem Wk.ofN (f:Nat) {e:Env} {L:DH} {E:List (Nat×DV)} {nx:Nat} {H:List (Nat×DObj)} (h1:wkE e L H E) (h2:wkH L H (H.take f)) (h3:wkU nx E (H.take f)=true) (h4:Nat.ble L.lo nx=true) (h5:Nat.ble L.base nx=true)
  (ht:∀ q,q∈H.drop f→(L.get q.1=some q.2∨(L.get q.1=none∧L.next≤q.1∧∃ sz,q.2=.arr sz []))∧q.1<nx∧q.2.under nx=true):Wk e L E nx H:=by
 have hs:∀ q,q∈H→q∈H.take f∨q∈H.drop f:=fun q hq=>by
  rw[← List.take_append_drop f H] at hq
  exact List.mem_append.1 hq
 have hU:∀ q,q∈E→q.2.under nx=true:=by
  simp only[wkU,Bool.and_eq_true,List.all_eq_true] at h3
  exact fun q hq=>h3.1 q hq
 have hV:∀ q,q∈H.take f→Nat.blt q.1 nx=true∧q.2.under nx=true:=by
  simp only[wkU,Bool.and_eq_true,List.all_eq_true] at h3
  exact fun q hq=>h3.2 q hq
 have g1:∀ (l:List (Nat×DV)),wkE e L H l→∀ q,q∈l→WkD L H (e q.1) q.2:=by
  intro l
  induction l with
  |nil=>intro _ q hq;simp at hq
  |cons x r ih =>
   intro h q hq
   rcases List.mem_cons.1 hq with rfl|hq
   ·exact h.1
   ·exact ih h.2 q hq
 have g2:∀ (l:List (Nat×DObj)),wkH L H l→∀ q,q∈l→WkO L H q.1 q.2∧(L.get q.1=none→L.next≤q.1):=by
  intro l
  induction l with
  |nil=>intro _ q hq;simp at hq
  |cons x r ih =>
   intro h q hq
   rcases List.mem_cons.1 hq with rfl|hq
   ·refine⟨h.1,fun hn => ?_⟩
    have:=h.2.1
    rw[hn] at this
    simpa using this
   ·exact ih h.2.2 q hq
 refine⟨fun q hq=>g1 E h1 q hq,fun q hq => ?_,hU,fun q hq => ?_,by simpa using h4,by simpa using h5,fun q hq hn => ?_⟩
 ·rcases hs q hq with h|h
  ·exact (g2 _ h2 q h).1
  ·rcases (ht q h).1 with h|⟨hn,_,sz,e⟩
   ·exact .same _ _ h
   ·rw[e];exact .new _ sz hn
 ·rcases hs q hq with h|h
  ·exact hV q h
  ·exact⟨by rw[Nat.blt_eq];exact (ht q h).2.1,(ht q h).2.2⟩
 ·rcases hs q hq with h|h
  ·exact (g2 _ h2 q h).2 hn
  ·rcases (ht q h).1 with h|⟨_,h,_⟩
   ·rw[h] at hn;cases hn
   ·exact h
theorem Wk.ofP {e:Env} {L:DH} {E:List (Nat×DV)} {nx:Nat} {H:List (Nat×DObj)} (h1:wkE e L H E) (h3:wkU nx E []=true) (h4:Nat.ble L.lo nx=true) (h5:Nat.ble L.base nx=true)
  (ht:∀ q,q∈H→WkO L H q.1 q.2∧(L.get q.1=none→L.next≤q.1)∧q.1<nx∧q.2.under nx=true):Wk e L E nx H:=by
 have hU:∀ q,q∈E→q.2.under nx=true:=by
  simp only[wkU,Bool.and_eq_true,List.all_eq_true] at h3
  exact fun q hq=>h3.1 q hq
 have g1:∀ (l:List (Nat×DV)),wkE e L H l→∀ q,q∈l→WkD L H (e q.1) q.2:=by
  intro l
  induction l with
  |nil=>intro _ q hq;simp at hq
  |cons x r ih =>
   intro h q hq
   rcases List.mem_cons.1 hq with rfl|hq
   ·exact h.1
   ·exact ih h.2 q hq
 exact⟨fun q hq=>g1 E h1 q hq,fun q hq=>(ht q hq).1,hU,fun q hq=>⟨by rw[Nat.blt_eq];exact (ht q hq).2.2.1,(ht q hq).2.2.2⟩,by simpa using h4,by simpa using h5,fun q hq=>(ht q hq).2.1⟩
theorem DC.callS {f:FuncId} {args:List DV} {L:DH} {K:DV→DH→Prop} {q:DV} (n:Nat) (Hl:List (Nat×DObj)) (hag:∀ k,k<n→objsOf Hl k=L.get k) (hu:∀ q,q∈Hl→q.1<n∧q.2.under n=true) (hnx:Nat.ble n L.next=true) (hlo:Nat.ble L.lo n=true) (hargs:DV.unders n args=true)
  (h:∀ M (K':DV→DH→Prop),K' q ⟨n,L.lo,n,objsOf Hl⟩→DC P M w0.no f args ⟨n,L.lo,n,objsOf Hl⟩ K') (hK:K q L):DC P M w0 f args L K:=by
 refine DC.frame (H:=⟨n,L.lo,n,objsOf Hl⟩) hag (fun k hk => ?_) (by simpa using hnx) rfl (by simpa using hlo) (Nat.le_refl n) (fun k o hk=>(hu _ (objsOf_mem hk)).2) hargs fun M'=>h M' _ ⟨rfl,?_⟩
 ·cases hg:objsOf Hl k with
  |none=>exact hg
  |some o =>
   have:=(hu _ (objsOf_mem hg)).1
   simp only at hk this
   omega
 ·have e:L.merge ⟨n,L.lo,n,objsOf Hl⟩ n=L:=by
   cases L with
   |mk next lo base get =>
    simp only[DH.merge,DH.mk.injEq,true_and]
    funext k
    cases hk:Nat.blt k n with
    |true=>exact hag k (by simpa using hk)
    |false=>rfl
  exact e.symm▸hK
theorem DC.lendV {f:FuncId} {p:PV} {L:DH} {K:DV→DH→Prop} {k:Nat} {cs:List DV} {q:DV} (hg:L.get k=some (.var cs)) (h0:L.lo=0) (hk:k<L.next) (hr:∀ σ,DV.rens σ cs=cs) (hrk:∀ p,DV.keyss p cs=true) (hru:DV.unders 1 cs=true) (hq:∀ ρ,q.ren ρ=q)
  (h:∀ M (K':DV→DH→Prop),K' q ⟨1,0,1,objsOf [(0,.var cs)]⟩→DC P M w0.no f [.pv p,.ref 0 0] ⟨1,0,1,objsOf [(0,.var cs)]⟩ K') (hK:K q L):DC P M w0 f [.pv p,.ref k 0] L K:=by
 have hkk:Nat.beq k k=true:=Nat.beq_refl k
 refine DC.ren (H:=⟨1,0,1,objsOf [(0,.var cs)]⟩) (fun _=>k) (fun _=>0) (fun j=>Nat.beq j k) (fun j hj=>⟨hkk,?_,hk⟩) (fun j hj=>⟨Nat.zero_lt_one,(Nat.eq_of_beq_eq_true hj).symm⟩) (fun j hj => ?_) (fun j o hj ho => ?_) (fun j hj => ?_) rfl h0 (Nat.le_refl 1) (fun j o ho => ?_) ?_ rfl fun M' => ?_
 ·have:j<1:=hj
  show 0=j
  omega
 ·have:j<1:=hj
  have:j=0:=by omega
  subst this
  show some (DObj.var cs)=(L.get k).map _
  rw[hg]
  show _=some (DObj.var (DV.rens _ cs))
  rw[hr]
 ·rw[hg] at ho
  obtain rfl:=Option.some.inj ho
  exact hrk _
 ·have:1≤j:=hj
  show (bif Nat.beq j 0 then _ else none)=none
  have:Nat.beq j 0=false:=by
   cases hb:Nat.beq j 0 with
   |false=>rfl
   |true=>have:=Nat.eq_of_beq_eq_true hb;omega
  rw[this];rfl
 ·have:j=0∧o=.var cs:=by
   have ho:(bif Nat.beq j 0 then some (DObj.var cs) else none)=some o:=ho
   cases hb:Nat.beq j 0 with
   |false=>rw[hb] at ho;cases ho
   |true=>rw[hb] at ho;exact⟨Nat.eq_of_beq_eq_true hb,(Option.some.inj ho).symm⟩
  obtain⟨rfl,rfl⟩:=this
  exact hru
 ·show (true && (Nat.beq k k && true))=true
  rw[hkk];rfl
 ·refine h M' _ ⟨rfl,?_⟩
  rw[hq,merge_same]
  ·exact hK
  ·intro j hj
   have:=Nat.eq_of_beq_eq_true hj
   subst this
   show (some (DObj.var cs)).map _=L.get j
   rw[hg]
   show some (DObj.var (DV.rens _ cs))=_
   rw[hr]
theorem PureFn.res {f:FuncId} {ps:List PV} {p q:PV} (h:PureFn P f ps p) (hle:PLe p q):PureFn P f ps q :=
 PureFn.mk ⟨h.elim.1,fun M w vs hG hM hrel=>(h.elim.2 M w vs hG hM hrel).mono fun _ _ ⟨v,he,hv,hb⟩=>⟨v,he,hle.rel hv,hb⟩⟩
end
end Go.Dv
namespace Go.Proofs.YtejbieopeicgkaaGreatDoor
open Go Go.Dv
theorem red_apply0 (x:Nd) (X Y:List Nd) (hx:1≤x.op∧x.op≤13):PureFn Tryz.prog 155 [x.pv,fpv X,fpv Y] (npv (apN x X Y)):=by
 obtain⟨z,hz⟩:∃ z,apN x X Y=z:=⟨_,rfl⟩
 rw[hz]
 unfold apN at hz
 have c1:=fn_True
 have c2:=fn_False
 have c3:=fn_Fact x.i
 have c4:=fn_Not X
 have c5:=fn_And X Y
 have c6:=fn_Or X Y
 have c7:=fn_Imp X Y
 have c8:=fn_Iff X Y
 have c9:=fn_Know x.i X
 have c10:=fn_Poss x.i X
 have c11:=fn_Every x.g X
 have c12:=fn_Dist x.g X
 have c13:=fn_Common x.g X Y
 have e1:x.op=1→buildL (n0 1) []=z:=fun e=>by rw[← hz,e];exact build_one _
 have e2:x.op=2→buildL (n0 2) []=z:=fun e=>by rw[← hz,e];exact build_one _
 have e3:x.op=3→buildL (nI 3 x.i) []=z:=fun e=>by rw[← hz,e];exact build_one _
 have e4:x.op=4→buildL (n0 4) [X]=z:=fun e=>by rw[← hz,e];exact build_un _ _ rfl rfl rfl
 have e5:x.op=5→buildL (n0 5) [X,Y]=z:=fun e=>by rw[← hz,e];exact build_bin _ _ _ rfl rfl
 have e6:x.op=6→buildL (n0 6) [X,Y]=z:=fun e=>by rw[← hz,e];exact build_bin _ _ _ rfl rfl
 have e7:x.op=7→buildL (n0 7) [X,Y]=z:=fun e=>by rw[← hz,e];exact build_bin _ _ _ rfl rfl
 have e8:x.op=8→buildL (n0 8) [X,Y]=z:=fun e=>by rw[← hz,e];exact build_bin _ _ _ rfl rfl
 have e9:x.op=9→buildL (nI 9 x.i) [X]=z:=fun e=>by rw[← hz,e];exact build_un _ _ rfl rfl rfl
 have e10:x.op=10→buildL (nI 10 x.i) [X]=z:=fun e=>by rw[← hz,e];exact build_un _ _ rfl rfl rfl
 have e11:x.op=11→buildL (nG 11 x.g) [X]=z:=fun e=>by rw[← hz,e];exact build_un _ _ rfl rfl rfl
 have e12:x.op=12→buildL (nG 12 x.g) [X]=z:=fun e=>by rw[← hz,e];exact build_un _ _ rfl rfl rfl
 have e13:x.op=13→buildL (nG 13 x.g) [X,Y]=z:=fun e=>by rw[← hz,e];exact build_bin _ _ _ rfl rfl
 have d1:=fun e=>e1 e▸c1
 have d2:=fun e=>e2 e▸c2
 have d3:=fun e=>e3 e▸c3
 have d4:=fun e=>e4 e▸c4
 have d5:=fun e=>e5 e▸c5
 have d6:=fun e=>e6 e▸c6
 have d7:=fun e=>e7 e▸c7
 have d8:=fun e=>e8 e▸c8
 have d9:=fun e=>e9 e▸c9
 have d10:=fun e=>e10 e▸c10
 have d11:=fun e=>e11 e▸c11
 have d12:=fun e=>e12 e▸c12
 have d13:=fun e=>e13 e▸c13
 clear c1 c2 c3 c4 c5 c6 c7 c8 c9 c10 c11 c12 c13 e1 e2 e3 e4 e5 e6 e7 e8 e9 e10 e11 e12 e13 hz
 refine PureFn.intro mixed (fn:=Tryz.f155) rfl rfl rfl fun M w0 => ?_
 cases z with
 |nil =>
  (try conv=>whnf);repeat' (first|(apply And.intro<;>try conv=>whnf)|(intro h;try conv=>whnf)|(refine PureFn.dcq (f:=36) rfl ?_;try conv=>whnf)|(refine PureFn.dcq (f:=53) rfl ?_;try conv=>whnf)|(refine PureFn.dcq (f:=83) rfl ?_;try conv=>whnf)|(refine PureFn.dcq (f:=37) rfl ?_;try conv=>whnf)|(refine PureFn.dcq (f:=32) rfl ?_;try conv=>whnf)|(refine PureFn.dcq (f:=186) rfl ?_;try conv=>whnf)|(refine PureFn.dcq (f:=34) rfl ?_;try conv=>whnf)|(refine PureFn.dcq (f:=187) rfl ?_;try conv=>whnf)|(refine PureFn.dcq (f:=188) rfl ?_;try conv=>whnf)|(refine PureFn.dcq (f:=153) rfl ?_;try conv=>whnf)|(refine PureFn.dcq (f:=189) rfl ?_;try conv=>whnf)|(refine PureFn.dcq (f:=190) rfl ?_;try conv=>whnf)|(refine PureFn.dcq (f:=154) rfl ?_;try conv=>whnf)|(refine⟨_,_,d1 ?_,?_,?_⟩;rotate_left 1;(focus first|(refine⟨trivial⟩<;>first|exact PLe.refl _|exact PLe.nil)|exact trivial);try conv=>whnf)|(refine⟨_,_,d2 ?_,?_,?_⟩;rotate_left 1;(focus first|(refine⟨trivial⟩<;>first|exact PLe.refl _|exact PLe.nil)|exact trivial);try conv=>whnf)|(refine⟨_,_,d3 ?_,?_,?_⟩;rotate_left 1;(focus first|(refine⟨?_,trivial⟩<;>first|exact PLe.refl _|exact PLe.nil)|exact trivial);try conv=>whnf)|(refine⟨_,_,d4 ?_,?_,?_⟩;rotate_left 1;(focus first|(refine⟨?_,trivial⟩<;>first|exact PLe.refl _|exact PLe.nil)|exact trivial);try conv=>whnf)|(refine⟨_,_,d5 ?_,?_,?_⟩;rotate_left 1;(focus first|(refine⟨?_,?_,trivial⟩<;>first|exact PLe.refl _|exact PLe.nil)|exact trivial);try conv=>whnf)|(refine⟨_,_,d6 ?_,?_,?_⟩;rotate_left 1;(focus first|(refine⟨?_,?_,trivial⟩<;>first|exact PLe.refl _|exact PLe.nil)|exact trivial);try conv=>whnf)|(refine⟨_,_,d7 ?_,?_,?_⟩;rotate_left 1;(focus first|(refine⟨?_,?_,trivial⟩<;>first|exact PLe.refl _|exact PLe.nil)|exact trivial);try conv=>whnf)|(refine⟨_,_,d8 ?_,?_,?_⟩;rotate_left 1;(focus first|(refine⟨?_,?_,trivial⟩<;>first|exact PLe.refl _|exact PLe.nil)|exact trivial);try conv=>whnf)|(refine⟨_,_,d9 ?_,?_,?_⟩;rotate_left 1;(focus first|(refine⟨?_,?_,trivial⟩<;>first|exact PLe.refl _|exact PLe.nil)|exact trivial);try conv=>whnf)|(refine⟨_,_,d10 ?_,?_,?_⟩;rotate_left 1;(focus first|(refine⟨?_,?_,trivial⟩<;>first|exact PLe.refl _|exact PLe.nil)|exact trivial);try conv=>whnf)|(refine⟨_,_,d11 ?_,?_,?_⟩;rotate_left 1;(focus first|(refine⟨?_,?_,trivial⟩<;>first|exact PLe.refl _|exact PLe.nil)|exact trivial);try conv=>whnf)|(refine⟨_,_,d12 ?_,?_,?_⟩;rotate_left 1;(focus first|(refine⟨?_,?_,trivial⟩<;>first|exact PLe.refl _|exact PLe.nil)|exact trivial);try conv=>whnf)|(refine⟨_,_,d13 ?_,?_,?_⟩;rotate_left 1;(focus first|(refine⟨?_,?_,?_,trivial⟩<;>first|exact PLe.refl _|exact PLe.nil)|exact trivial);try conv=>whnf)|fail)
  all_goals first
   |exact .refl _
   |exact eq_of_beq (by with_reducible assumption)
   |(simp only[beq_eq_false_iff_ne,ne_eq] at *;omega)
 |cons a r =>
  (try conv=>whnf);repeat' (first|(apply And.intro<;>try conv=>whnf)|(intro h;try conv=>whnf)|(refine PureFn.dcq (f:=36) rfl ?_;try conv=>whnf)|(refine PureFn.dcq (f:=53) rfl ?_;try conv=>whnf)|(refine PureFn.dcq (f:=83) rfl ?_;try conv=>whnf)|(refine PureFn.dcq (f:=37) rfl ?_;try conv=>whnf)|(refine PureFn.dcq (f:=32) rfl ?_;try conv=>whnf)|(refine PureFn.dcq (f:=186) rfl ?_;try conv=>whnf)|(refine PureFn.dcq (f:=34) rfl ?_;try conv=>whnf)|(refine PureFn.dcq (f:=187) rfl ?_;try conv=>whnf)|(refine PureFn.dcq (f:=188) rfl ?_;try conv=>whnf)|(refine PureFn.dcq (f:=153) rfl ?_;try conv=>whnf)|(refine PureFn.dcq (f:=189) rfl ?_;try conv=>whnf)|(refine PureFn.dcq (f:=190) rfl ?_;try conv=>whnf)|(refine PureFn.dcq (f:=154) rfl ?_;try conv=>whnf)|(refine⟨_,_,d1 ?_,?_,?_⟩;rotate_left 1;(focus first|(refine⟨trivial⟩<;>first|exact PLe.refl _|exact PLe.nil)|exact trivial);try conv=>whnf)|(refine⟨_,_,d2 ?_,?_,?_⟩;rotate_left 1;(focus first|(refine⟨trivial⟩<;>first|exact PLe.refl _|exact PLe.nil)|exact trivial);try conv=>whnf)|(refine⟨_,_,d3 ?_,?_,?_⟩;rotate_left 1;(focus first|(refine⟨?_,trivial⟩<;>first|exact PLe.refl _|exact PLe.nil)|exact trivial);try conv=>whnf)|(refine⟨_,_,d4 ?_,?_,?_⟩;rotate_left 1;(focus first|(refine⟨?_,trivial⟩<;>first|exact PLe.refl _|exact PLe.nil)|exact trivial);try conv=>whnf)|(refine⟨_,_,d5 ?_,?_,?_⟩;rotate_left 1;(focus first|(refine⟨?_,?_,trivial⟩<;>first|exact PLe.refl _|exact PLe.nil)|exact trivial);try conv=>whnf)|(refine⟨_,_,d6 ?_,?_,?_⟩;rotate_left 1;(focus first|(refine⟨?_,?_,trivial⟩<;>first|exact PLe.refl _|exact PLe.nil)|exact trivial);try conv=>whnf)|(refine⟨_,_,d7 ?_,?_,?_⟩;rotate_left 1;(focus first|(refine⟨?_,?_,trivial⟩<;>first|exact PLe.refl _|exact PLe.nil)|exact trivial);try conv=>whnf)|(refine⟨_,_,d8 ?_,?_,?_⟩;rotate_left 1;(focus first|(refine⟨?_,?_,trivial⟩<;>first|exact PLe.refl _|exact PLe.nil)|exact trivial);try conv=>whnf)|(refine⟨_,_,d9 ?_,?_,?_⟩;rotate_left 1;(focus first|(refine⟨?_,?_,trivial⟩<;>first|exact PLe.refl _|exact PLe.nil)|exact trivial);try conv=>whnf)|(refine⟨_,_,d10 ?_,?_,?_⟩;rotate_left 1;(focus first|(refine⟨?_,?_,trivial⟩<;>first|exact PLe.refl _|exact PLe.nil)|exact trivial);try conv=>whnf)|(refine⟨_,_,d11 ?_,?_,?_⟩;rotate_left 1;(focus first|(refine⟨?_,?_,trivial⟩<;>first|exact PLe.refl _|exact PLe.nil)|exact trivial);try conv=>whnf)|(refine⟨_,_,d12 ?_,?_,?_⟩;rotate_left 1;(focus first|(refine⟨?_,?_,trivial⟩<;>first|exact PLe.refl _|exact PLe.nil)|exact trivial);try conv=>whnf)|(refine⟨_,_,d13 ?_,?_,?_⟩;rotate_left 1;(focus first|(refine⟨?_,?_,?_,trivial⟩<;>first|exact PLe.refl _|exact PLe.nil)|exact trivial);try conv=>whnf)|fail)
  all_goals first
   |exact .refl _
   |exact eq_of_beq (by with_reducible assumption)
   |(simp only[beq_eq_false_iff_ne,ne_eq] at *;omega)
theorem red_apply (x:Nd) (X Y:List Nd) (hx:1≤x.op∧x.op≤13):PureFn Tryz.prog 155 [x.pv,fpv X,fpv Y] (fpv (apN x X Y)):=(red_apply0 x X Y hx).res (npv_le _)
theorem opn_idx {x:Nd} {n:Nat} (h:OkNd x n) (h0:n≠0):(∃ k:Nat,x.x=k∧k<n∧x.x.toNat=k)∧∃ k:Nat,x.y=k∧k<n∧x.y.toNat=k:=by
 constructor
 ·cases hu:usesX x.op with
  |true=>have:=h.x hu;exact⟨x.x.toNat,by omega,by omega,rfl⟩
  |false=>have:=h.nox hu;exact⟨0,by omega,by omega,by omega⟩
 ·cases hu:usesY x.op with
  |true=>have:=h.y hu;exact⟨x.y.toNat,by omega,by omega,rfl⟩
  |false=>have:=h.noy hu;exact⟨0,by omega,by omega,by omega⟩
theorem fget {l:List (List Nd)} {k:Nat} (h:k<l.length):(l.map fpv)[k]? = some (fpv (l.getD k [])):=by
 rw[List.getElem?_map,getD_mem h (d:=[])];rfl
theorem op_own (x:Nd) (l:List (List Nd)) (hk:OkNd x l.length) (M:Nat→Prop) (w0:W0) (base:Nat) (K:DV→DH→Prop)
  (hK0:l=[]→K (.tup [.pv .nil,.pv .nil]) ⟨1,0,base,objsOf [(0,.arr 1 (l.map fpv))]⟩) (hK:l≠[]→K (.tup [.pv (fpv (l.getD x.x.toNat [])),.pv (fpv (l.getD x.y.toNat []))]) ⟨1,0,base,objsOf [(0,.arr 1 (l.map fpv))]⟩) :
  DC Tryz.prog M w0 118 [.buf 0 (l.map fpv).length,.agg x.dvs] ⟨1,0,base,objsOf [(0,.arr 1 (l.map fpv))]⟩ K:=by
 refine DC.weaken (DC.intro mixed (fn:=Tryz.f118) rfl rfl rfl ?_)
 (try conv=>whnf);repeat' (first|(apply And.intro<;>try conv=>whnf)|(intro h;try conv=>whnf)|(refine lin_plan (by kernel_rfl) ?_;try conv=>whnf)|fail)
 ·have hl:l=[]:=by
   have:(((l.map fpv).length:Nat):Int)=0:=by simpa using h
   rw[List.length_map] at this
   exact List.eq_nil_of_length_eq_zero (by omega)
  exact⟨.tup [.pv .nil,.pv .nil],1,[(0,.arr 1 (l.map fpv))],(by exact Wk.sm rfl rfl rfl rfl rfl),hK0 hl⟩
 ·have hl:l.length≠0:=by
   intro e
   rw[List.length_map,e] at h
   exact absurd h (by decide)
  have hlm:(l.map fpv).length=l.length:=List.length_map _
  obtain⟨⟨a,a1,a2,a3⟩,hb⟩:=opn_idx hk hl
  have hK:=hK (by rintro rfl;exact hl rfl)
  refine⟨a,a1,by omega,?_⟩
  (try conv=>whnf);repeat' (first|(apply And.intro<;>try conv=>whnf)|fail)
  refine⟨_,fget a2,?_⟩
  (try conv=>whnf);repeat' (first|(apply And.intro<;>try conv=>whnf)|fail)
  obtain⟨b,b1,b2,b3⟩:=hb
  rw[a3,b3] at hK
  refine⟨b,b1,by omega,?_⟩
  (try conv=>whnf);repeat' (first|(apply And.intro<;>try conv=>whnf)|fail)
  refine⟨_,fget b2,?_⟩
  try conv=>whnf
  exact⟨.tup [.pv (fpv (l.getD a [])),.pv (fpv (l.getD b []))],1,[(0,.arr 1 (l.map fpv))],(by exact Wk.sm rfl rfl rfl rfl rfl),hK⟩
theorem red_static (f:List Nd):PureFn Tryz.prog 87 [fpv f] (.bool (nand64' (frags f:Nat) 15==0)):=by
 refine PureFn.intro mixed (fn:=Tryz.f87) rfl rfl rfl fun M w0 => ?_
 (try conv=>whnf);repeat' (first|(refine PureFn.dcq (f:=104) rfl ?_;try conv=>whnf)|(refine⟨_,_,fm_Frags ?_,?_,?_⟩;rotate_left 1;(focus first|(refine⟨?_,trivial⟩<;>first|exact PLe.refl _|exact PLe.nil)|exact trivial);try conv=>whnf)|fail)
 exact .refl _
theorem map_snoc {l:List (List Nd)} {z:List Nd}:l.map fpv++[fpv z]=(l++[z]).map fpv:=by rw[List.map_append];rfl
theorem redE_yes {α:Type} {d:α} {h:Nd→α→α→α×Int} {c:List Nd} {l:List α} {i:Nat} {x:Nd} {z:α} {e:Int} (hx:c[i]? = some x) (hz:h x (l.getD x.x.toNat d) (l.getD x.y.toNat d)=(z,e)) (h0:e=0) :
  redE d h (c.drop i) l=redE d h (c.drop (i+1)) (l++[z]):=by rw[redE_drop hx,hz,h0];rfl
theorem redE_no {α:Type} {d:α} {h:Nd→α→α→α×Int} {c:List Nd} {l:List α} {i:Nat} {x:Nd} {z:α} {e:Int} (hx:c[i]? = some x) (hz:h x (l.getD x.x.toNat d) (l.getD x.y.toNat d)=(z,e)) (h0:(e != 0)=true) :
  redE d h (c.drop i) l=([],e):=by rw[redE_drop hx,hz];show (bif e != 0 then _ else _)=_;rw[h0];rfl
theorem le_pairF {a b:List Nd×Int} (h:a=b):PLe (pairF a) (pairF b):=h▸.refl _
def stB (f:List Nd):Bool:=nand64' (frags f:Nat) 15==0
theorem stB_ops {f:List Nd} (h:stB f=true):∀ x,x∈comp f→x.op≤13:=fun x hx=>by
 have hfr:frags f<2^62:=Nat.lt_of_lt_of_le (frags_lt f) (by decide)
 have h1:frags f<16:=(frag_low hfr).1 (by simpa [stB] using h)
 have h2:fragN x≤frags f:=orN_le hx
 obtain⟨k,hk⟩:=okl_mem (comp_okl f) hx
 have ho:=hk.op
 have key:∀ op:Nat,op<22→(frag (op:Int)).toNat<16→op≤13:=by decide
 have:=key x.op.toNat (by omega) (by rw[show ((x.op.toNat:Nat):Int)=x.op by omega];show fragN x<16;omega)
 omega
theorem allW_is:∀ n:Nat,n<9→allW n=2^n-1:=by decide +kernel
def tL:List Nd:=buildL (n0 1) []
def fL:List Nd:=buildL (n0 2) []
def conA (l:List (List Nd)):List Nd:=joinL 5 tL l
def disA (l:List (List Nd)):List Nd:=joinL 6 fL l
def sees (a:Act) (i e:Nat):List Nat:=evsL ((a.rel.getD i []).getD e 0) a.pre.length
def meetL (a:Act) (g:Int):List Nat:=togL (fun x y=>x&&&y) a g (allW a.pre.length)
def grpL (a:Act) (g:Int):List Nat:=(List.range a.rel.length).filter fun j=>and64 (shr64 g j) 1==1
def knoL (a:Act) (i e:Nat) (X:List (List Nd)):List Nd:=conA ((sees a i e).map fun d=>buildL (nI 9 i) [X.getD d []])
def evBod (a:Act) (e:Nat) (x:Nd) (X Y:List (List Nd)):List Nd :=
 bif x.op==3 then (valI a e x.i).1
 else bif x.op==9 then knoL a x.i.toNat e X
 else bif x.op==10 then disA ((sees a x.i.toNat e).map fun d=>buildL (nI 10 x.i) [conL (a.pre.getD d []) (X.getD d [])])
 else bif x.op==11 then conA ((grpL a x.g).map fun j=>knoL a j e X)
 else bif x.op==12 then conA ((evsL ((meetL a x.g).getD e 0) a.pre.length).map fun d=>buildL (nG 12 x.g) [X.getD d []])
 else apN x (X.getD e []) (Y.getD e [])
def evRow (a:Act) (x:Nd) (X Y:List (List Nd)):List (List Nd):=(List.range a.pre.length).map fun e=>impL (a.pre.getD e []) (evBod a e x X Y)
def evHd (a:Act) (x:Nd) (X Y:List (List Nd)):List (List Nd)×Int:=(evRow a x X Y,bif (evRow a x X Y).any List.isEmpty then 8 else 0)
def aftF (a:Act) (ev:Nat) (c:List Nd):List Nd×Int :=
 bif (redE [] (evHd a) c []).2 != 0 then ([],(redE [] (evHd a) c []).2) else (((redE [] (evHd a) c []).1.getD ((redE [] (evHd a) c []).1.length-1) []).getD ev [],0)
theorem evs_lt {s n d:Nat} (h:d∈evsL s n):d<n:=List.mem_range.1 (List.mem_filter.1 h).1
theorem any_empty {l:List (List Nd)}:l.any List.isEmpty=false↔∀ z,z∈l→z≠[]:=by
 rw[List.any_eq_false]
 constructor
 ·intro h z hz e;subst e;exact h _ hz rfl
 ·intro h z hz e;exact h z hz (List.isEmpty_iff.1 e)
end Go.Proofs.YtejbieopeicgkaaGreatDoor
