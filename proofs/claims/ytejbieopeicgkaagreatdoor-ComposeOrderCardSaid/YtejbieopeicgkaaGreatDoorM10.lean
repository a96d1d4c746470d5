/- Parts of the proof, one after the other: Models: the reference's All, Check, Same, Few walked. Products: At of the program walked; the examples of the law. Products one after the other: what they are; copies of lists; the program walked. Action models one after the other: Chain of the program walked. Models: the members of a set, and Restrict of the program walked. Products: the examples of the law; models as arguments. Products: what the law ProductKeeps asks (plain). Models: Restrict, and announcements, of the program walked. The dynamic language: sets, static formulas, requests (plain). Models: closed parts of models; formulas that are put together (plain). The dynamic language: announcing twice; the axioms (plain). Reductions of announcements: where they hold (plain). Reductions of events: where they hold (plain). Reductions: a formula and its reduction hold at the same worlds (plain). Reductions: what the laws ReduceEqual and ReduceAnnounces ask (plain). Rewriting: the rules of simplification, and a node with new operands. Rewriting: a node with new operands. Rewriting: opposite formulas, joined formulas. Rewriting: implications, equivalences. Rewriting: one node simplified. Rewriting: a formula simplified from its parts up. -/
import Derived.Test.YtejbieopeicgkaaGreatDoorM9
set_option maxRecDepth 100000
set_option maxHeartbeats 4000000
namespace Go.Proofs.YtejbieopeicgkaaGreatDoor
open Go Go.Dv
theorem rm_SameSets (l:List Nat) (hl:l.length≤1000):PureFn Tryz.prog 82 [rowPV l,rowPV l] (.bool true):=by
 refine PureFn.intro mixed (fn:=Tryz.f82) rfl rfl rfl fun M w0 => ?_
 (try conv=>whnf);repeat' (first|(apply And.intro<;>try conv=>whnf)|(intro h;try conv=>whnf)|fail)
 ·simp at h
 refine⟨{ i:Nat // i≤l.length },fun i=>[(0,.pv (rowPV l)),(1,.pv (rowPV l)),(5,.pv (i64 i.1))],fun _=>0,fun _=>[],fun i=>l.length-i.1,⟨⟨0,Nat.zero_le _⟩,(by refine Wk.of ?_ ?_ rfl rfl rfl<;>repeat' (first|exact trivial|exact WkD.same _|refine⟨?_,?_⟩|fail))⟩,?_⟩
 rintro⟨i,hi⟩
 (try conv=>whnf);repeat' (first|(apply And.intro<;>try conv=>whnf)|(intro h;try conv=>whnf)|(apply infoT;rfl)|(refine lin_plan (by kernel_rfl) ?_;try conv=>whnf)|fail)
 ·have hi':i<l.length:=by simpa using lt_dec h
  have hm:l[i]? = some l[i]:=List.getElem?_eq_getElem hi'
  refine⟨_,_,rfl,idx_map hm,rfl,?_⟩
  (try conv=>whnf);repeat' (first|(apply And.intro<;>try conv=>whnf)|(intro h;try conv=>whnf)|(apply infoT;rfl)|(refine⟨_,_,rfl,idx_map (by with_reducible assumption),rfl,?_⟩;try conv=>whnf)|fail)
  ·simp at h
  ·exact⟨⟨i+1,hi'⟩,by show l.length-(i+1)<l.length-i;omega,(by refine Wk.of ?_ ?_ rfl rfl rfl<;>repeat' (first|exact trivial|exact WkD.same _|refine WkD.int ?_|refine⟨?_,?_⟩|(refine wrapA ?_ ?_ ?_;(focus simp;done);(focus (try dsimp only);omega);(focus (try dsimp only);omega))|fail))⟩
 ·exact .refl _
theorem rm_Same (m:Mo) (h1:m.val.length≤1000) (h2:m.rel.length≤1000) (h3:∀ r,r∈m.rel→r.length≤1000):PureFn Tryz.prog 26 [m.pv,m.pv] (.bool true):=by
 refine PureFn.introC [3] mixed (fn:=Tryz.f26) rfl rfl rfl fun M w0 => ?_
 have hS:=rm_SameSets m.val h1
 try conv=>whnf
 refine⟨Unit,fun _=>[(2,.ref 0 0),(3,.ref 1 0)],fun _=>2,fun _=>[(0,.var (cellsM m)),(1,.var (cellsM m))],?_,?_⟩
 ·(try conv=>whnf);repeat' (first|(apply And.intro<;>try conv=>whnf)|(intro h;try conv=>whnf)|apply True.intro|(apply WhenQ.mk;(try conv=>whnf);rotate_left;(try conv=>whnf);rotate_right)|with_reducible assumption|(apply not_of;with_reducible assumption)|(refine PureFn.dcq (f:=82) rfl ?_;try conv=>whnf)|(refine⟨_,_,hS,?_,?_⟩;(focus first|(refine⟨?_,?_,trivial⟩<;>first|exact PLe.refl _|exact PLe.nil)|exact trivial);try conv=>whnf)|fail)
  ·simp at h
  ·exact⟨(),(by refine Wk.of ?_ ?_ rfl rfl rfl<;>repeat' (first|exact trivial|exact WkD.same _|exact WkO.same _ _ rfl|refine⟨?_,?_⟩|fail))⟩
 rintro⟨⟩
 try conv=>whnf
 refine⟨{ i:Nat // i≤m.rel.length },fun i=>[(2,.ref 0 0),(3,.ref 1 0),(5,.pv (i64 i.1))],fun _=>2,fun _=>[(0,.var (cellsM m)),(1,.var (cellsM m))],fun i=>m.rel.length-i.1,⟨⟨0,Nat.zero_le _⟩,(by refine Wk.of ?_ ?_ rfl rfl rfl<;>repeat' (first|exact trivial|exact WkD.same _|exact WkO.same _ _ rfl|refine⟨?_,?_⟩|fail))⟩,?_⟩
 rintro⟨i,hi⟩
 (try conv=>whnf);repeat' (first|(apply And.intro<;>try conv=>whnf)|(intro h;try conv=>whnf)|(apply infoT;rfl)|(refine lin_plan (by kernel_rfl) ?_;try conv=>whnf)|fail)
 ·have hi':i<m.rel.length:=by simpa using lt_dec h
  have hm:m.rel[i]? = some m.rel[i]:=List.getElem?_eq_getElem hi'
  have hS2:=rm_SameSets m.rel[i] (h3 _ (List.getElem_mem hi'))
  refine⟨_,_,rfl,idx_map hm,rfl,?_⟩
  (try conv=>whnf);repeat' (first|(apply And.intro<;>try conv=>whnf)|(intro h;first|with_reducible exact nt0 h|try conv=>whnf)|(apply infoT;rfl)|(refine⟨_,_,rfl,idx_map (by with_reducible assumption),rfl,?_⟩;try conv=>whnf)|(refine⟨_,(by (conv=>whnf);exact hS2),rfl,?_⟩;try conv=>whnf)|fail)
  exact⟨⟨i+1,hi'⟩,by show m.rel.length-(i+1)<m.rel.length-i;omega,(by refine Wk.of ?_ ?_ rfl rfl rfl<;>repeat' (first|exact trivial|exact WkD.same _|exact WkO.same _ _ rfl|refine WkD.int ?_|refine⟨?_,?_⟩|(refine wrapA ?_ ?_ ?_;(focus simp;done);(focus (try dsimp only);omega);(focus (try dsimp only);omega))|fail))⟩
 ·exact .refl _
def fewB (m:Mo) (k:Int):Bool:=bif bif bif decide (m.n>k) then decide (m.n≤64) else false then true else decide ((m.val.length:Int)>20) then true else decide ((m.rel.length:Int)>10)
def fewM (m:Mo) (k:Int):Bool:=bif fewB m k then false else !(m.rel.any fun r=>decide ((r.length:Int)>70))
theorem rm_Few (m:Mo) (k:Int):PureFn Tryz.prog 11 [m.pv,.int .i64 k] (.bool (fewM m k)):=by
 refine PureFn.introC [3] mixed (fn:=Tryz.f11) rfl rfl rfl fun M w0 => ?_
 have e1:((m.val.map u64).length:Int)=(m.val.length:Int):=by simp
 have e2:((m.rel.map rowPV).length:Int)=(m.rel.length:Int):=by simp
 try conv=>whnf
 refine⟨{ _x:Unit // fewB m k=false },fun _=>[(2,.ref 0 0)],fun _=>1,fun _=>HM m,?_,?_⟩
 ·(try conv=>whnf);repeat' (first|(apply And.intro<;>try conv=>whnf)|(intro h;try conv=>whnf)|apply True.intro|(apply WhenQ.mk;(try conv=>whnf);rotate_left;(try conv=>whnf);rotate_right)|with_reducible assumption|(apply not_of;with_reducible assumption)|fail)
  ·have h9:fewB m k=true:=by rw[fewB,← e1,← e2];exact h
   rw[fewM,h9];exact .refl _
  ·have h9:fewB m k=false:=by rw[fewB,← e1,← e2];exact h
   exact⟨⟨(),h9⟩,(by refine Wk.of ?_ ?_ rfl rfl rfl<;>repeat' (first|exact trivial|exact WkD.same _|exact WkO.same _ _ rfl|refine⟨?_,?_⟩|fail))⟩
 rintro⟨_,h1⟩
 have hrl:m.rel.length≤10:=by
  unfold fewB at h1
  cases q1:(bif bif decide (m.n>k) then decide (m.n≤64) else false then true else decide ((m.val.length:Int)>20)) with
  |true=>rw[q1] at h1;cases h1
  |false =>
   rw[q1] at h1
   have:=of_decide_eq_false (show decide ((m.rel.length:Int)>10)=false from h1)
   omega
 try conv=>whnf
 refine⟨{ i:Nat // i≤m.rel.length∧(m.rel.take i).any (fun r=>decide ((r.length:Int)>70))=false },fun i=>[(2,.ref 0 0),(5,.pv (i64 i.1))],fun _=>1,fun _=>HM m,fun i=>m.rel.length-i.1,⟨⟨0,Nat.zero_le _,rfl⟩,(by refine Wk.of ?_ ?_ rfl rfl rfl<;>repeat' (first|exact trivial|exact WkD.same _|exact WkO.same _ _ rfl|refine⟨?_,?_⟩|fail))⟩,?_⟩
 rintro⟨i,hi,ha⟩
 (try conv=>whnf);repeat' (first|(apply And.intro<;>try conv=>whnf)|(intro h;try conv=>whnf)|(apply infoT;rfl)|fail)
 ·have hi':i<m.rel.length:=by simpa using lt_dec h
  have hm:m.rel[i]? = some m.rel[i]:=List.getElem?_eq_getElem hi'
  have e3:(((m.rel[i]).map u64).length:Int)=((m.rel[i]).length:Int):=by simp
  refine⟨_,_,rfl,idx_map hm,rfl,?_⟩
  (try conv=>whnf);repeat' (first|(apply And.intro<;>try conv=>whnf)|(intro h;try conv=>whnf)|fail)
  ·have e:(m.rel.any fun r=>decide ((r.length:Int)>70))=true:=any_at hi' (by rw[← e3];exact h)
   rw[fewM,h1,e];exact .refl _
  ·exact⟨⟨i+1,hi',any_take hi' ha (by rw[← e3];exact h)⟩,by show m.rel.length-(i+1)<m.rel.length-i;omega,(by refine Wk.of ?_ ?_ rfl rfl rfl<;>repeat' (first|exact trivial|exact WkD.same _|exact WkO.same _ _ rfl|refine WkD.int ?_|refine⟨?_,?_⟩|(refine wrapA ?_ ?_ ?_;(focus simp;done);(focus (try dsimp only);omega);(focus (try dsimp only);omega))|fail))⟩
 ·have hi':i=m.rel.length:=by have:=ge_dec (m:=(m.rel.map rowPV).length) h (by simpa using hi);simpa using this
  subst hi'
  rw[List.take_length] at ha
  rw[fewM,h1,ha];exact .refl _
def isP (w e:Int) (q:Nat×Nat):Bool:=bif (q.1:Int)==w then (q.2:Int)==e else false
def ixP (l:List (Nat×Nat)) (w e:Int):Int:=match l.findIdx? (isP w e) with|none => -1|some i=>(i:Int)
theorem find_at {α:Type} {p:α→Bool}:∀ {l:List α} {i:Nat} {x:α},l[i]? = some x→p x=true→(l.take i).any p=false→l.findIdx? p=some i
 | [],i,x,h,_,_=>by simp at h
 |a::r,0,x,h,hx,_=>by
  have:a=x:=by simpa using h
  subst this
  simp[List.findIdx?_cons,hx]
 |a::r,i+1,x,h,hx,hn=>by
  have h1:r[i]? = some x:=by simpa using h
  have hn2:(p a||(r.take i).any p)=false:=by simpa using hn
  rw[Bool.or_eq_false_iff] at hn2
  rw[List.findIdx?_cons,hn2.1,find_at h1 hx hn2.2];rfl
theorem find_none {α:Type} {p:α→Bool} {l:List α} (h:l.any p=false):l.findIdx? p=none:=by
 rw[List.findIdx?_eq_none_iff]
 exact fun x hx=>by simpa using List.any_eq_false.1 h x hx
theorem fit_pair (x y:Int):fitT Tryz.prog 66 (.agg [.int .i64 x,.int .i64 y])=true:=by kernel_rfl
theorem eq_pair (w e:Int) (q:Nat×Nat):eqPVs [.int .i64 w,.int .i64 e] [i64 q.1,i64 q.2]=isP w e q:=by
 show ((w==(q.1:Int)) && ((e==(q.2:Int)) && true))=bif (q.1:Int)==w then (q.2:Int)==e else false
 rw[Bool.and_true,show (w==(q.1:Int))=((q.1:Int)==w) by rw[Bool.eq_iff_iff,beq_iff_eq,beq_iff_eq];exact⟨Eq.symm,Eq.symm⟩,show (e==(q.2:Int))=((q.2:Int)==e) by rw[Bool.eq_iff_iff,beq_iff_eq,beq_iff_eq];exact⟨Eq.symm,Eq.symm⟩]
 cases ((q.1:Int)==w)<;>rfl
theorem sl_IndexP (l:List (Nat×Nat)) (w e:Int) (hl:l.length≤1000):PureFn Tryz.prog 64 [.sl (l.map pairPV),.agg [.int .i64 w,.int .i64 e]] (.int .i64 (ixP l w e)):=by
 refine PureFn.intro mixed (fn:=Tryz.f64) rfl rfl rfl fun M w0 => ?_
 try conv=>whnf
 refine⟨{ i:Nat // i≤l.length∧(l.take i).any (isP w e)=false },fun i=>[(0,.pv (.sl (l.map pairPV))),(3,.ref 0 0),(7,.pv (i64 (l.map pairPV).length)),(8,.pv (i64 i.1))],fun _=>1,fun _=>[(0,.var [.pv (.int .i64 w),.pv (.int .i64 e)])],fun i=>l.length-i.1,⟨⟨0,Nat.zero_le _,rfl⟩,(by refine Wk.of ?_ ?_ rfl rfl rfl<;>repeat' (first|exact trivial|exact WkD.same _|exact WkO.same _ _ rfl|refine⟨?_,?_⟩|fail))⟩,?_⟩
 rintro⟨i,hi,hn⟩
 (try conv=>whnf);repeat' (first|(apply And.intro<;>try conv=>whnf)|(intro h;try conv=>whnf)|(apply infoT;rfl)|(refine lin_plan (by kernel_rfl) ?_;try conv=>whnf)|fail)
 ·have hi':i<l.length:=by simpa using lt_dec h
  obtain⟨y,hy,hyw⟩:∃ y,l[i]? = some y∧l[i]=y:=⟨_,List.getElem?_eq_getElem hi',rfl⟩
  refine⟨_,_,rfl,idx_map hy,rfl,?_⟩
  (try conv=>whnf);repeat' (first|(apply And.intro<;>try conv=>whnf)|(intro h;try conv=>whnf)|(apply guardI;kernel_rfl)|fail)
  ·exact fit_pair _ _
  ·exact fit_pair _ _
  ·have hq:isP w e y=true:=by rw[← eq_pair];exact h
   rw[ixP,find_at hy hq hn]
   exact .refl _
  ·have hq:isP w e y=false:=by rw[← eq_pair];exact h
   exact⟨⟨i+1,hi',any_take hi' hn (by rw[hyw];exact hq)⟩,by show l.length-(i+1)<l.length-i;omega,(by refine Wk.of ?_ ?_ rfl rfl rfl<;>repeat' (first|exact trivial|exact WkD.same _|exact WkO.same _ _ rfl|refine WkD.int ?_|refine⟨?_,?_⟩|(refine wrapA ?_ ?_ ?_;(focus simp;done);(focus (try dsimp only);omega);(focus (try dsimp only);omega))|fail))⟩
 ·have hi':i=l.length:=by have:=ge_dec (m:=(l.map pairPV).length) h (by simpa using hi);simpa using this
  subst hi'
  rw[List.take_length] at hn
  rw[ixP,find_none hn]
  exact .refl _
theorem updI_len (m:Mo) (a:Act):(updI m a).2.1.length≤64:=by
 unfold updI
 cases ((worldsI m a).2 != 0) with
 |true=>exact Nat.zero_le _
 |false =>
  cases h:decide (((worldsI m a).1.length:Int)>64) with
  |true=>exact Nat.zero_le _
  |false =>
   have:=of_decide_eq_false h
   show (worldsI m a).1.length≤64
   omega
theorem pr_At (m:Mo) (w:Int) (a:Act) (e:Int) (hf:FitM m) (hfa:Fit a) (hl:a.rel.length≤1000) (hp:∀ l,l∈a.post→l.length≤1000):PureFn Tryz.prog 19 [m.pv,.int .i64 w,a.pv,.int .i64 e] (atPV (atI m w a e)):=by
 refine PureFn.introC [2,8,9] mixed (fn:=Tryz.f19) rfl rfl rfl fun M w0 => ?_
 have hU:=pr_Update m a hf hfa hl hp
 have hlen:=updI_len m a
 obtain⟨R,hR⟩:∃ R,R=atI m w a e:=⟨_,rfl⟩
 rw[← hR]
 rw[atI] at hR
 generalize updI m a=X at hU hlen hR
 obtain⟨p,l,c⟩:=X
 have hlen:l.length≤64:=hlen
 have hg:((p,l,c):Mo×List (Nat×Nat)×Int).2.2=c:=rfl
 rw[hg] at hR
 have e1:((a.pre.map fpv).length:Int)=(a.pre.length:Int):=by simp
 have hI:=sl_IndexP l w e (by omega)
 try conv=>whnf
 refine⟨Unit,fun _=>[(1,.pv (.int .i64 w)),(3,.pv (.int .i64 e)),(4,.ref 0 0),(6,.ref 1 0),(8,.ref 2 0),(11,.ref 3 0),(12,.pv (.sl (l.map pairPV))),(13,.pv (.int .i64 c))],fun _=>4,fun _=>[(0,.var (cellsM m)),(1,.var (cellsA a)),(2,.var cells0),(3,.var (cellsM p))],?_,?_⟩
 ·(try conv=>whnf);repeat' (first|(refine PureFn.dcq (f:=18) rfl ?_;try conv=>whnf)|(refine⟨_,_,hU,?_,?_⟩;(focus first|(refine⟨?_,?_,trivial⟩<;>first|exact PLe.refl _|exact PLe.nil)|exact trivial);try conv=>whnf)|fail)
  exact⟨(),(by refine Wk.of ?_ ?_ rfl rfl rfl<;>repeat' (first|exact trivial|exact WkD.same _|exact WkO.same _ _ rfl|refine⟨?_,?_⟩|fail))⟩
 rintro⟨⟩
 refine⟨{ _x:Unit // (c != 0)=false∧badW m w=false∧badEv a e=false },fun _=>[(1,.pv (.int .i64 w)),(3,.pv (.int .i64 e)),(8,.ref 2 0),(11,.ref 3 0),(12,.pv (.sl (l.map pairPV)))],fun _=>4,fun _=>[(2,.var cells0),(3,.var (cellsM p))],?_,?_⟩
 ·(try conv=>whnf);repeat' (first|(apply And.intro<;>try conv=>whnf)|(intro h;try conv=>whnf)|apply True.intro|(apply WhenQ.mk;(try conv=>whnf);rotate_left;(try conv=>whnf);rotate_right)|with_reducible assumption|(apply not_of;with_reducible assumption)|fail)
  ·have h0:(c != 0)=true:=h
   rw[hR,h0];exact PLe.tups ⟨le_noMo,.refl _,.refl _,trivial⟩
  ·rename_i h0
   rw[hR,show (c != 0)=false from h0,show badW m w=true from h];exact PLe.tups ⟨le_noMo,.refl _,.refl _,trivial⟩
  ·rename_i h0 h1
   have h9:badEv a e=true:=by rw[badEv,← e1];exact h
   rw[hR,show (c != 0)=false from h0,show badW m w=false from h1,h9];exact PLe.tups ⟨le_noMo,.refl _,.refl _,trivial⟩
  ·rename_i h0 h1
   have h9:badEv a e=false:=by rw[badEv,← e1];exact h
   exact⟨⟨(),h0,h1,h9⟩,(by refine Wk.of ?_ ?_ rfl rfl rfl<;>repeat' (first|exact trivial|exact WkD.same _|exact WkO.same _ _ rfl|refine⟨?_,?_⟩|fail))⟩
 rintro⟨_,h0,h1,h2⟩
 rw[h0,h1,h2] at hR
 have hR:R=match l.findIdx? (isP w e) with|none=>(noMo,0,11)|some i=>(p,(i:Int),0):=hR
 rw[ixP] at hI
 cases hx:l.findIdx? (isP w e) with
 |none =>
  rw[hx] at hI hR
  have hI:PureFn Tryz.prog 64 [.sl (l.map pairPV),.agg [.int .i64 w,.int .i64 e]] (.int .i64 (-1)):=hI
  rw[hR]
  refine⟨Unit,fun _=>[(8,.ref 2 0),(11,.ref 3 0),(14,.pv (.int .i64 (-1)))],fun _=>4,fun _=>[(2,.var cells0),(3,.var (cellsM p))],?_,?_⟩
  ·(try conv=>whnf);repeat' (first|(refine PureFn.dcq (f:=64) rfl ?_;try conv=>whnf)|(refine⟨_,_,hI,?_,?_⟩;(focus first|(refine⟨?_,?_,trivial⟩<;>first|exact PLe.refl _|exact PLe.nil)|exact trivial);try conv=>whnf)|fail)
   exact⟨(),(by refine Wk.of ?_ ?_ rfl rfl rfl<;>repeat' (first|exact trivial|exact WkD.same _|exact WkO.same _ _ rfl|refine⟨?_,?_⟩|fail))⟩
  rintro⟨⟩
  (try conv=>whnf);repeat' (first|(apply And.intro<;>try conv=>whnf)|(intro h;try conv=>whnf)|fail)
  ·exact PLe.tups ⟨le_noMo,.refl _,.refl _,trivial⟩
  ·simp at h
 |some i =>
  rw[hx] at hI hR
  have hI:PureFn Tryz.prog 64 [.sl (l.map pairPV),.agg [.int .i64 w,.int .i64 e]] (.int .i64 (i:Nat)):=hI
  rw[hR]
  refine⟨Unit,fun _=>[(8,.ref 2 0),(11,.ref 3 0),(14,.pv (i64 i))],fun _=>4,fun _=>[(2,.var cells0),(3,.var (cellsM p))],?_,?_⟩
  ·(try conv=>whnf);repeat' (first|(refine PureFn.dcq (f:=64) rfl ?_;try conv=>whnf)|(refine⟨_,_,hI,?_,?_⟩;(focus first|(refine⟨?_,?_,trivial⟩<;>first|exact PLe.refl _|exact PLe.nil)|exact trivial);try conv=>whnf)|fail)
   exact⟨(),(by refine Wk.of ?_ ?_ rfl rfl rfl<;>repeat' (first|exact trivial|exact WkD.same _|exact WkO.same _ _ rfl|refine⟨?_,?_⟩|fail))⟩
  rintro⟨⟩
  (try conv=>whnf);repeat' (first|(apply And.intro<;>try conv=>whnf)|(intro h;try conv=>whnf)|fail)
  ·have:=of_decide_eq_true h
   omega
  ·exact .refl _
set_option maxHeartbeats 8000000
def natsPV (l:List Nat):PV:=.sl (l.map i64)
def hisPV (ps:List (List Nat)):PV:=.sl (ps.map natsPV)
def longP (ps:List (List Nat)) (l:List (Nat×Nat)):List (List Nat):=l.map fun q=>ps.getD q.1 []++[q.2]
def startP (k:Nat):List (List Nat):=(List.range k).map fun w=>[w]
def seqF:Mo→List (List Nat)→List Act→Mo×List (List Nat)×Int
 |n,ps,[]=>(n,ps,0)
 |n,ps,a::r=>bif (updI n a).2.2 != 0 then (noMo,[],(updI n a).2.2) else seqF (updI n a).1 (longP ps (updI n a).2.1) r
def seqI (m:Mo) (l:List Act):Mo×List (List Nat)×Int:=bif moI m != 0 then (noMo,[],moI m) else seqF m (startP m.n.toNat) l
def seqPV (x:Mo×List (List Nat)×Int):PV:=.tup [x.1.pv,hisPV x.2.1,.int .i64 x.2.2]
theorem le_seq (e:Int):PLe (.tup [.agg [.int .i64 0,.nil,.nil],.nil,.int .i64 e]) (seqPV (noMo,[],e)):=PLe.tups ⟨le_noMo,.nil,.refl _,trivial⟩
structure SeqOk (n:Mo) (ps:List (List Nat)):Prop where
 fit:FitM n
 len:∀ k,OkM n k→k≤ps.length
 ne:∀ p,p∈ps→p≠[]
 few:ps.length≤64
 short:∀ p,p∈ps→p.length≤500
theorem upd_parts {n:Mo} {a:Act} (h:(updI n a).2.2=0):∃ k,OkM n k∧OkM (updI n a).1 (updI n a).2.1.length∧(updI n a).2.1.length≤64∧∀ q,q∈(updI n a).2.1→q.1<k:=by
 have hl:=updI_len n a
 have hw:(worldsI n a).2=0:=by
  cases hb:((worldsI n a).2 != 0) with
  |true=>rw[updI,hb] at h;exact h
  |false=>simpa using hb
 obtain⟨k1,k2,k3⟩:=worldsI_ok hw
 obtain⟨⟨k,hM⟩,hA⟩:=moaI_ok k1
 have hb:((worldsI n a).2 != 0)=false:=by rw[hw];rfl
 cases hc:decide (((worldsI n a).1.length:Int)>64) with
 |true=>rw[updI,hb,hc] at h;cases h
 |false =>
  have he:updI n a=(prodM n a (worldsI n a).1,(worldsI n a).1,0):=by rw[updI,hb,hc];rfl
  have h64:=of_decide_eq_false hc
  rw[he] at hl ⊢
  rw[k2] at hl ⊢
  refine⟨k,hM,prod_ok hM k3 hl,hl,fun q hq => ?_⟩
  rw[pairsL,hM.nn] at hq
  exact (pairsW_mem.1 hq).1
theorem SeqOk.next {n:Mo} {ps:List (List Nat)} {a:Act} (h:SeqOk n ps) (h0:(updI n a).2.2=0) (hs:∀ p,p∈ps→p.length≤499):SeqOk (updI n a).1 (longP ps (updI n a).2.1):=by
 obtain⟨k,h1,h2,h3,h4⟩:=upd_parts h0
 have hl:(longP ps (updI n a).2.1).length=(updI n a).2.1.length:=List.length_map _
 refine⟨h2.fit,fun j hj => ?_,fun p hp => ?_,by omega,fun p hp => ?_⟩
 ·have e1:=hj.nn
  have e2:=h2.nn
  omega
 ·obtain⟨q,_,rfl⟩:=List.mem_map.1 hp
  simp
 ·obtain⟨q,hq,rfl⟩:=List.mem_map.1 hp
  have hlt:=h4 q hq
  have:=h.len k h1
  have hm:ps.getD q.1 []∈ps:=by
   rw[List.getD_eq_getElem?_getD,List.getElem?_eq_getElem (show q.1<ps.length by omega)]
   exact List.getElem_mem _
  have:=hs _ hm
  rw[List.length_append];simp only[List.length_singleton];omega
theorem upd_bad {m:Mo} (h:moI m≠0) (a:Act):updI m a=(noMo,[],moI m):=by
 have hb:(moI m != 0)=true:=by simpa using h
 have h1:moaI m a=moI m:=by rw[moaI,hb];rfl
 have h2:worldsI m a=([],moI m):=by rw[worldsI,h1,hb];rfl
 rw[updI,h2,hb];rfl
theorem seq_bad {m:Mo} (h:moI m≠0) {ps:List (List Nat)} {a:Act} {l:List Act}:seqF m ps (a::l)=(noMo,[],moI m):=by
 rw[seqF,upd_bad h]
 show (bif moI m != 0 then _ else _)=_
 rw[show (moI m != 0)=true by simpa using h];rfl
theorem cells_i64 (l:List Nat):cellsAll 1 (l.map i64)=true:=by simp[cellsAll,i64,PV.cells,PV.one]
theorem pure_raw {P:Program} {f:FuncId} {p:PV} (hcb:callable P f=true) (h:∀ (M:Nat→Prop) (w0:W0) (ad:Option Addr) (c:Nat),DC P M w0 f [.raw (.slice ad 0 c)] noHeap fun d L'=>frz d L' fun q _=>PLe q p):PureFn P f [.sl []] p:=by
 refine PureFn.mk ⟨hcb,fun M w vs hG hM hrel => ?_⟩
 rcases vs with _|⟨v,_|⟨v2,vs⟩⟩
 ·have:=hrel.1;simp at this
 ·obtain⟨ad,c,rfl⟩:∃ ad c,v=.slice ad 0 c:=by
   have hv:=hrel.2 0 _ v rfl rfl
   generalize hlx:PV.sl []=pl at hv
   cases hv with
   |e0 a c=>exact⟨_,_,rfl⟩
   |sl b off sz cap l val g1 g2 g3 g4 g5 g6 =>
    cases hlx
    exact⟨_,_,rfl⟩
   |_=>cases hlx
  have hr:HR M ⟨w,fun _ _=>False⟩ (fun _=>⟨0,0⟩) noHeap w:=⟨Go.RowKit.Below.refl _ _,hM,fun k o hk=>(by cases hk),fun k o hk=>(by cases hk),fun k o k' o' hk=>(by cases hk),fun k o hk=>(by cases hk),Nat.le_refl _,Nat.le_refl _,hG⟩
  refine ((h M ⟨w,fun _ _=>False⟩ ad c).elim.2 _ w _ hr rfl ⟨rfl,fun i d v hd hv => ?_⟩).mono ?_
  ·cases i with
   |zero=>simp at hd hv;subst hd;subst hv;exact .raw _
   |succ i=>simp at hd
  ·rintro e w' (⟨v,he,μ',d,L',hK,hr',hv,hu,hs⟩|⟨v,_,μ',L',hX,_⟩)
   case inr=>exact hX.elim
   refine⟨v,he,?_,⟨hs.os,hs.tape,hs.output,hs.size,fun b hb=>hs.same b hb ?_⟩⟩
   ·obtain⟨q,L2,hq,hr2,_,h4⟩:=frz_rel d L' v _ hr' hv hu hK
    exact hq.rel (h4.sub fun b hb=>.inl hb)
   ·rintro⟨k,o,_,hk,_⟩
    cases hk
 ·have:=hrel.1;simp at this
theorem sl_CloneP (l:List Nat) (hl:l.length≤1000):PureFn Tryz.prog 80 [rowPV l] (rowPV l):=by
 cases l with
 |cons a r =>
  refine PureFn.intro mixed (fn:=Tryz.f80) rfl rfl rfl fun M w0 => ?_
  (try conv=>whnf);repeat' (first|(apply And.intro<;>try conv=>whnf)|(intro h;first|with_reducible exact ft0 h|try conv=>whnf)|(apply bleI;rfl)|(apply cellsI;rfl)|(apply szI;rfl)|fail)
  ·exact cells_u64 _
  ·show (List.map u64 (a::r)).length≤4294967296
   rw[List.length_map];omega
  ·exact PLe.refl _
 |nil =>
  have key:∀ (M:Nat→Prop) (w0:W0) (ad:Option Addr) (c:Nat),DC Tryz.prog M w0 80 [.raw (.slice ad 0 c)] noHeap fun d L'=>frz d L' fun q _=>PLe q (rowPV []):=by
   intro M w0 ad c
   cases ad with
   |none =>
    refine DC.intro mixed (fn:=Tryz.f80) rfl rfl rfl ?_
    (try conv=>whnf);repeat' (first|(apply And.intro<;>try conv=>whnf)|(intro h;try conv=>whnf)|(apply cellsI;rfl)|(apply szI;rfl)|fail)
    all_goals first|exact PLe.nil|exact PLe.refl _|exact Nat.zero_le _
   |some ad =>
    refine DC.intro mixed (fn:=Tryz.f80) rfl rfl rfl ?_
    (try conv=>whnf);repeat' (first|(apply And.intro<;>try conv=>whnf)|(intro h;try conv=>whnf)|(apply cellsI;rfl)|(apply szI;rfl)|fail)
    all_goals first|exact PLe.nil|exact PLe.refl _|exact Nat.zero_le _
  exact pure_raw rfl key
theorem sl_CloneI {M:Nat→Prop} {w0:W0} (l:List Nat) (h1:l≠[]) (hl:l.length≤1000) (L:DH) (K:DV→DH→Prop) (hK:K (.buf L.next (l.map i64).length) (L.push (.arr 1 (l.map i64)))) :
  DC Tryz.prog M w0 81 [.pv (natsPV l)] L K:=by
 cases l with
 |nil=>exact absurd rfl h1
 |cons a r =>
  refine DC.intro mixed (fn:=Tryz.f81) rfl rfl rfl ?_
  (try conv=>whnf);repeat' (first|(apply And.intro<;>try conv=>whnf)|(intro h;first|with_reducible exact ft0 h|try conv=>whnf)|(apply cellsI;rfl)|(apply szI;rfl)|fail)
  ·exact cells_i64 _
  ·show (List.map i64 (a::r)).length≤4294967296
   rw[List.length_map];omega
  ·exact hK
set_option maxHeartbeats 4000000
def foldC:Act→List Act→Act×Int
 |c,[]=>(c,0)
 |c,b::r=>bif (composeI c b).2 != 0 then (noAct,(composeI c b).2) else foldC (composeI c b).1 r
open Go.RowKit (Below)
def intsPV (l:List Nat):PV:=.sl (l.map i64)
def pullN (s:Nat) (ws:List Nat):Nat:=maskOf (fun i=>s.testBit (ws.getD i 0)) ws.length
theorem pull_step {q:Nat→Bool} {s w i:Nat} (hs:s<2^64) (hw:w<64) (hi:i<64) (hq:q i=s.testBit w):orU (maskOf q i:Nat) (shlU (andU (shrU (s:Nat) (w:Nat)) 1) (i:Nat))=((maskOf q (i+1):Nat):Int):=by
 rw[bit_and s w hs hw]
 cases h:s.testBit w with
 |true=>rw[if_pos rfl];exact or_shl hi (by rw[hq,h])
 |false =>
  rw[if_neg (by decide),← mask_no (q:=q) (w:=i) (by rw[hq,h]),show shlU 0 (i:Nat)=((0:Nat):Int) by show IntKind.wrap .u64 (0*_)=0;rw[Int.zero_mul];rfl,orU_nat (mask_lt64 q (by omega)) (by decide),Nat.or_zero]
theorem u_mod:∃ fs:Array Field,Tryz.prog.underlying 25=some (.struct fs)∧fs.toList.map (·.type)=[3,22,23]:=⟨_,rfl,by kernel_rfl⟩
theorem arg_mod {n:Nat} {p:PV} (h:TyA Tryz.prog (n+4) 25 p):∃ m:Mo,PLe p m.pv∧FitM m:=by
 obtain⟨cs,h,rfl⟩:=h
 obtain⟨fs,hu,hf⟩:=u_mod
 have hm:mkE Tryz.prog 25 cs=.agg cs:=by simp only[mkE,kindT,hu]
 obtain⟨a,b,r1,rfl,h1,hb,m1⟩:=fs_cons hf (tyS (n:=n+3) hu h)
 obtain⟨c,d,r2,rfl,h2,hd,m2⟩:=fs_cons m1 hb
 obtain⟨e,g,r3,rfl,h3,hg,m3⟩:=fs_cons m2 hd
 have:=fs_nil m3 hg
 subst this
 obtain⟨w,rfl,_⟩:=int_of (n:=n+2) h1
 obtain⟨val,q2,rfl,l2,hv⟩:=slice_of (n:=n+2) (g:=u64) (Q:=fun s=>s<2^64) u_rowT (u64_el (n:=n+1)) h2
 obtain⟨rel,q3,rfl,l3,hr⟩:=slice_of (n:=n+2) (g:=rowPV) (Q:=fun r=>∀ s,s∈r→s<2^64) u_relT (fun p hp=>el_of (n:=n+1) u_rowT (u64_el (n:=n)) p hp) h3
 refine⟨⟨w,val,rel⟩,?_,hv,hr⟩
 rw[hm]
 exact PLe.aggs ⟨.refl _,l2,l3,trivial⟩
theorem getD_map_range {β:Type} {f:Nat→β} {n i:Nat} {d:β} (h:i<n):((List.range n).map f).getD i d=f i:=by
 rw[List.getD_eq_getElem?_getD,List.getElem?_map,List.getElem?_range h];rfl
def pubA (A:Nat) (f:List Nd):Act:=⟨[comp f],[[]],onesL A⟩
theorem orN_in {m:Nd→Nat}:∀ {c:List Nd} {y:Nd},y∈c→Sub (m y) (orN m c)
 |x::r,y,h=>by
  rw[orN_cons]
  intro i hi
  rw[Nat.testBit_or,Bool.or_eq_true]
  rcases List.mem_cons.1 h with rfl|h
  ·exact .inl hi
  ·exact .inr (orN_in h i hi)
section
variable {n N:Nat} {φ:Nat→Nat}
end
section
variable {m p:Mo} {n N:Nat} {φ:Nat→Nat}
theorem OkM.get {m:Mo} {n:Nat} (h:OkM m n) (a w:Nat):(m.rel.getD a []).getD w 0<2^n:=by
 rw[List.getD_eq_getElem?_getD (l:=m.rel)]
 cases hr:m.rel[a]? with
 |none=>simp;exact Nat.two_pow_pos _
 |some r=>exact getD_lt2 (h.bits r (List.mem_iff_getElem?.2 ⟨a,hr⟩)) w
theorem join_or {rel:List (List Nat)} {g:Int} {w j:Nat}:∀ i,(joinA orF rel g 0 w i).testBit j=true↔∃ a,a<i∧(and64 (shr64 g a) 1==1)=true∧((rel.getD a []).getD w 0).testBit j=true
 |0=>by
  rw[joinA,Nat.zero_testBit]
  exact⟨fun h=>(by cases h),fun ⟨a,h,_⟩=>(by omega)⟩
 |i+1=>by
  have ih:=join_or (rel:=rel) (g:=g) (w:=w) (j:=j) i
  rw[joinA]
  cases hg:(and64 (shr64 g i) 1==1) with
  |false =>
   rw[cond_false,ih]
   constructor
   ·rintro⟨a,h1,h2⟩;exact⟨a,by omega,h2⟩
   ·rintro⟨a,h1,h2,h3⟩
    by_cases e:a=i
    ·rw[e,hg] at h2;cases h2
    ·exact⟨a,by omega,h2,h3⟩
  |true =>
   rw[cond_true,orF,Nat.testBit_or,Bool.or_eq_true,ih]
   constructor
   ·rintro (⟨a,h1,h2⟩|h)
    ·exact⟨a,by omega,h2⟩
    ·exact⟨i,by omega,hg,h⟩
   ·rintro⟨a,h1,h2,h3⟩
    by_cases e:a=i
    ·exact .inr (by rw[← e];exact h3)
    ·exact .inl ⟨a,by omega,h2,h3⟩
theorem join_and {rel:List (List Nat)} {g:Int} {n w j:Nat}:∀ i,(joinA andF rel g (2^n-1) w i).testBit j=true↔j<n∧∀ a,a<i→(and64 (shr64 g a) 1==1)=true→((rel.getD a []).getD w 0).testBit j=true
 |0=>by
  rw[joinA,Nat.testBit_two_pow_sub_one,decide_eq_true_eq]
  exact⟨fun h=>⟨h,fun a h=>(by omega)⟩,fun h=>h.1⟩
 |i+1=>by
  have ih:=join_and (rel:=rel) (g:=g) (n:=n) (w:=w) (j:=j) i
  rw[joinA]
  cases hg:(and64 (shr64 g i) 1==1) with
  |false =>
   rw[cond_false,ih]
   refine and_congr_right fun _=>⟨fun h a h1 h2 => ?_,fun h a h1 h2=>h a (by omega) h2⟩
   by_cases e:a=i
   ·rw[e,hg] at h2;cases h2
   ·exact h a (by omega) h2
  |true =>
   rw[cond_true,andF,Nat.testBit_and,Bool.and_eq_true,ih]
   constructor
   ·rintro⟨⟨h0,h1⟩,h2⟩
    refine⟨h0,fun a h3 h4 => ?_⟩
    by_cases e:a=i
    ·rw[e];exact h2
    ·exact h1 a (by omega) h4
   ·rintro⟨h0,h1⟩
    exact⟨⟨h0,fun a h3 h4=>h1 a (by omega) h4⟩,h1 i (by omega) hg⟩
theorem grpM_get {op:Nat→Nat→Nat} {m:Mo} {g:Int} {first n w:Nat} (hM:OkM m n) (hb:badGM m g=false) (hw:w<n):(grpM op m g first).getD w 0=joinA op m.rel g first w m.rel.length:=by
 rw[grpM,hb,hM.nn,Int.toNat_natCast]
 exact getD_map_range hw
theorem grpM_lt {op:Nat→Nat→Nat} {m:Mo} {n:Nat} (hM:OkM m n) (hop:∀ x y,x<2^n→y<2^n→op x y<2^n) {g:Int} {first:Nat} (hfi:first<2^n) (w:Nat):(grpM op m g first).getD w 0<2^n:=by
 cases hb:badGM m g with
 |true=>rw[grpM,hb,cond_true,List.getD_nil];exact Nat.two_pow_pos _
 |false =>
  have hg':=hb
  unfold badGM at hg'
  rw[ok_moI hM] at hg'
  by_cases q1:g<1
  ·rw[decide_eq_true q1] at hg';cases hg'
  ·rw[decide_eq_false q1] at hg'
   have:=of_decide_eq_false (show decide (g≥shl64 1 (m.rel.length:Int))=false from hg')
   exact getD_lt2 (grp_facts hM hop hfi (by omega) (by omega)).2 w
theorem andF_lt (n:Nat):∀ x y,x<2^n→y<2^n→andF x y<2^n:=fun x _ _ h2=>Nat.and_lt_two_pow x h2
theorem pow_less (n:Nat):2^n-1<2^n:=by have:=Nat.two_pow_pos n;omega
theorem holds_split {m:Mo} {f:List Nd} (h:(holdsI m f).2=0):reqI m f=0∧holdsI m f=(vlT m m.n.toNat (root f),0):=by
 by_cases q:reqI m f=0
 ·exact⟨q,by rw[holdsI,q];rfl⟩
 ·rw[holdsI,show (reqI m f != 0)=true by simpa using q] at h
  exact absurd h q
end
section
variable {acts:List Act} {m:Mo} {n:Nat} {a b g:Tr}
theorem notN_bit {n s w:Nat}:(notN n s).testBit w=(decide (w<n) && !s.testBit w):=by rw[notN,maskOf_bit]
end
theorem getD_past {α:Type} {l:List α} {i:Nat} {d:α} (h:l.length≤i):l.getD i d=d:=by
 rw[List.getD_eq_getElem?_getD,List.getElem?_eq_none h];rfl
def swT:Tr→Prop
 |.none=>True
 |.nd op _ _ _ a b=>(1≤op∧op≤13)∧(usesX op=true→a≠.none)∧(usesY op=true→b≠.none)∧swT a∧swT b
section
variable {s n:Nat} (hs:s<2^n)
theorem notN_out {t v:Nat} (hv:v<n) (h:s.testBit v=false):(notN n (s&&&t)).testBit v=true:=by
 rw[notN_bit,Nat.testBit_and,h,decide_eq_true hv];rfl
end
section
variable {m:Mo} {n s:Nat} (hM:OkM m n) (hs:s<2^n) (h0:s≠0)
theorem vl7 (x y:Nat) (i g:Int):vlN m n 7 i g x y=notN n x |||y:=rfl
theorem vl5 (x y:Nat) (i g:Int):vlN m n 5 i g x y=x&&&y:=rfl
end
def frT (A F:Nat):Tr→Prop
 |.none=>True
 |.nd op i _ g a b=>(op=3→0≤i∧i.toNat<F)∧(isGroup op=true→1≤g∧g<shl64 1 (A:Int))∧op≠13∧frT A F a∧frT A F b
theorem join_and' {rel:List (List Nat)} {g:Int} {first w j:Nat}:∀ i,(joinA (fun x y=>x&&&y) rel g first w i).testBit j=true↔first.testBit j=true∧∀ a,a<i→(and64 (shr64 g a) 1==1)=true→((rel.getD a []).getD w 0).testBit j=true
 |0=>by
  rw[joinA]
  exact⟨fun h=>⟨h,fun a h=>(by omega)⟩,fun h=>h.1⟩
 |i+1=>by
  have ih:=join_and' (rel:=rel) (g:=g) (first:=first) (w:=w) (j:=j) i
  rw[joinA]
  cases hg:(and64 (shr64 g i) 1==1) with
  |false =>
   rw[cond_false,ih]
   refine and_congr_right fun _=>⟨fun h a h1 h2 => ?_,fun h a h1 h2=>h a (by omega) h2⟩
   by_cases e:a=i
   ·rw[e,hg] at h2;cases h2
   ·exact h a (by omega) h2
  |true =>
   rw[cond_true,Nat.testBit_and,Bool.and_eq_true,ih]
   constructor
   ·rintro⟨⟨h0,h1⟩,h2⟩
    refine⟨h0,fun a h3 h4 => ?_⟩
    by_cases e:a=i
    ·rw[e];exact h2
    ·exact h1 a (by omega) h4
   ·rintro⟨h0,h1⟩
    exact⟨⟨h0,fun a h3 h4=>h1 a (by omega) h4⟩,h1 i (by omega) hg⟩
theorem fold5 {m:Mo} {n w:Nat}:∀ (r:List Tr) (t:Tr),(vlT m n (r.foldl (fun a g=>.nd 5 0 0 0 a g) t)).testBit w=true↔(vlT m n t).testBit w=true∧∀ x,x∈r→(vlT m n x).testBit w=true
 | [],t=>by simp
 |x::r,t=>by
  rw[List.foldl_cons,fold5 r,vlT,vl5,Nat.testBit_and,Bool.and_eq_true]
  simp[and_assoc]
theorem fold6 {m:Mo} {n w:Nat}:∀ (r:List Tr) (t:Tr),(vlT m n (r.foldl (fun a g=>.nd 6 0 0 0 a g) t)).testBit w=true↔(vlT m n t).testBit w=true∨∃ x,x∈r∧(vlT m n x).testBit w=true
 | [],t=>by simp
 |x::r,t=>by
  rw[List.foldl_cons,fold6 r,vlT,show vlN m n 6 0 0 (vlT m n t) (vlT m n x)=vlT m n t |||vlT m n x from rfl,Nat.testBit_or,Bool.or_eq_true]
  simp[or_assoc]
theorem con_bit {m:Mo} {n w:Nat} (hw:w<n) {l:List Tr}:(vlT m n (conjT 5 tT l)).testBit w=true↔∀ x,x∈l→(vlT m n x).testBit w=true:=by
 cases l with
 |nil =>
  show (2^n-1).testBit w=true↔_
  rw[all_bit hw];simp
 |cons t r =>
  rw[conjT,fold5];simp
theorem dis_bit {m:Mo} {n w:Nat} {l:List Tr}:(vlT m n (conjT 6 fT l)).testBit w=true↔∃ x,x∈l∧(vlT m n x).testBit w=true:=by
 cases l with
 |nil =>
  show (0:Nat).testBit w=true↔_
  simp
 |cons t r =>
  rw[conjT,fold6];simp
theorem valI_fit {m:Mo} {a:Act} (h:moaI m a=0) {e i:Nat} (he:e<a.pre.length) (hi:i<m.val.length):statI m.rel.length m.val.length (valI a e i).1=0:=by
 obtain⟨⟨n,hM⟩,hA⟩:=moaI_ok h
 have h1:=(act_alone hM.fa hA).1
 have hF:=hM.fa
 have h2:badEv a (e:Int)=false:=by
  unfold badEv
  rw[decide_eq_false (by omega),decide_eq_false (by omega)];rfl
 have h3:badF (i:Int)=false:=by
  unfold badF
  rw[decide_eq_false (by omega),decide_eq_false (by omega)];rfl
 rw[valI,h1,h2,h3]
 show statI _ _ (valL (i:Int) (a.post.getD (e:Int).toNat []))=0
 rw[Int.toNat_natCast]
 exact valL_fit hi hF (chgs_stat ((evs_all (actI_ok hA).ev).2 e he))
section
variable {m:Mo} {n:Nat} {a:Act} {l:List (Nat×Nat)}
structure Pr (m:Mo) (n:Nat) (a:Act) (l:List (Nat×Nat)):Prop where
 okm:OkM m n
 act:actI a m.rel.length m.val.length=0
 mem:∀ w e,(w,e)∈l↔w<n∧e<a.pre.length∧(possP m a e).testBit w=true
 pos:1≤l.length
 len:l.length≤64
theorem Pr.moa (h:Pr m n a l):moaI m a=0:=by rw[moaI,ok_moI h.okm];exact h.act
theorem Pr.pre (h:Pr m n a l) {e:Nat} (he:e<a.pre.length):possP m a e=vlT m n (root (a.pre.getD e [])):=by
 have h1:=(pre_holds h.moa he).1
 have h2:=(holds_split (m:=m) (f:=a.pre.getD e []) (by rw[h1])).2
 rw[h2,h.okm.nn,Int.toNat_natCast] at h1
 exact (congrArg Prod.fst h1).symm
theorem Pr.okp (h:Pr m n a l):OkM (prodM m a l) l.length:=prod_ok h.okm h.pos h.len
theorem Pr.rl (h:Pr m n a l):a.rel.length=m.rel.length:=(act_alone h.okm.fa h.act).2
def AgE (l:List (Nat×Nat)) (x:Nat) (T:Nat→Nat):Prop:=∀ k w e,l[k]? = some (w,e)→x.testBit k=(T e).testBit w
def OutE (m:Mo) (n:Nat) (a:Act) (T:Nat→Nat):Prop:=∀ e,e<a.pre.length→∀ v,v<n→(possP m a e).testBit v=false→(T e).testBit v=true
theorem pr_at (h:Pr m n a l) {k w e:Nat} (hk:l[k]? = some (w,e)):k<l.length∧w<n∧e<a.pre.length∧(possP m a e).testBit w=true :=
 ⟨(List.getElem?_eq_some_iff.1 hk).1,(h.mem w e).1 (List.mem_iff_getElem?.2 ⟨k,hk⟩)⟩
def RowG (l:List (Nat×Nat)) (R r q:List Nat):Prop:=∀ k w e,l[k]? = some (w,e)→∀ j,(R.getD k 0).testBit j=true↔∃ v d,l[j]? = some (v,d)∧(r.getD w 0).testBit v=true∧(q.getD e 0).testBit d=true
theorem pg_box (h:Pr m n a l) {R r q:List Nat} (hr:∀ w,r.getD w 0<2^n) (hR:RowG l R r q) {x:Nat} {T:Nat→Nat} (hx:AgE l x T) (ho:OutE m n a T) {k w e:Nat} (hk:l[k]? = some (w,e)) :
  (boxN l.length R x).testBit k=true↔∀ d,d∈evsL (q.getD e 0) a.pre.length→(boxN n r (T d)).testBit w=true:=by
 obtain⟨h1,h2,_,_⟩:=pr_at h hk
 rw[boxN_bit]
 constructor
 ·rintro⟨_,g⟩ d hd
  rw[boxN_bit]
  refine⟨h2,fun v hv => ?_⟩
  obtain⟨d1,d2⟩:=List.mem_filter.1 hd
  have d1:=List.mem_range.1 d1
  have hvn:=bit_lt (hr w) hv
  cases hb:(possP m a d).testBit v with
  |false=>exact ho d d1 v hvn hb
  |true =>
   obtain⟨j,hj⟩:=List.mem_iff_getElem?.1 ((h.mem v d).2 ⟨hvn,d1,hb⟩)
   rw[← hx j v d hj]
   exact g j ((hR k w e hk j).2 ⟨v,d,hj,hv,d2⟩)
 ·intro g
  refine⟨h1,fun j hj => ?_⟩
  obtain⟨v,d,g1,g2,g3⟩:=(hR k w e hk j).1 hj
  rw[hx j v d g1]
  have:=g d (List.mem_filter.2 ⟨List.mem_range.2 (pr_at h g1).2.2.1,g3⟩)
  exact (boxN_bit.1 this).2 v g2
theorem prod_rel {i:Nat} (hi:i<m.rel.length):(prodM m a l).rel.getD i []=l.map (rowP (m.rel.getD i []) (a.rel.getD i []) l):=by
 rw[prodM]
 exact getD_map_range hi
theorem getD_ofX {α:Type} {l:List α} {k:Nat} {d x:α} (h:l[k]? = some x):l.getD k d=x:=by rw[List.getD_eq_getElem?_getD,h];rfl
theorem pr_row (h:Pr m n a l) (i:Nat):RowG l ((prodM m a l).rel.getD i []) (m.rel.getD i []) (a.rel.getD i []):=fun k w e hk j=>by
 by_cases hi:i<m.rel.length
 ·rw[prod_rel hi,prow_bit (pr_at h hk).1,seesP_iff,getD_ofX hk]
  constructor
  ·rintro⟨h1,h2,h3⟩
   exact⟨(l.getD j (0,0)).1,(l.getD j (0,0)).2,getD_mem h1,h2,h3⟩
  ·rintro⟨v,d,h1,h2,h3⟩
   rw[getD_ofX h1]
   exact⟨(List.getElem?_eq_some_iff.1 h1).1,h2,h3⟩
 ·have el:(prodM m a l).rel.length=m.rel.length:=by simp[prodM]
  rw[getD_past (l:=m.rel) (i:=i) (by omega),getD_past (l:=(prodM m a l).rel) (i:=i) (by omega)]
  simp
theorem pr_bad (h:Pr m n a l) (g:Int):badGM (prodM m a l) g=badGM m g:=by
 rw[badGM,badGM,ok_moI h.okm,ok_moI h.okp,show (prodM m a l).rel.length=m.rel.length by simp[prodM]]
theorem bad_no (h:OkM m n) {g:Int} (hg:1≤g∧g<shl64 1 (m.rel.length:Int)):badGM m g=false:=by
 rw[badGM,ok_moI h,decide_eq_false (by omega),decide_eq_false (by omega)];rfl
theorem pr_every (h:Pr m n a l) {g:Int} (hg:badGM m g=false) {x k w e:Nat} (hk:l[k]? = some (w,e)) :
  (boxN l.length (grpM orF (prodM m a l) g 0) x).testBit k=true↔∀ j,j<m.rel.length→(and64 (shr64 g j) 1==1)=true→(boxN l.length ((prodM m a l).rel.getD j []) x).testBit k=true:=by
 have hk1:=(pr_at h hk).1
 have hrl:(prodM m a l).rel.length=m.rel.length:=by simp[prodM]
 rw[boxN_bit,grpM_get h.okp (by rw[pr_bad h,hg]) hk1,hrl]
 constructor
 ·rintro⟨_,g1⟩ j hj hb
  rw[boxN_bit]
  exact⟨hk1,fun v hv=>g1 v ((join_or _).2 ⟨j,hj,hb,hv⟩)⟩
 ·intro g1
  refine⟨hk1,fun v hv => ?_⟩
  obtain⟨j,hj,hb,hv⟩:=(join_or _).1 hv
  exact (boxN_bit.1 (g1 j hj hb)).2 v hv
theorem meet_get (h:Pr m n a l) {g:Int} (hg:1≤g∧g<shl64 1 (m.rel.length:Int)) {e:Nat} (he:e<a.pre.length) {d:Nat}:((meetL a g).getD e 0).testBit d=true↔d<a.pre.length∧∀ j,j<m.rel.length→(and64 (shr64 g j) 1==1)=true→((a.rel.getD j []).getD e 0).testBit d=true:=by
 have hal:=act_alone h.okm.fa h.act
 have hE:=(actI_ok h.act).n8
 have hb:badGr a g=false:=by
  rw[badGr,hal.1,h.rl,decide_eq_false (by omega),decide_eq_false (by omega)];rfl
 rw[meetL,togL,hb,cond_false,getD_map_range he,join_and',h.rl,allW_is _ (by omega),Nat.testBit_two_pow_sub_one,decide_eq_true_eq]
theorem pr_dist (h:Pr m n a l) {g:Int} (hg:1≤g∧g<shl64 1 (m.rel.length:Int)):RowG l (grpM andF (prodM m a l) g (2^l.length-1)) (grpM andF m g (2^n-1)) (meetL a g):=fun k w e hk j=>by
 obtain⟨k1,k2,k3,_⟩:=pr_at h hk
 have hb:=bad_no h.okm hg
 have hrl:(prodM m a l).rel.length=m.rel.length:=by simp[prodM]
 rw[grpM_get h.okp (by rw[pr_bad h,hb]) k1,join_and,hrl]
 constructor
 ·rintro⟨h1,h2⟩
  have hj:=getD_mem h1 (d:=(0,0))
  obtain⟨_,j2,j3,_⟩:=pr_at h (w:=(l.getD j (0,0)).1) (e:=(l.getD j (0,0)).2) hj
  refine⟨(l.getD j (0,0)).1,(l.getD j (0,0)).2,hj,?_,?_⟩
  ·rw[grpM_get h.okm hb k2,join_and]
   refine⟨j2,fun b h3 h4 => ?_⟩
   obtain⟨v,d,g1,g2,_⟩:=(pr_row h b k w e hk j).1 (h2 b h3 h4)
   rw[hj] at g1
   obtain⟨rfl,rfl⟩:=Prod.mk.inj (Option.some.inj g1)
   exact g2
  ·rw[meet_get h hg k3]
   refine⟨j3,fun b h3 h4 => ?_⟩
   obtain⟨v,d,g1,_,g2⟩:=(pr_row h b k w e hk j).1 (h2 b h3 h4)
   rw[hj] at g1
   obtain⟨rfl,rfl⟩:=Prod.mk.inj (Option.some.inj g1)
   exact g2
 ·rintro⟨v,d,h1,h2,h3⟩
  rw[grpM_get h.okm hb k2,join_and] at h2
  rw[meet_get h hg k3] at h3
  exact⟨(List.getElem?_eq_some_iff.1 h1).1,fun b g1 g2=>(pr_row h b k w e hk j).2 ⟨v,d,h1,h2.2 b g1 g2,h3.2 b g1 g2⟩⟩
theorem kno_bit {i e w:Nat} (hw:w<n) {X:Nat→Tr}:(vlT m n (knoT a i e X)).testBit w=true↔∀ d,d∈sees a i e→(boxN n (m.rel.getD i []) (vlT m n (X d))).testBit w=true:=by
 rw[knoT,con_bit hw]
 constructor
 ·intro h d hd
  have:=h _ (List.mem_map.2 ⟨d,hd,rfl⟩)
  rw[vlT] at this
  rw[show vlN m n 9 (i:Int) 0 (vlT m n (X d)) (vlT m n .none)=boxN n (m.rel.getD (i:Int).toNat []) (vlT m n (X d)) from rfl,Int.toNat_natCast] at this
  exact this
 ·intro h x hx
  obtain⟨d,hd,rfl⟩:=List.mem_map.1 hx
  rw[vlT,show vlN m n 9 (i:Int) 0 (vlT m n (X d)) (vlT m n .none)=boxN n (m.rel.getD (i:Int).toNat []) (vlT m n (X d)) from rfl,Int.toNat_natCast]
  exact h d hd
theorem aft_out (h:Pr m n a l) {t:Tr} (ht:t≠.none):OutE m n a fun e=>vlT m n (aftT a t e):=fun e he v hv hb=>by
 cases t with
 |none=>exact absurd rfl ht
 |nd op i e' g x y =>
  show (vlT m n (.nd 7 0 0 0 (root (a.pre.getD e [])) _)).testBit v=true
  rw[vlT,vl7,Nat.testBit_or,notN_bit,← h.pre he,hb,decide_eq_true hv];rfl
theorem vl_dia {i:Int} {P t:Tr}:vlT m n (.nd 10 i 0 0 (.nd 5 0 0 0 P t) .none)=diaN n (m.rel.getD i.toNat []) (vlT m n P&&&vlT m n t):=rfl
theorem aft_ag (h:Pr m n a l):∀ t,swT t→frT m.rel.length m.val.length t→AgE l (vlT (prodM m a l) l.length t) fun e=>vlT m n (aftT a t e)
 |.none,_,_=>fun k w e _=>by
  show (0:Nat).testBit k=(0:Nat).testBit w
  rw[Nat.zero_testBit,Nat.zero_testBit]
 |.nd op i e' g x y,hw,hf=>by
  obtain⟨⟨o1,o2⟩,n1,n2,w1,w2⟩:=hw
  obtain⟨f3,fg,f13,fx,fy⟩:=hf
  have hx:=aft_ag h x w1 fx
  have hy:=aft_ag h y w2 fy
  have hout:usesX op=true→OutE m n a fun e=>vlT m n (aftT a x e):=fun u=>aft_out h (n1 u)
  intro k w e hk
  obtain⟨k1,k2,k3,k4⟩:=pr_at h hk
  show (vlN (prodM m a l) l.length op i g (vlT (prodM m a l) l.length x) (vlT (prodM m a l) l.length y)).testBit k=(vlT m n (.nd 7 0 0 0 (root (a.pre.getD e [])) _)).testBit w
  rw[vlT,vl7,Nat.testBit_or,notN_bit,← h.pre k3,k4,Bool.not_true,Bool.and_false,Bool.false_or]
  generalize vlT (prodM m a l) l.length x=p at hx ⊢
  generalize vlT (prodM m a l) l.length y=q at hy ⊢
  have hxe:=hx k w e hk
  have hye:=hy k w e hk
  have:op=1∨op=2∨op=3∨op=4∨op=5∨op=6∨op=7∨op=8∨op=9∨op=10∨op=11∨op=12∨op=13:=by omega
  rcases this with rfl|rfl|rfl|rfl|rfl|rfl|rfl|rfl|rfl|rfl|rfl|rfl|rfl
  ·show (2^l.length-1).testBit k=(2^n-1).testBit w
   rw[all_bit k1,all_bit k2]
  ·show (0:Nat).testBit k=(0:Nat).testBit w
   rw[Nat.zero_testBit,Nat.zero_testBit]
  ·show ((prodM m a l).val.getD i.toNat 0).testBit k=(vlT m n (root (valI a e i).1)).testBit w
   obtain⟨i0,i1⟩:=f3 rfl
   have hi:((i.toNat:Nat):Int)=i:=by omega
   have hv:(prodM m a l).val.getD i.toNat 0=valP m a l i.toNat:=by rw[prodM];exact getD_map_range i1
   rw[hv,valP,maskOf_bit,decide_eq_true k1,Bool.true_and,getD_ofX hk]
   show (valuP m a e i.toNat).testBit w=_
   have hok:=valI_fit h.moa k3 i1
   rw[hi] at hok
   have hr:reqI m (valI a e i).1=0:=by rw[reqI,ok_moI h.okm];exact hok
   rw[valuP,hi,holdsI,hr,h.okm.nn,Int.toNat_natCast];rfl
  ·show (notN l.length p).testBit k=(notN n (vlT m n (aftT a x e))).testBit w
   rw[notN_bit,notN_bit,decide_eq_true k1,decide_eq_true k2,hxe]
  ·show (p&&&q).testBit k=(vlT m n (aftT a x e)&&&vlT m n (aftT a y e)).testBit w
   rw[Nat.testBit_and,Nat.testBit_and,hxe,hye]
  ·show (p |||q).testBit k=(vlT m n (aftT a x e) |||vlT m n (aftT a y e)).testBit w
   rw[Nat.testBit_or,Nat.testBit_or,hxe,hye]
  ·show (notN l.length p |||q).testBit k=(notN n (vlT m n (aftT a x e)) |||vlT m n (aftT a y e)).testBit w
   rw[Nat.testBit_or,Nat.testBit_or,notN_bit,notN_bit,decide_eq_true k1,decide_eq_true k2,hxe,hye]
  ·show (notN l.length (p ^^^ q)).testBit k=(notN n (vlT m n (aftT a x e) ^^^ vlT m n (aftT a y e))).testBit w
   rw[notN_bit,notN_bit,decide_eq_true k1,decide_eq_true k2,Nat.testBit_xor,Nat.testBit_xor,hxe,hye]
  ·show (boxN l.length ((prodM m a l).rel.getD i.toNat []) p).testBit k=(vlT m n (knoT a i.toNat e (aftT a x))).testBit w
   rw[Bool.eq_iff_iff,kno_bit k2]
   exact pg_box h (h.okm.get _) (pr_row h _) hx (hout rfl) hk
  ·show (diaN l.length ((prodM m a l).rel.getD i.toNat []) p).testBit k=(vlT m n (conjT 6 fT ((sees a i.toNat e).map fun d=>.nd 10 i 0 0 (.nd 5 0 0 0 (root (a.pre.getD d [])) (aftT a x d)) .none))).testBit w
   rw[Bool.eq_iff_iff,dis_bit,diaN,notN_bit,decide_eq_true k1,Bool.true_and,Bool.not_eq_true']
   have hb:=pg_box (x:=notN l.length p) (T:=fun d=>notN n (possP m a d&&&vlT m n (aftT a x d))) h (h.okm.get i.toNat) (pr_row h i.toNat) (fun j v d hj=>by
     obtain⟨j1,j2,_,j4⟩:=pr_at h hj
     show (notN l.length p).testBit j=(notN n (possP m a d&&&vlT m n (aftT a x d))).testBit v
     have hq:p.testBit j=(vlT m n (aftT a x d)).testBit v:=hx j v d hj
     rw[notN_bit,notN_bit,decide_eq_true j1,decide_eq_true j2,Nat.testBit_and,j4,Bool.true_and,hq,Bool.true_and,Bool.true_and]) (fun d hd v hv hb=>notN_out hv hb) hk
   constructor
   ·intro hn
    apply Classical.byContradiction
    intro hno
    have:(boxN l.length ((prodM m a l).rel.getD i.toNat []) (notN l.length p)).testBit k=true:=hb.2 fun d hd=>by
     cases hbb:(boxN n (m.rel.getD i.toNat []) (notN n (possP m a d&&&vlT m n (aftT a x d)))).testBit w with
     |true=>rfl
     |false =>
      exfalso
      refine hno ⟨_,List.mem_map.2 ⟨d,hd,rfl⟩,?_⟩
      rw[vl_dia,← h.pre (evs_lt hd),diaN,notN_bit,decide_eq_true k2,hbb];rfl
    rw[hn] at this;cases this
   ·rintro⟨t,ht,htw⟩
    obtain⟨d,hd,rfl⟩:=List.mem_map.1 ht
    rw[vl_dia,← h.pre (evs_lt hd),diaN,notN_bit,Bool.and_eq_true,Bool.not_eq_true'] at htw
    cases hbb:(boxN l.length ((prodM m a l).rel.getD i.toNat []) (notN l.length p)).testBit k with
    |false=>rfl
    |true =>
     have:=hb.1 hbb d hd
     rw[htw.2] at this;cases this
  ·show (boxN l.length (grpM orF (prodM m a l) g 0) p).testBit k=(vlT m n (conjT 5 tT ((grpL a g).map fun j=>knoT a j e (aftT a x)))).testBit w
   rw[Bool.eq_iff_iff,pr_every h (bad_no h.okm (fg rfl)) hk,con_bit k2]
   constructor
   ·intro g1 t ht
    obtain⟨j,hj,rfl⟩:=List.mem_map.1 ht
    obtain⟨j1,j2⟩:=List.mem_filter.1 hj
    rw[kno_bit k2]
    exact (pg_box h (h.okm.get _) (pr_row h _) hx (hout rfl) hk).1 (g1 j (by rw[← h.rl];exact List.mem_range.1 j1) j2)
   ·intro g1 j hj hb
    have:=g1 _ (List.mem_map.2 ⟨j,List.mem_filter.2 ⟨List.mem_range.2 (by rw[h.rl];exact hj),hb⟩,rfl⟩)
    rw[kno_bit k2] at this
    exact (pg_box h (h.okm.get _) (pr_row h _) hx (hout rfl) hk).2 this
  ·show (boxN l.length (grpM andF (prodM m a l) g (2^l.length-1)) p).testBit k=(vlT m n (conjT 5 tT ((evsL ((meetL a g).getD e 0) a.pre.length).map fun d=>.nd 12 0 0 g (aftT a x d) .none))).testBit w
   rw[Bool.eq_iff_iff,con_bit k2,pg_box h (grpM_lt h.okm (andF_lt n) (pow_less n)) (pr_dist h (fg rfl)) hx (hout rfl) hk]
   constructor
   ·intro g1 t ht
    obtain⟨d,hd,rfl⟩:=List.mem_map.1 ht
    rw[vlT]
    exact g1 d hd
   ·intro g1 d hd
    have:=g1 _ (List.mem_map.2 ⟨d,hd,rfl⟩)
    rw[vlT] at this
    exact this
  ·exact absurd rfl f13
end
theorem stat13 {op:Nat} (h:op<22) (hf:(frag (op:Int)).toNat<16):op≤13:=by
 have key:∀ op:Nat,op<22→(frag (op:Int)).toNat<16→op≤13:=by decide
 exact key op h hf
theorem shape_at {A F:Nat} {f:List Nd} (hf:Okl f) (hs:∀ x,x∈f→stM A F x.op x.i x.e x.g=true):∀ (n i:Nat),i<n→i<f.length→tree f i≠.none∧swT (tree f i)
 |0,i,h,_=>by omega
 |n+1,i,hn,hi=>by
  have hx:f[i]? = some f[i]:=List.getElem?_eq_getElem hi
  have hm:=hs _ (List.getElem_mem hi)
  generalize f[i]=x at hx hm
  have ok:=hf i x hx
  have h13:x.op≤13:=by
   obtain⟨⟨h1,_⟩,_⟩:=stM_iff.1 hm
   have ho:=ok.op
   have:=stat13 (op:=x.op.toNat) (by omega) (by rw[show ((x.op.toNat:Nat):Int)=x.op by omega];exact h1)
   omega
  rw[tree_nd hf hx]
  refine⟨(by intro e;cases e),⟨⟨ok.op.1,h13⟩,fun u => ?_,fun u => ?_,?_,?_⟩⟩
  ·rw[u];have:=ok.x u;exact (shape_at hf hs n x.x.toNat (by omega) (by omega)).1
  ·rw[u];have:=ok.y u;exact (shape_at hf hs n x.y.toNat (by omega) (by omega)).1
  ·cases hu:usesX x.op with
   |false=>trivial
   |true=>have:=ok.x hu;exact (shape_at hf hs n x.x.toNat (by omega) (by omega)).2
  ·cases hu:usesY x.op with
   |false=>trivial
   |true=>have:=ok.y hu;exact (shape_at hf hs n x.y.toNat (by omega) (by omega)).2
theorem shape_fr {A F:Nat} (hA:A≤4) {f:List Nd} (hf:Okl f) (hs:∀ x,x∈f→stM A F x.op x.i x.e x.g=true) (hc:∀ x,x∈f→x.op≠13):∀ (n i:Nat),i<n→i<f.length→frT A F (tree f i)
 |0,i,h,_=>by omega
 |n+1,i,hn,hi=>by
  have hx:f[i]? = some f[i]:=List.getElem?_eq_getElem hi
  have hm:=hs _ (List.getElem_mem hi)
  have h13:=hc _ (List.getElem_mem hi)
  generalize f[i]=x at hx hm h13
  have ok:=hf i x hx
  obtain⟨⟨_,h2⟩,h3⟩:=stM_iff.1 hm
  rw[tree_nd hf hx]
  refine⟨fun u => ?_,fun u => ?_,h13,?_,?_⟩
  ·refine⟨(ok.fact u).1,?_⟩
   have h3:factN x<2^F:=h3
   rw[factN,show (x.op==3)=true by simpa using u,cond_true] at h3
   exact (Nat.pow_lt_pow_iff_right (by decide:1<2)).1 h3
  ·have hg:=ok.group u
   have h2:agN x<2^A:=h2
   have hna:isAgent x.op=false:=by
    have:=ok.op
    have key:∀ n:Nat,n<22→isGroup (n:Int)=true→isAgent (n:Int)=false:=by decide
    have:=key x.op.toNat (by omega)
    rw[show ((x.op.toNat:Nat):Int)=x.op by omega] at this
    exact this u
   rw[agN,hna,cond_false] at h2
   rw[shl_n hA]
   exact⟨hg.1,by omega⟩
  ·cases hu:usesX x.op with
   |false=>trivial
   |true=>have:=ok.x hu;exact shape_fr hA hf hs hc n x.x.toNat (by omega) (by omega)
  ·cases hu:usesY x.op with
   |false=>trivial
   |true=>have:=ok.y hu;exact shape_fr hA hf hs hc n x.y.toNat (by omega) (by omega)
theorem can_nodes {A F:Nat} {z:List Nd} (hz:Can z) (ha:allT (rgQ (stM A F)) (root z)=true):∀ x,x∈z→stM A F x.op x.i x.e x.g=true:=fun x hx=>by
 rw[← hz.fix] at hx
 exact (rg_iff.1 (finT_all (Q:=rgQ (stM A F)) _ _ ha (by simp) x hx)).1
theorem can_sw {A F:Nat} {z:List Nd} (hz:Can z) (ha:allT (rgQ (stM A F)) (root z)=true):root z≠.none∧swT (root z):=by
 have:=hz.pos
 exact shape_at hz.ok (can_nodes hz ha) z.length (z.length-1) (by omega) (by omega)
theorem no_common {z:List Nd} (hz:Can z) (h:(and64 (frags z:Nat) 8 != 0)=false):∀ x,x∈z→x.op≠13:=fun x hx e=>by
 have hfr:frags z<2^62:=Nat.lt_of_lt_of_le (frags_lt z) (by decide)
 have h0:and64 (frags z:Nat) ((8:Nat):Int)=0:=by simpa using h
 rw[and64_nat hfr (by decide)] at h0
 have h0:frags z&&&8=0:=by omega
 have hin:Sub (fragN x) (frags z):=by
  unfold frags
  rw[can_comp hz]
  exact orN_in hx
 have h8:fragN x=8:=by rw[fragN,e];rfl
 have:(frags z).testBit 3=true:=hin 3 (by rw[h8];rfl)
 have h3:(frags z&&&8).testBit 3=true:=by rw[Nat.testBit_and,this];rfl
 rw[h0] at h3
 exact absurd h3 (by decide)
theorem can_fr {A F:Nat} (hA:A≤4) {z:List Nd} (hz:Can z) (ha:allT (rgQ (stM A F)) (root z)=true) (h:(and64 (frags z:Nat) 8 != 0)=false):frT A F (root z):=by
 have:=hz.pos
 exact shape_fr hA hz.ok (can_nodes hz ha) (no_common hz h) z.length (z.length-1) (by omega) (by omega)
theorem holds_of {m:Mo} {n:Nat} {x:List Nd} {s:Nat} (hM:OkM m n) (hs:statI m.rel.length m.val.length x=0) (hv:vlT m n (root x)=s):holdsI m x=(s,0):=by
 have hr:reqI m x=0:=by rw[reqI,ok_moI hM];exact hs
 rw[holdsI,hr,hM.nn,Int.toNat_natCast,hv];rfl
def isF (f:List Nd) (op:Int):Bool:=match f with
 | [x]=>x.op==op
 |_=>false
theorem le_fpv {a b:List Nd} (h:a=b):PLe (.sl (a.map Nd.pv)) (fpv b):=by rw[h];exact .refl _
theorem le_ct {α:Type} {c:Bool} {X a b:α} (h:c=true) (g:X=a):X=bif c then a else b:=by rw[g,h];rfl
theorem le_cf {α:Type} {c:Bool} {X a b:α} (h:c=false) (g:X=b):X=bif c then a else b:=by rw[g,h];rfl
def strI (f:List Nd):List Nd×Bool:=match f[f.length-1]? with
 |some x=>bif x.op != 4 then ([],false) else (sub f x.x,true)
 |none=>([],false)
def strPV (x:List Nd×Bool):PV:=.tup [fpv x.1,.bool x.2]
def negI (f:List Nd):List Nd:=bif (strI f).2 then (strI f).1 else buildL (n0 4) [f]
def oppI (a b:List Nd):Bool:=bif (bif (strI a).2 then decide ((strI a).1=b) else false) then true else bif (strI b).2 then decide ((strI b).1=a) else false
theorem str_len {f:List Nd}:(strI f).1.length≤200:=by
 unfold strI
 cases f[f.length-1]? with
 |none=>simp
 |some x =>
  simp only
  cases (x.op != 4) with
  |true=>simp
  |false=>exact sub_len f x.x
def jntI (x:Nd) (a b:List Nd) (nt dm:Int):List Nd :=
 bif (bif (bif isF a dm then true else isF b dm) then true else (bif (bif oppI a b then !isF a nt else false) then !isF b nt else false)) then apN (n0 dm) [] []
 else bif isF a nt then b else bif (bif isF b nt then true else decide (a=b)) then a else apN x a b
def cndI (a b:List Nd):List Nd:=bif (bif (bif isF a 2 then true else isF b 1) then true else decide (a=b)) then buildL (n0 1) [] else bif isF a 1 then b else bif isF b 2 then negI a else buildL (n0 7) [a,b]
def eqvI (a b:List Nd):List Nd:=bif decide (a=b) then buildL (n0 1) [] else bif oppI a b then buildL (n0 2) [] else bif isF a 1 then b else bif isF b 1 then a else bif isF a 2 then negI b else bif isF b 2 then negI a else buildL (n0 8) [a,b]
def smpI (x:Nd) (a b:List Nd):List Nd :=
 bif x.op==4 then (bif isF a 1 then buildL (n0 2) [] else bif isF a 2 then buildL (n0 1) [] else negI a)
 else bif x.op==5 then jntI x a b 1 2 else bif x.op==6 then jntI x a b 2 1 else bif x.op==7 then cndI a b else bif x.op==8 then eqvI a b
 else bif (bif x.op==10 then isF a 2 else false) then buildL (n0 2) []
 else bif (bif x.op==13 then (bif isF a 2 then true else isF b 1) else false) then buildL (n0 1) []
 else bif (bif (bif (bif x.op==9 then true else x.op==11) then true else x.op==12) then isF a 1 else false) then buildL (n0 1) [] else apN x a b
def binB (op:Int):Bool:=bif op==5 then true else bif op==6 then true else bif op==7 then true else bif op==8 then true else bif op==13 then true else bif op==14 then true else bif op==16 then true else bif op==19 then true else op==21
theorem rw_is (f:List Nd) (op:Int):PureFn Tryz.prog 178 [fpv f,.int .i64 op] (.bool (isF f op)):=by
 refine PureFn.intro mixed (fn:=Tryz.f178) rfl rfl rfl fun M w0 => ?_
 match f with
 | [] =>
  have f1:(((([]:List Nd).map Nd.pv).length:Int)==1)=false:=rfl
  (try conv=>whnf);repeat' (first|(apply And.intro<;>try conv=>whnf)|(intro h;first|with_reducible exact tf h (by assumption)|try conv=>whnf)|(apply whenOff;(focus with_reducible assumption);try conv=>whnf)|fail)
  exact le_bool rfl
 | [x] =>
  (try conv=>whnf);repeat' (first|(apply And.intro<;>try conv=>whnf)|(intro h;try conv=>whnf)|apply True.intro|(apply infoT;rfl)|(apply WhenQ.mk;(try conv=>whnf);rotate_left;(try conv=>whnf);rotate_right)|with_reducible assumption|(refine⟨0,_,rfl,rfl,rfl,?_⟩;try conv=>whnf)|fail)
  exact le_bool rfl
 |x::y::r =>
  have f1:((((x::y::r).map Nd.pv).length:Int)==1)=false:=by simp;omega
  (try conv=>whnf);repeat' (first|(apply And.intro<;>try conv=>whnf)|(intro h;first|with_reducible exact tf h (by assumption)|try conv=>whnf)|(apply whenOff;(focus with_reducible assumption);try conv=>whnf)|fail)
  refine le_bool ?_
  rw[f1];rfl
theorem rw_stripped (f:List Nd) (h0:f≠[]) (hl:f.length≤1000000):PureFn Tryz.prog 206 [fpv f] (strPV (strI f)):=by
 have hpos:0<f.length:=List.length_pos_iff.2 h0
 obtain⟨x,hx⟩:∃ x,f[f.length-1]? = some x:=⟨_,List.getElem?_eq_getElem (by omega)⟩
 have hS:=fm_Sub f x.x
 have hI:strI f=bif x.op != 4 then ([],false) else (sub f x.x,true):=by rw[strI,hx]
 rw[hI]
 have hix:=idx_map (g:=Nd.pv) hx
 have hw:IntKind.wrap .i64 (((f.map Nd.pv).length:Int)-1)=((f.length-1:Nat):Int):=by
  rw[List.length_map,Go.Dv.wrap_small (by omega) (by omega)];omega
 refine PureFn.intro mixed (fn:=Tryz.f206) rfl rfl rfl fun M w0 => ?_
 (try conv=>whnf);repeat' (first|(apply And.intro<;>try conv=>whnf)|(apply infoT;rfl)|fail)
 refine⟨_,_,hw,hix,rfl,?_⟩
 (try conv=>whnf);repeat' (first|(apply And.intro<;>try conv=>whnf)|(intro h;try conv=>whnf)|(refine PureFn.dcq (f:=109) rfl ?_;try conv=>whnf)|(refine⟨_,_,hS,?_,?_⟩;(focus first|(refine⟨?_,?_,trivial⟩<;>first|exact PLe.refl _|exact PLe.nil)|exact trivial);try conv=>whnf)|fail)
 ·rw[show (x.op != 4)=true from h]
  exact PLe.tups ⟨.nil,.refl _,trivial⟩
 ·rw[show (x.op != 4)=false from h]
  exact .refl _
theorem rw_negate (f:List Nd) (h0:f≠[]) (hl:f.length≤1000000):PureFn Tryz.prog 179 [fpv f] (fpv (negI f)):=by
 have hS:=rw_stripped f h0 hl
 have hN:=fm_Not f
 unfold negI
 generalize strI f=X at hS
 obtain⟨g,b⟩:=X
 refine PureFn.intro mixed (fn:=Tryz.f179) rfl rfl rfl fun M w0 => ?_
 (try conv=>whnf);repeat' (first|(apply And.intro<;>try conv=>whnf)|(intro h;try conv=>whnf)|(refine PureFn.dcq (f:=206) rfl ?_;try conv=>whnf)|(refine PureFn.dcq (f:=37) rfl ?_;try conv=>whnf)|(refine⟨_,_,hS,?_,?_⟩;(focus first|(refine⟨?_,trivial⟩<;>first|exact PLe.refl _|exact PLe.nil)|exact trivial);try conv=>whnf)|(refine⟨_,_,hN,?_,?_⟩;(focus first|(refine⟨?_,trivial⟩<;>first|exact PLe.refl _|exact PLe.nil)|exact trivial);try conv=>whnf)|fail)
 ·rw[show b=true from h];exact .refl _
 ·rw[show b=false from h];exact .refl _
theorem rw_build (x:Nd) (X Y:List Nd) (hx:1≤x.op∧x.op≤13):PureFn Tryz.prog 183 [x.pv,fpv X,fpv Y] (fpv (apN x X Y)):=by
 obtain⟨z,hz⟩:∃ z,apN x X Y=z:=⟨_,rfl⟩
 rw[hz]
 unfold apN at hz
 have e1:x.op=1→buildL (n0 1) []=z:=fun e=>by rw[← hz,e];exact build_one _
 have e2:x.op=2→buildL (n0 2) []=z:=fun e=>by rw[← hz,e];exact build_one _
 have e3:x.op=3→buildL (nI 3 x.i) []=z:=fun e=>by rw[← hz,e];exact build_one _
 have e4:x.op=4→buildL (n0 4) [X]=z:=fun e=>by rw[← hz,e];exact build_un _ _ rfl rfl rfl
 have e5:x.op=5→buildL (n0 5) [X,Y]=z:=fun e=>by rw[← hz,e];exact build_bin _ _ _ rfl rfl
 have e6:x.op=6→buildL (n0 6) [X,Y]=z:=fun e=>by rw[← hz,e];exact build_bin _ _ _ rfl rfl
 have e7:x.op=7→buildL (n0 7) [X,Y]=z:=fun e=>by rw[← hz,e];exact build_bin _ _ _ rfl rfl
 have e8:x.op=8→buildL (n0 8) [X,Y]=z:=fun e=>by rw[← hz,e];exact build_bin _ _ _ rfl rfl
 have e9:x.op=9→buildL (nI 9 x.i) [X]=z:=fun e=>by rw[← hz,e];exact build_un _ _ rfl rfl rfl
 have e10:x.op=10→buildL (nI 10 x.i) [X]=z:=fun e=>by rw[← hz,e];exact build_un _ _ rfl rfl rfl
 have e11:x.op=11→buildL (nG 11 x.g) [X]=z:=fun e=>by rw[← hz,e];exact build_un _ _ rfl rfl rfl
 have e12:x.op=12→buildL (nG 12 x.g) [X]=z:=fun e=>by rw[← hz,e];exact build_un _ _ rfl rfl rfl
 have e13:x.op=13→buildL (nG 13 x.g) [X,Y]=z:=fun e=>by rw[← hz,e];exact build_bin _ _ _ rfl rfl
 have d1:=fun e=>e1 e▸fm_True
 have d2:=fun e=>e2 e▸fm_False
 have d3:=fun e=>e3 e▸fm_Fact x.i
 have d4:=fun e=>e4 e▸fm_Not X
 have d5:=fun e=>e5 e▸fm_And X Y
 have d6:=fun e=>e6 e▸fm_Or X Y
 have d7:=fun e=>e7 e▸fm_Imp X Y
 have d8:=fun e=>e8 e▸fm_Iff X Y
 have d9:=fun e=>e9 e▸fm_Know x.i X
 have d10:=fun e=>e10 e▸fm_Poss x.i X
 have d11:=fun e=>e11 e▸fm_Every x.g X
 have d12:=fun e=>e12 e▸fm_Dist x.g X
 have d13:=fun e=>e13 e▸fm_Common x.g X Y
 clear e1 e2 e3 e4 e5 e6 e7 e8 e9 e10 e11 e12 e13 hz
 have no:∀ k:Int,13<k→(x.op==k)=false:=fun k hk=>by simp;omega
 have n14:=no 14 (by decide)
 have n15:=no 15 (by decide)
 have n16:=no 16 (by decide)
 have n17:=no 17 (by decide)
 have n18:=no 18 (by decide)
 have n19:=no 19 (by decide)
 have n20:=no 20 (by decide)
 have n21:=no 21 (by decide)
 refine PureFn.intro mixed (fn:=Tryz.f183) rfl rfl rfl fun M w0 => ?_
 (try conv=>whnf);repeat' (first|(apply And.intro<;>try conv=>whnf)|(intro h;first|with_reducible exact tf h (by assumption)|try conv=>whnf)|(refine PureFn.dcq (f:=36) rfl ?_;try conv=>whnf)|(refine PureFn.dcq (f:=53) rfl ?_;try conv=>whnf)|(refine PureFn.dcq (f:=83) rfl ?_;try conv=>whnf)|(refine PureFn.dcq (f:=37) rfl ?_;try conv=>whnf)|(refine PureFn.dcq (f:=32) rfl ?_;try conv=>whnf)|(refine PureFn.dcq (f:=186) rfl ?_;try conv=>whnf)|(refine PureFn.dcq (f:=34) rfl ?_;try conv=>whnf)|(refine PureFn.dcq (f:=187) rfl ?_;try conv=>whnf)|(refine PureFn.dcq (f:=188) rfl ?_;try conv=>whnf)|(refine PureFn.dcq (f:=153) rfl ?_;try conv=>whnf)|(refine PureFn.dcq (f:=189) rfl ?_;try conv=>whnf)|(refine PureFn.dcq (f:=190) rfl ?_;try conv=>whnf)|(refine PureFn.dcq (f:=154) rfl ?_;try conv=>whnf)|(refine⟨_,_,d1 ?_,?_,?_⟩;rotate_left 1;(focus first|(refine⟨trivial⟩<;>first|exact PLe.refl _|exact PLe.nil)|exact trivial);try conv=>whnf)|(refine⟨_,_,d2 ?_,?_,?_⟩;rotate_left 1;(focus first|(refine⟨trivial⟩<;>first|exact PLe.refl _|exact PLe.nil)|exact trivial);try conv=>whnf)|(refine⟨_,_,d3 ?_,?_,?_⟩;rotate_left 1;(focus first|(refine⟨?_,trivial⟩<;>first|exact PLe.refl _|exact PLe.nil)|exact trivial);try conv=>whnf)|(refine⟨_,_,d4 ?_,?_,?_⟩;rotate_left 1;(focus first|(refine⟨?_,trivial⟩<;>first|exact PLe.refl _|exact PLe.nil)|exact trivial);try conv=>whnf)|(refine⟨_,_,d5 ?_,?_,?_⟩;rotate_left 1;(focus first|(refine⟨?_,?_,trivial⟩<;>first|exact PLe.refl _|exact PLe.nil)|exact trivial);try conv=>whnf)|(refine⟨_,_,d6 ?_,?_,?_⟩;rotate_left 1;(focus first|(refine⟨?_,?_,trivial⟩<;>first|exact PLe.refl _|exact PLe.nil)|exact trivial);try conv=>whnf)|(refine⟨_,_,d7 ?_,?_,?_⟩;rotate_left 1;(focus first|(refine⟨?_,?_,trivial⟩<;>first|exact PLe.refl _|exact PLe.nil)|exact trivial);try conv=>whnf)|(refine⟨_,_,d8 ?_,?_,?_⟩;rotate_left 1;(focus first|(refine⟨?_,?_,trivial⟩<;>first|exact PLe.refl _|exact PLe.nil)|exact trivial);try conv=>whnf)|(refine⟨_,_,d9 ?_,?_,?_⟩;rotate_left 1;(focus first|(refine⟨?_,?_,trivial⟩<;>first|exact PLe.refl _|exact PLe.nil)|exact trivial);try conv=>whnf)|(refine⟨_,_,d10 ?_,?_,?_⟩;rotate_left 1;(focus first|(refine⟨?_,?_,trivial⟩<;>first|exact PLe.refl _|exact PLe.nil)|exact trivial);try conv=>whnf)|(refine⟨_,_,d11 ?_,?_,?_⟩;rotate_left 1;(focus first|(refine⟨?_,?_,trivial⟩<;>first|exact PLe.refl _|exact PLe.nil)|exact trivial);try conv=>whnf)|(refine⟨_,_,d12 ?_,?_,?_⟩;rotate_left 1;(focus first|(refine⟨?_,?_,trivial⟩<;>first|exact PLe.refl _|exact PLe.nil)|exact trivial);try conv=>whnf)|(refine⟨_,_,d13 ?_,?_,?_⟩;rotate_left 1;(focus first|(refine⟨?_,?_,?_,trivial⟩<;>first|exact PLe.refl _|exact PLe.nil)|exact trivial);try conv=>whnf)|fail)
 all_goals first
  |exact .refl _
  |exact eq_of_beq (by with_reducible assumption)
  |(simp only[beq_eq_false_iff_ne,ne_eq] at *;omega)
theorem rw_binary (op:Int):PureFn Tryz.prog 177 [.int .i64 op] (.bool (binB op)):=by
 unfold binB
 refine PureFn.intro mixed (fn:=Tryz.f177) rfl rfl rfl fun M w0 => ?_
 (try conv=>whnf);repeat' (first|(apply And.intro<;>try conv=>whnf)|(intro h;first|with_reducible exact tf (by assumption) h|try conv=>whnf)|fail)
 all_goals (refine le_bool ?_;simp only[*,cond_true,cond_false])
theorem rw_opposite (a b:List Nd) (ha:a≠[]) (hb:b≠[]) (la:a.length≤1000000) (lb:b.length≤1000000):PureFn Tryz.prog 207 [fpv a,fpv b] (.bool (oppI a b)):=by
 have hA:=rw_stripped a ha la
 have hB:=rw_stripped b hb lb
 have hE1:=sl_Equal (strI a).1 b (by have:=str_len (f:=a);omega)
 have hE2:=sl_Equal (strI b).1 a (by have:=str_len (f:=b);omega)
 unfold oppI
 generalize strI a=X at hA hE1
 generalize strI b=Y at hB hE2
 obtain⟨g,p⟩:=X
 obtain⟨h',q⟩:=Y
 refine PureFn.intro mixed (fn:=Tryz.f207) rfl rfl rfl fun M w0 => ?_
 (try conv=>whnf);repeat' (first|(apply And.intro<;>try conv=>whnf)|(intro h;try conv=>whnf)|apply True.intro|(apply WhenQ.mk;(try conv=>whnf);rotate_left;(try conv=>whnf);rotate_right)|with_reducible assumption|(refine PureFn.dcq (f:=206) rfl ?_;try conv=>whnf)|(refine PureFn.dcq (f:=90) rfl ?_;try conv=>whnf)|(refine⟨_,_,hA,?_,?_⟩;(focus first|(refine⟨?_,trivial⟩<;>first|exact PLe.refl _|exact PLe.nil)|exact trivial);try conv=>whnf)|(refine⟨_,_,hE1,?_,?_⟩;(focus first|(refine⟨?_,?_,trivial⟩<;>first|exact PLe.refl _|exact PLe.nil)|exact trivial);try conv=>whnf)|(refine⟨_,_,hB,?_,?_⟩;(focus first|(refine⟨?_,trivial⟩<;>first|exact PLe.refl _|exact PLe.nil)|exact trivial);try conv=>whnf)|(refine⟨_,_,hE2,?_,?_⟩;(focus first|(refine⟨?_,?_,trivial⟩<;>first|exact PLe.refl _|exact PLe.nil)|exact trivial);try conv=>whnf)|fail)
 all_goals (refine le_bool ?_;simp only[*,cond_true,cond_false])
theorem rw_joint (x:Nd) (a b:List Nd) (nt dm:Int) (hx:1≤x.op∧x.op≤13) (hd:1≤dm∧dm≤13) (ha:a≠[]) (hb:b≠[]) (la:a.length≤1000000) (lb:b.length≤1000000):PureFn Tryz.prog 180 [x.pv,fpv a,fpv b,.int .i64 nt,.int .i64 dm] (fpv (jntI x a b nt dm)):=by
 have hO:=rw_opposite a b ha hb la lb
 have hE:=sl_Equal a b la
 have hB:=rw_build x a b hx
 have hD:=rw_build (n0 dm) [] [] hd
 unfold jntI
 refine PureFn.intro mixed (fn:=Tryz.f180) rfl rfl rfl fun M w0 => ?_
 (try conv=>whnf);repeat' (first|(apply And.intro<;>try conv=>whnf)|(intro h;try conv=>whnf)|apply True.intro|(apply WhenQ.mk;(try conv=>whnf);rotate_left;(try conv=>whnf);rotate_right)|with_reducible assumption|(apply not_of;with_reducible assumption)|(apply and_of<;>first|with_reducible assumption|(apply not_of;with_reducible assumption))|(refine PureFn.dcq (f:=178) rfl ?_;try conv=>whnf)|(refine PureFn.dcq (f:=207) rfl ?_;try conv=>whnf)|(refine PureFn.dcq (f:=90) rfl ?_;try conv=>whnf)|(refine PureFn.dcq (f:=183) rfl ?_;try conv=>whnf)|(refine⟨_,_,rw_is ?_ ?_,?_,?_⟩;rotate_left 2;(focus first|(refine⟨?_,?_,trivial⟩<;>first|exact PLe.refl _|exact PLe.nil)|exact trivial);try conv=>whnf)|(refine⟨_,_,hO,?_,?_⟩;(focus first|(refine⟨?_,?_,trivial⟩<;>first|exact PLe.refl _|exact PLe.nil)|exact trivial);try conv=>whnf)|(refine⟨_,_,hE,?_,?_⟩;(focus first|(refine⟨?_,?_,trivial⟩<;>first|exact PLe.refl _|exact PLe.nil)|exact trivial);try conv=>whnf)|(refine⟨_,_,hB,?_,?_⟩;(focus first|(refine⟨?_,?_,?_,trivial⟩<;>first|exact PLe.refl _|exact PLe.nil)|exact trivial);try conv=>whnf)|(refine⟨_,_,hD,?_,?_⟩;(focus first|(refine⟨?_,?_,?_,trivial⟩<;>first|exact PLe.refl _|exact PLe.nil)|exact trivial);try conv=>whnf)|fail)
 all_goals (refine le_fpv ?_;repeat (first|(refine le_ct ?_ ?_;focus (with_reducible assumption))|(refine le_cf ?_ ?_;focus (with_reducible assumption))|rfl|fail))
theorem rw_conditional (a b:List Nd) (ha:a≠[]) (la:a.length≤1000000):PureFn Tryz.prog 181 [fpv a,fpv b] (fpv (cndI a b)):=by
 have hE:=sl_Equal a b la
 have hN:=rw_negate a ha la
 have hI:=fm_Imp a b
 unfold cndI
 refine PureFn.intro mixed (fn:=Tryz.f181) rfl rfl rfl fun M w0 => ?_
 (try conv=>whnf);repeat' (first|(apply And.intro<;>try conv=>whnf)|(intro h;try conv=>whnf)|apply True.intro|(apply WhenQ.mk;(try conv=>whnf);rotate_left;(try conv=>whnf);rotate_right)|with_reducible assumption|(apply not_of;with_reducible assumption)|(refine PureFn.dcq (f:=178) rfl ?_;try conv=>whnf)|(refine PureFn.dcq (f:=90) rfl ?_;try conv=>whnf)|(refine PureFn.dcq (f:=179) rfl ?_;try conv=>whnf)|(refine PureFn.dcq (f:=34) rfl ?_;try conv=>whnf)|(refine PureFn.dcq (f:=36) rfl ?_;try conv=>whnf)|(refine⟨_,_,rw_is ?_ ?_,?_,?_⟩;rotate_left 2;(focus first|(refine⟨?_,?_,trivial⟩<;>first|exact PLe.refl _|exact PLe.nil)|exact trivial);try conv=>whnf)|(refine⟨_,_,hE,?_,?_⟩;(focus first|(refine⟨?_,?_,trivial⟩<;>first|exact PLe.refl _|exact PLe.nil)|exact trivial);try conv=>whnf)|(refine⟨_,_,hN,?_,?_⟩;(focus first|(refine⟨?_,trivial⟩<;>first|exact PLe.refl _|exact PLe.nil)|exact trivial);try conv=>whnf)|(refine⟨_,_,hI,?_,?_⟩;(focus first|(refine⟨?_,?_,trivial⟩<;>first|exact PLe.refl _|exact PLe.nil)|exact trivial);try conv=>whnf)|(refine⟨_,_,fm_True,?_,?_⟩;(focus first|(refine⟨trivial⟩<;>first|exact PLe.refl _|exact PLe.nil)|exact trivial);try conv=>whnf)|fail)
 all_goals (refine le_fpv ?_;simp only[*,cond_true,cond_false,Bool.not_true,Bool.not_false])
theorem rw_equivalence (a b:List Nd) (ha:a≠[]) (hb:b≠[]) (la:a.length≤1000000) (lb:b.length≤1000000):PureFn Tryz.prog 182 [fpv a,fpv b] (fpv (eqvI a b)):=by
 have hE:=sl_Equal a b la
 have hO:=rw_opposite a b ha hb la lb
 have hN:=rw_negate a ha la
 have hN2:=rw_negate b hb lb
 have hI:=fm_Iff a b
 unfold eqvI
 refine PureFn.intro mixed (fn:=Tryz.f182) rfl rfl rfl fun M w0 => ?_
 (try conv=>whnf);repeat' (first|(apply And.intro<;>try conv=>whnf)|(intro h;try conv=>whnf)|(refine PureFn.dcq (f:=178) rfl ?_;try conv=>whnf)|(refine PureFn.dcq (f:=90) rfl ?_;try conv=>whnf)|(refine PureFn.dcq (f:=207) rfl ?_;try conv=>whnf)|(refine PureFn.dcq (f:=179) rfl ?_;try conv=>whnf)|(refine PureFn.dcq (f:=187) rfl ?_;try conv=>whnf)|(refine PureFn.dcq (f:=36) rfl ?_;try conv=>whnf)|(refine PureFn.dcq (f:=53) rfl ?_;try conv=>whnf)|(refine⟨_,_,rw_is ?_ ?_,?_,?_⟩;rotate_left 2;(focus first|(refine⟨?_,?_,trivial⟩<;>first|exact PLe.refl _|exact PLe.nil)|exact trivial);try conv=>whnf)|(refine⟨_,_,hE,?_,?_⟩;(focus first|(refine⟨?_,?_,trivial⟩<;>first|exact PLe.refl _|exact PLe.nil)|exact trivial);try conv=>whnf)|(refine⟨_,_,hO,?_,?_⟩;(focus first|(refine⟨?_,?_,trivial⟩<;>first|exact PLe.refl _|exact PLe.nil)|exact trivial);try conv=>whnf)|(refine⟨_,_,hN,?_,?_⟩;(focus first|(refine⟨?_,trivial⟩<;>first|exact PLe.refl _|exact PLe.nil)|exact trivial);try conv=>whnf)|(refine⟨_,_,hN2,?_,?_⟩;(focus first|(refine⟨?_,trivial⟩<;>first|exact PLe.refl _|exact PLe.nil)|exact trivial);try conv=>whnf)|(refine⟨_,_,hI,?_,?_⟩;(focus first|(refine⟨?_,?_,trivial⟩<;>first|exact PLe.refl _|exact PLe.nil)|exact trivial);try conv=>whnf)|(refine⟨_,_,fm_True,?_,?_⟩;(focus first|(refine⟨trivial⟩<;>first|exact PLe.refl _|exact PLe.nil)|exact trivial);try conv=>whnf)|(refine⟨_,_,fm_False,?_,?_⟩;(focus first|(refine⟨trivial⟩<;>first|exact PLe.refl _|exact PLe.nil)|exact trivial);try conv=>whnf)|fail)
 all_goals (refine le_fpv ?_;simp only[*,cond_true,cond_false,Bool.not_true,Bool.not_false])
theorem rw_simple_1 (x:Nd) (a b:List Nd) (hx:x.op=1) (_ha:usesX 1=true→a≠[]) (_hb:usesY 1=true→b≠[]) (_la:a.length≤1000000) (_lb:b.length≤1000000):PureFn Tryz.prog 142 [x.pv,fpv a,fpv b] (fpv (smpI x a b)):=by
 have hB:=rw_build x a b (by rw[hx];decide)
 skip
 have q4:(x.op==4)=decide (((1:Nat))=4):=by rw[hx];rfl
 have q5:(x.op==5)=decide (((1:Nat))=5):=by rw[hx];rfl
 have q6:(x.op==6)=decide (((1:Nat))=6):=by rw[hx];rfl
 have q7:(x.op==7)=decide (((1:Nat))=7):=by rw[hx];rfl
 have q8:(x.op==8)=decide (((1:Nat))=8):=by rw[hx];rfl
 have q9:(x.op==9)=decide (((1:Nat))=9):=by rw[hx];rfl
 have q10:(x.op==10)=decide (((1:Nat))=10):=by rw[hx];rfl
 have q11:(x.op==11)=decide (((1:Nat))=11):=by rw[hx];rfl
 have q12:(x.op==12)=decide (((1:Nat))=12):=by rw[hx];rfl
 have q13:(x.op==13)=decide (((1:Nat))=13):=by rw[hx];rfl
 have q14:(x.op==14)=decide (((1:Nat))=14):=by rw[hx];rfl
 have q15:(x.op==15)=decide (((1:Nat))=15):=by rw[hx];rfl
 have q16:(x.op==16)=decide (((1:Nat))=16):=by rw[hx];rfl
 have q17:(x.op==17)=decide (((1:Nat))=17):=by rw[hx];rfl
 simp only[Nat.reduceEqDiff,decide_true,decide_false] at q4 q5 q6 q7 q8 q9 q10 q11 q12 q13 q14 q15 q16 q17
 clear hx _ha _hb _la _lb
 refine PureFn.intro mixed (fn:=Tryz.f142) rfl rfl rfl fun M w0 => ?_
 (try conv=>whnf);repeat' (first|(apply And.intro<;>try conv=>whnf)|(intro h;first|with_reducible exact tf h (by assumption)|try conv=>whnf)|(refine PureFn.dcq (f:=183) rfl ?_;try conv=>whnf)|(refine⟨_,_,hB,?_,?_⟩;(focus first|(refine⟨?_,?_,?_,trivial⟩<;>first|exact PLe.refl _|exact PLe.nil)|exact trivial);try conv=>whnf)|fail)
 all_goals (refine le_fpv ?_;simp only[smpI, *,cond_true,cond_false])
theorem rw_simple_2 (x:Nd) (a b:List Nd) (hx:x.op=2) (_ha:usesX 2=true→a≠[]) (_hb:usesY 2=true→b≠[]) (_la:a.length≤1000000) (_lb:b.length≤1000000):PureFn Tryz.prog 142 [x.pv,fpv a,fpv b] (fpv (smpI x a b)):=by
 have hB:=rw_build x a b (by rw[hx];decide)
 skip
 have q4:(x.op==4)=decide (((2:Nat))=4):=by rw[hx];rfl
 have q5:(x.op==5)=decide (((2:Nat))=5):=by rw[hx];rfl
 have q6:(x.op==6)=decide (((2:Nat))=6):=by rw[hx];rfl
 have q7:(x.op==7)=decide (((2:Nat))=7):=by rw[hx];rfl
 have q8:(x.op==8)=decide (((2:Nat))=8):=by rw[hx];rfl
 have q9:(x.op==9)=decide (((2:Nat))=9):=by rw[hx];rfl
 have q10:(x.op==10)=decide (((2:Nat))=10):=by rw[hx];rfl
 have q11:(x.op==11)=decide (((2:Nat))=11):=by rw[hx];rfl
 have q12:(x.op==12)=decide (((2:Nat))=12):=by rw[hx];rfl
 have q13:(x.op==13)=decide (((2:Nat))=13):=by rw[hx];rfl
 have q14:(x.op==14)=decide (((2:Nat))=14):=by rw[hx];rfl
 have q15:(x.op==15)=decide (((2:Nat))=15):=by rw[hx];rfl
 have q16:(x.op==16)=decide (((2:Nat))=16):=by rw[hx];rfl
 have q17:(x.op==17)=decide (((2:Nat))=17):=by rw[hx];rfl
 simp only[Nat.reduceEqDiff,decide_true,decide_false] at q4 q5 q6 q7 q8 q9 q10 q11 q12 q13 q14 q15 q16 q17
 clear hx _ha _hb _la _lb
 refine PureFn.intro mixed (fn:=Tryz.f142) rfl rfl rfl fun M w0 => ?_
 (try conv=>whnf);repeat' (first|(apply And.intro<;>try conv=>whnf)|(intro h;first|with_reducible exact tf h (by assumption)|try conv=>whnf)|(refine PureFn.dcq (f:=183) rfl ?_;try conv=>whnf)|(refine⟨_,_,hB,?_,?_⟩;(focus first|(refine⟨?_,?_,?_,trivial⟩<;>first|exact PLe.refl _|exact PLe.nil)|exact trivial);try conv=>whnf)|fail)
 all_goals (refine le_fpv ?_;simp only[smpI, *,cond_true,cond_false])
theorem rw_simple_3 (x:Nd) (a b:List Nd) (hx:x.op=3) (_ha:usesX 3=true→a≠[]) (_hb:usesY 3=true→b≠[]) (_la:a.length≤1000000) (_lb:b.length≤1000000):PureFn Tryz.prog 142 [x.pv,fpv a,fpv b] (fpv (smpI x a b)):=by
 have hB:=rw_build x a b (by rw[hx];decide)
 skip
 have q4:(x.op==4)=decide (((3:Nat))=4):=by rw[hx];rfl
 have q5:(x.op==5)=decide (((3:Nat))=5):=by rw[hx];rfl
 have q6:(x.op==6)=decide (((3:Nat))=6):=by rw[hx];rfl
 have q7:(x.op==7)=decide (((3:Nat))=7):=by rw[hx];rfl
 have q8:(x.op==8)=decide (((3:Nat))=8):=by rw[hx];rfl
 have q9:(x.op==9)=decide (((3:Nat))=9):=by rw[hx];rfl
 have q10:(x.op==10)=decide (((3:Nat))=10):=by rw[hx];rfl
 have q11:(x.op==11)=decide (((3:Nat))=11):=by rw[hx];rfl
 have q12:(x.op==12)=decide (((3:Nat))=12):=by rw[hx];rfl
 have q13:(x.op==13)=decide (((3:Nat))=13):=by rw[hx];rfl
 have q14:(x.op==14)=decide (((3:Nat))=14):=by rw[hx];rfl
 have q15:(x.op==15)=decide (((3:Nat))=15):=by rw[hx];rfl
 have q16:(x.op==16)=decide (((3:Nat))=16):=by rw[hx];rfl
 have q17:(x.op==17)=decide (((3:Nat))=17):=by rw[hx];rfl
 simp only[Nat.reduceEqDiff,decide_true,decide_false] at q4 q5 q6 q7 q8 q9 q10 q11 q12 q13 q14 q15 q16 q17
 clear hx _ha _hb _la _lb
 refine PureFn.intro mixed (fn:=Tryz.f142) rfl rfl rfl fun M w0 => ?_
 (try conv=>whnf);repeat' (first|(apply And.intro<;>try conv=>whnf)|(intro h;first|with_reducible exact tf h (by assumption)|try conv=>whnf)|(refine PureFn.dcq (f:=183) rfl ?_;try conv=>whnf)|(refine⟨_,_,hB,?_,?_⟩;(focus first|(refine⟨?_,?_,?_,trivial⟩<;>first|exact PLe.refl _|exact PLe.nil)|exact trivial);try conv=>whnf)|fail)
 all_goals (refine le_fpv ?_;simp only[smpI, *,cond_true,cond_false])
theorem rw_simple_4 (x:Nd) (a b:List Nd) (hx:x.op=4) (_ha:usesX 4=true→a≠[]) (_hb:usesY 4=true→b≠[]) (_la:a.length≤1000000) (_lb:b.length≤1000000):PureFn Tryz.prog 142 [x.pv,fpv a,fpv b] (fpv (smpI x a b)):=by
 have hB:=rw_build x a b (by rw[hx];decide)
 have hN:=rw_negate a (_ha rfl) _la
 have q4:(x.op==4)=decide (((4:Nat))=4):=by rw[hx];rfl
 have q5:(x.op==5)=decide (((4:Nat))=5):=by rw[hx];rfl
 have q6:(x.op==6)=decide (((4:Nat))=6):=by rw[hx];rfl
 have q7:(x.op==7)=decide (((4:Nat))=7):=by rw[hx];rfl
 have q8:(x.op==8)=decide (((4:Nat))=8):=by rw[hx];rfl
 have q9:(x.op==9)=decide (((4:Nat))=9):=by rw[hx];rfl
 have q10:(x.op==10)=decide (((4:Nat))=10):=by rw[hx];rfl
 have q11:(x.op==11)=decide (((4:Nat))=11):=by rw[hx];rfl
 have q12:(x.op==12)=decide (((4:Nat))=12):=by rw[hx];rfl
 have q13:(x.op==13)=decide (((4:Nat))=13):=by rw[hx];rfl
 have q14:(x.op==14)=decide (((4:Nat))=14):=by rw[hx];rfl
 have q15:(x.op==15)=decide (((4:Nat))=15):=by rw[hx];rfl
 have q16:(x.op==16)=decide (((4:Nat))=16):=by rw[hx];rfl
 have q17:(x.op==17)=decide (((4:Nat))=17):=by rw[hx];rfl
 simp only[Nat.reduceEqDiff,decide_true,decide_false] at q4 q5 q6 q7 q8 q9 q10 q11 q12 q13 q14 q15 q16 q17
 clear hx _ha _hb _la _lb
 refine PureFn.intro mixed (fn:=Tryz.f142) rfl rfl rfl fun M w0 => ?_
 (try conv=>whnf);repeat' (first|(apply And.intro<;>try conv=>whnf)|(intro h;first|with_reducible exact tf (by assumption) h|try conv=>whnf)|(refine PureFn.dcq (f:=178) rfl ?_;try conv=>whnf)|(refine PureFn.dcq (f:=179) rfl ?_;try conv=>whnf)|(refine PureFn.dcq (f:=36) rfl ?_;try conv=>whnf)|(refine PureFn.dcq (f:=53) rfl ?_;try conv=>whnf)|(refine⟨_,_,rw_is ?_ ?_,?_,?_⟩;rotate_left 2;(focus first|(refine⟨?_,?_,trivial⟩<;>first|exact PLe.refl _|exact PLe.nil)|exact trivial);try conv=>whnf)|(refine⟨_,_,hN,?_,?_⟩;(focus first|(refine⟨?_,trivial⟩<;>first|exact PLe.refl _|exact PLe.nil)|exact trivial);try conv=>whnf)|(refine⟨_,_,fm_True,?_,?_⟩;(focus first|(refine⟨trivial⟩<;>first|exact PLe.refl _|exact PLe.nil)|exact trivial);try conv=>whnf)|(refine⟨_,_,fm_False,?_,?_⟩;(focus first|(refine⟨trivial⟩<;>first|exact PLe.refl _|exact PLe.nil)|exact trivial);try conv=>whnf)|fail)
 all_goals (refine le_fpv ?_;simp only[smpI, *,cond_true,cond_false])
theorem rw_simple_5 (x:Nd) (a b:List Nd) (hx:x.op=5) (_ha:usesX 5=true→a≠[]) (_hb:usesY 5=true→b≠[]) (_la:a.length≤1000000) (_lb:b.length≤1000000):PureFn Tryz.prog 142 [x.pv,fpv a,fpv b] (fpv (smpI x a b)):=by
 have hB:=rw_build x a b (by rw[hx];decide)
 have hJ:=rw_joint x a b 1 2 (by omega) (by decide) (_ha rfl) (_hb rfl) _la _lb
 have q4:(x.op==4)=decide (((5:Nat))=4):=by rw[hx];rfl
 have q5:(x.op==5)=decide (((5:Nat))=5):=by rw[hx];rfl
 have q6:(x.op==6)=decide (((5:Nat))=6):=by rw[hx];rfl
 have q7:(x.op==7)=decide (((5:Nat))=7):=by rw[hx];rfl
 have q8:(x.op==8)=decide (((5:Nat))=8):=by rw[hx];rfl
 have q9:(x.op==9)=decide (((5:Nat))=9):=by rw[hx];rfl
 have q10:(x.op==10)=decide (((5:Nat))=10):=by rw[hx];rfl
 have q11:(x.op==11)=decide (((5:Nat))=11):=by rw[hx];rfl
 have q12:(x.op==12)=decide (((5:Nat))=12):=by rw[hx];rfl
 have q13:(x.op==13)=decide (((5:Nat))=13):=by rw[hx];rfl
 have q14:(x.op==14)=decide (((5:Nat))=14):=by rw[hx];rfl
 have q15:(x.op==15)=decide (((5:Nat))=15):=by rw[hx];rfl
 have q16:(x.op==16)=decide (((5:Nat))=16):=by rw[hx];rfl
 have q17:(x.op==17)=decide (((5:Nat))=17):=by rw[hx];rfl
 simp only[Nat.reduceEqDiff,decide_true,decide_false] at q4 q5 q6 q7 q8 q9 q10 q11 q12 q13 q14 q15 q16 q17
 clear hx _ha _hb _la _lb
 refine PureFn.intro mixed (fn:=Tryz.f142) rfl rfl rfl fun M w0 => ?_
 (try conv=>whnf);repeat' (first|(apply And.intro<;>try conv=>whnf)|(intro h;first|with_reducible exact tf h (by assumption)|with_reducible exact tf (by assumption) h|try conv=>whnf)|(refine PureFn.dcq (f:=180) rfl ?_;try conv=>whnf)|(refine⟨_,_,hJ,?_,?_⟩;(focus first|(refine⟨?_,?_,?_,?_,?_,trivial⟩<;>first|exact PLe.refl _|exact PLe.nil)|exact trivial);try conv=>whnf)|fail)
 all_goals (refine le_fpv ?_;simp only[smpI, *,cond_true,cond_false])
theorem rw_simple_6 (x:Nd) (a b:List Nd) (hx:x.op=6) (_ha:usesX 6=true→a≠[]) (_hb:usesY 6=true→b≠[]) (_la:a.length≤1000000) (_lb:b.length≤1000000):PureFn Tryz.prog 142 [x.pv,fpv a,fpv b] (fpv (smpI x a b)):=by
 have hB:=rw_build x a b (by rw[hx];decide)
 have hJ:=rw_joint x a b 2 1 (by omega) (by decide) (_ha rfl) (_hb rfl) _la _lb
 have q4:(x.op==4)=decide (((6:Nat))=4):=by rw[hx];rfl
 have q5:(x.op==5)=decide (((6:Nat))=5):=by rw[hx];rfl
 have q6:(x.op==6)=decide (((6:Nat))=6):=by rw[hx];rfl
 have q7:(x.op==7)=decide (((6:Nat))=7):=by rw[hx];rfl
 have q8:(x.op==8)=decide (((6:Nat))=8):=by rw[hx];rfl
 have q9:(x.op==9)=decide (((6:Nat))=9):=by rw[hx];rfl
 have q10:(x.op==10)=decide (((6:Nat))=10):=by rw[hx];rfl
 have q11:(x.op==11)=decide (((6:Nat))=11):=by rw[hx];rfl
 have q12:(x.op==12)=decide (((6:Nat))=12):=by rw[hx];rfl
 have q13:(x.op==13)=decide (((6:Nat))=13):=by rw[hx];rfl
 have q14:(x.op==14)=decide (((6:Nat))=14):=by rw[hx];rfl
 have q15:(x.op==15)=decide (((6:Nat))=15):=by rw[hx];rfl
 have q16:(x.op==16)=decide (((6:Nat))=16):=by rw[hx];rfl
 have q17:(x.op==17)=decide (((6:Nat))=17):=by rw[hx];rfl
 simp only[Nat.reduceEqDiff,decide_true,decide_false] at q4 q5 q6 q7 q8 q9 q10 q11 q12 q13 q14 q15 q16 q17
 clear hx _ha _hb _la _lb
 refine PureFn.intro mixed (fn:=Tryz.f142) rfl rfl rfl fun M w0 => ?_
 (try conv=>whnf);repeat' (first|(apply And.intro<;>try conv=>whnf)|(intro h;first|with_reducible exact tf h (by assumption)|with_reducible exact tf (by assumption) h|try conv=>whnf)|(refine PureFn.dcq (f:=180) rfl ?_;try conv=>whnf)|(refine⟨_,_,hJ,?_,?_⟩;(focus first|(refine⟨?_,?_,?_,?_,?_,trivial⟩<;>first|exact PLe.refl _|exact PLe.nil)|exact trivial);try conv=>whnf)|fail)
 all_goals (refine le_fpv ?_;simp only[smpI, *,cond_true,cond_false])
theorem rw_simple_7 (x:Nd) (a b:List Nd) (hx:x.op=7) (_ha:usesX 7=true→a≠[]) (_hb:usesY 7=true→b≠[]) (_la:a.length≤1000000) (_lb:b.length≤1000000):PureFn Tryz.prog 142 [x.pv,fpv a,fpv b] (fpv (smpI x a b)):=by
 have hB:=rw_build x a b (by rw[hx];decide)
 have hC:=rw_conditional a b (_ha rfl) _la
 have q4:(x.op==4)=decide (((7:Nat))=4):=by rw[hx];rfl
 have q5:(x.op==5)=decide (((7:Nat))=5):=by rw[hx];rfl
 have q6:(x.op==6)=decide (((7:Nat))=6):=by rw[hx];rfl
 have q7:(x.op==7)=decide (((7:Nat))=7):=by rw[hx];rfl
 have q8:(x.op==8)=decide (((7:Nat))=8):=by rw[hx];rfl
 have q9:(x.op==9)=decide (((7:Nat))=9):=by rw[hx];rfl
 have q10:(x.op==10)=decide (((7:Nat))=10):=by rw[hx];rfl
 have q11:(x.op==11)=decide (((7:Nat))=11):=by rw[hx];rfl
 have q12:(x.op==12)=decide (((7:Nat))=12):=by rw[hx];rfl
 have q13:(x.op==13)=decide (((7:Nat))=13):=by rw[hx];rfl
 have q14:(x.op==14)=decide (((7:Nat))=14):=by rw[hx];rfl
 have q15:(x.op==15)=decide (((7:Nat))=15):=by rw[hx];rfl
 have q16:(x.op==16)=decide (((7:Nat))=16):=by rw[hx];rfl
 have q17:(x.op==17)=decide (((7:Nat))=17):=by rw[hx];rfl
 simp only[Nat.reduceEqDiff,decide_true,decide_false] at q4 q5 q6 q7 q8 q9 q10 q11 q12 q13 q14 q15 q16 q17
 clear hx _ha _hb _la _lb
 refine PureFn.intro mixed (fn:=Tryz.f142) rfl rfl rfl fun M w0 => ?_
 (try conv=>whnf);repeat' (first|(apply And.intro<;>try conv=>whnf)|(intro h;first|with_reducible exact tf h (by assumption)|with_reducible exact tf (by assumption) h|try conv=>whnf)|(refine PureFn.dcq (f:=181) rfl ?_;try conv=>whnf)|(refine⟨_,_,hC,?_,?_⟩;(focus first|(refine⟨?_,?_,trivial⟩<;>first|exact PLe.refl _|exact PLe.nil)|exact trivial);try conv=>whnf)|fail)
 all_goals (refine le_fpv ?_;simp only[smpI, *,cond_true,cond_false])
theorem rw_simple_8 (x:Nd) (a b:List Nd) (hx:x.op=8) (_ha:usesX 8=true→a≠[]) (_hb:usesY 8=true→b≠[]) (_la:a.length≤1000000) (_lb:b.length≤1000000):PureFn Tryz.prog 142 [x.pv,fpv a,fpv b] (fpv (smpI x a b)):=by
 have hB:=rw_build x a b (by rw[hx];decide)
 have hV:=rw_equivalence a b (_ha rfl) (_hb rfl) _la _lb
 have q4:(x.op==4)=decide (((8:Nat))=4):=by rw[hx];rfl
 have q5:(x.op==5)=decide (((8:Nat))=5):=by rw[hx];rfl
 have q6:(x.op==6)=decide (((8:Nat))=6):=by rw[hx];rfl
 have q7:(x.op==7)=decide (((8:Nat))=7):=by rw[hx];rfl
 have q8:(x.op==8)=decide (((8:Nat))=8):=by rw[hx];rfl
 have q9:(x.op==9)=decide (((8:Nat))=9):=by rw[hx];rfl
 have q10:(x.op==10)=decide (((8:Nat))=10):=by rw[hx];rfl
 have q11:(x.op==11)=decide (((8:Nat))=11):=by rw[hx];rfl
 have q12:(x.op==12)=decide (((8:Nat))=12):=by rw[hx];rfl
 have q13:(x.op==13)=decide (((8:Nat))=13):=by rw[hx];rfl
 have q14:(x.op==14)=decide (((8:Nat))=14):=by rw[hx];rfl
 have q15:(x.op==15)=decide (((8:Nat))=15):=by rw[hx];rfl
 have q16:(x.op==16)=decide (((8:Nat))=16):=by rw[hx];rfl
 have q17:(x.op==17)=decide (((8:Nat))=17):=by rw[hx];rfl
 simp only[Nat.reduceEqDiff,decide_true,decide_false] at q4 q5 q6 q7 q8 q9 q10 q11 q12 q13 q14 q15 q16 q17
 clear hx _ha _hb _la _lb
 refine PureFn.intro mixed (fn:=Tryz.f142) rfl rfl rfl fun M w0 => ?_
 (try conv=>whnf);repeat' (first|(apply And.intro<;>try conv=>whnf)|(intro h;first|with_reducible exact tf h (by assumption)|with_reducible exact tf (by assumption) h|try conv=>whnf)|(refine PureFn.dcq (f:=182) rfl ?_;try conv=>whnf)|(refine⟨_,_,hV,?_,?_⟩;(focus first|(refine⟨?_,?_,trivial⟩<;>first|exact PLe.refl _|exact PLe.nil)|exact trivial);try conv=>whnf)|fail)
 all_goals (refine le_fpv ?_;simp only[smpI, *,cond_true,cond_false])
theorem rw_simple_9 (x:Nd) (a b:List Nd) (hx:x.op=9) (_ha:usesX 9=true→a≠[]) (_hb:usesY 9=true→b≠[]) (_la:a.length≤1000000) (_lb:b.length≤1000000):PureFn Tryz.prog 142 [x.pv,fpv a,fpv b] (fpv (smpI x a b)):=by
 have hB:=rw_build x a b (by rw[hx];decide)
 skip
 have q4:(x.op==4)=decide (((9:Nat))=4):=by rw[hx];rfl
 have q5:(x.op==5)=decide (((9:Nat))=5):=by rw[hx];rfl
 have q6:(x.op==6)=decide (((9:Nat))=6):=by rw[hx];rfl
 have q7:(x.op==7)=decide (((9:Nat))=7):=by rw[hx];rfl
 have q8:(x.op==8)=decide (((9:Nat))=8):=by rw[hx];rfl
 have q9:(x.op==9)=decide (((9:Nat))=9):=by rw[hx];rfl
 have q10:(x.op==10)=decide (((9:Nat))=10):=by rw[hx];rfl
 have q11:(x.op==11)=decide (((9:Nat))=11):=by rw[hx];rfl
 have q12:(x.op==12)=decide (((9:Nat))=12):=by rw[hx];rfl
 have q13:(x.op==13)=decide (((9:Nat))=13):=by rw[hx];rfl
 have q14:(x.op==14)=decide (((9:Nat))=14):=by rw[hx];rfl
 have q15:(x.op==15)=decide (((9:Nat))=15):=by rw[hx];rfl
 have q16:(x.op==16)=decide (((9:Nat))=16):=by rw[hx];rfl
 have q17:(x.op==17)=decide (((9:Nat))=17):=by rw[hx];rfl
 simp only[Nat.reduceEqDiff,decide_true,decide_false] at q4 q5 q6 q7 q8 q9 q10 q11 q12 q13 q14 q15 q16 q17
 clear hx _ha _hb _la _lb
 refine PureFn.intro mixed (fn:=Tryz.f142) rfl rfl rfl fun M w0 => ?_
 (try conv=>whnf);repeat' (first|(apply And.intro<;>try conv=>whnf)|(intro h;first|with_reducible exact tf h (by assumption)|with_reducible exact tf (by assumption) h|try conv=>whnf)|(refine PureFn.dcq (f:=178) rfl ?_;try conv=>whnf)|(refine PureFn.dcq (f:=183) rfl ?_;try conv=>whnf)|(refine PureFn.dcq (f:=36) rfl ?_;try conv=>whnf)|(refine⟨_,_,rw_is ?_ ?_,?_,?_⟩;rotate_left 2;(focus first|(refine⟨?_,?_,trivial⟩<;>first|exact PLe.refl _|exact PLe.nil)|exact trivial);try conv=>whnf)|(refine⟨_,_,hB,?_,?_⟩;(focus first|(refine⟨?_,?_,?_,trivial⟩<;>first|exact PLe.refl _|exact PLe.nil)|exact trivial);try conv=>whnf)|(refine⟨_,_,fm_True,?_,?_⟩;(focus first|(refine⟨trivial⟩<;>first|exact PLe.refl _|exact PLe.nil)|exact trivial);try conv=>whnf)|fail)
 all_goals (refine le_fpv ?_;simp only[smpI, *,cond_true,cond_false])
theorem rw_simple_10 (x:Nd) (a b:List Nd) (hx:x.op=10) (_ha:usesX 10=true→a≠[]) (_hb:usesY 10=true→b≠[]) (_la:a.length≤1000000) (_lb:b.length≤1000000):PureFn Tryz.prog 142 [x.pv,fpv a,fpv b] (fpv (smpI x a b)):=by
 have hB:=rw_build x a b (by rw[hx];decide)
 skip
 have q4:(x.op==4)=decide (((10:Nat))=4):=by rw[hx];rfl
 have q5:(x.op==5)=decide (((10:Nat))=5):=by rw[hx];rfl
 have q6:(x.op==6)=decide (((10:Nat))=6):=by rw[hx];rfl
 have q7:(x.op==7)=decide (((10:Nat))=7):=by rw[hx];rfl
 have q8:(x.op==8)=decide (((10:Nat))=8):=by rw[hx];rfl
 have q9:(x.op==9)=decide (((10:Nat))=9):=by rw[hx];rfl
 have q10:(x.op==10)=decide (((10:Nat))=10):=by rw[hx];rfl
 have q11:(x.op==11)=decide (((10:Nat))=11):=by rw[hx];rfl
 have q12:(x.op==12)=decide (((10:Nat))=12):=by rw[hx];rfl
 have q13:(x.op==13)=decide (((10:Nat))=13):=by rw[hx];rfl
 have q14:(x.op==14)=decide (((10:Nat))=14):=by rw[hx];rfl
 have q15:(x.op==15)=decide (((10:Nat))=15):=by rw[hx];rfl
 have q16:(x.op==16)=decide (((10:Nat))=16):=by rw[hx];rfl
 have q17:(x.op==17)=decide (((10:Nat))=17):=by rw[hx];rfl
 simp only[Nat.reduceEqDiff,decide_true,decide_false] at q4 q5 q6 q7 q8 q9 q10 q11 q12 q13 q14 q15 q16 q17
 clear hx _ha _hb _la _lb
 refine PureFn.intro mixed (fn:=Tryz.f142) rfl rfl rfl fun M w0 => ?_
 (try conv=>whnf);repeat' (first|(apply And.intro<;>try conv=>whnf)|(intro h;first|with_reducible exact tf h (by assumption)|with_reducible exact tf (by assumption) h|try conv=>whnf)|(refine PureFn.dcq (f:=178) rfl ?_;try conv=>whnf)|(refine PureFn.dcq (f:=183) rfl ?_;try conv=>whnf)|(refine PureFn.dcq (f:=53) rfl ?_;try conv=>whnf)|(refine⟨_,_,rw_is ?_ ?_,?_,?_⟩;rotate_left 2;(focus first|(refine⟨?_,?_,trivial⟩<;>first|exact PLe.refl _|exact PLe.nil)|exact trivial);try conv=>whnf)|(refine⟨_,_,hB,?_,?_⟩;(focus first|(refine⟨?_,?_,?_,trivial⟩<;>first|exact PLe.refl _|exact PLe.nil)|exact trivial);try conv=>whnf)|(refine⟨_,_,fm_False,?_,?_⟩;(focus first|(refine⟨trivial⟩<;>first|exact PLe.refl _|exact PLe.nil)|exact trivial);try conv=>whnf)|fail)
 all_goals (refine le_fpv ?_;simp only[smpI, *,cond_true,cond_false])
theorem rw_simple_11 (x:Nd) (a b:List Nd) (hx:x.op=11) (_ha:usesX 11=true→a≠[]) (_hb:usesY 11=true→b≠[]) (_la:a.length≤1000000) (_lb:b.length≤1000000):PureFn Tryz.prog 142 [x.pv,fpv a,fpv b] (fpv (smpI x a b)):=by
 have hB:=rw_build x a b (by rw[hx];decide)
 skip
 have q4:(x.op==4)=decide (((11:Nat))=4):=by rw[hx];rfl
 have q5:(x.op==5)=decide (((11:Nat))=5):=by rw[hx];rfl
 have q6:(x.op==6)=decide (((11:Nat))=6):=by rw[hx];rfl
 have q7:(x.op==7)=decide (((11:Nat))=7):=by rw[hx];rfl
 have q8:(x.op==8)=decide (((11:Nat))=8):=by rw[hx];rfl
 have q9:(x.op==9)=decide (((11:Nat))=9):=by rw[hx];rfl
 have q10:(x.op==10)=decide (((11:Nat))=10):=by rw[hx];rfl
 have q11:(x.op==11)=decide (((11:Nat))=11):=by rw[hx];rfl
 have q12:(x.op==12)=decide (((11:Nat))=12):=by rw[hx];rfl
 have q13:(x.op==13)=decide (((11:Nat))=13):=by rw[hx];rfl
 have q14:(x.op==14)=decide (((11:Nat))=14):=by rw[hx];rfl
 have q15:(x.op==15)=decide (((11:Nat))=15):=by rw[hx];rfl
 have q16:(x.op==16)=decide (((11:Nat))=16):=by rw[hx];rfl
 have q17:(x.op==17)=decide (((11:Nat))=17):=by rw[hx];rfl
 simp only[Nat.reduceEqDiff,decide_true,decide_false] at q4 q5 q6 q7 q8 q9 q10 q11 q12 q13 q14 q15 q16 q17
 clear hx _ha _hb _la _lb
 refine PureFn.intro mixed (fn:=Tryz.f142) rfl rfl rfl fun M w0 => ?_
 (try conv=>whnf);repeat' (first|(apply And.intro<;>try conv=>whnf)|(intro h;first|with_reducible exact tf h (by assumption)|with_reducible exact tf (by assumption) h|try conv=>whnf)|(refine PureFn.dcq (f:=178) rfl ?_;try conv=>whnf)|(refine PureFn.dcq (f:=183) rfl ?_;try conv=>whnf)|(refine PureFn.dcq (f:=36) rfl ?_;try conv=>whnf)|(refine⟨_,_,rw_is ?_ ?_,?_,?_⟩;rotate_left 2;(focus first|(refine⟨?_,?_,trivial⟩<;>first|exact PLe.refl _|exact PLe.nil)|exact trivial);try conv=>whnf)|(refine⟨_,_,hB,?_,?_⟩;(focus first|(refine⟨?_,?_,?_,trivial⟩<;>first|exact PLe.refl _|exact PLe.nil)|exact trivial);try conv=>whnf)|(refine⟨_,_,fm_True,?_,?_⟩;(focus first|(refine⟨trivial⟩<;>first|exact PLe.refl _|exact PLe.nil)|exact trivial);try conv=>whnf)|fail)
 all_goals (refine le_fpv ?_;simp only[smpI, *,cond_true,cond_false])
theorem rw_simple_12 (x:Nd) (a b:List Nd) (hx:x.op=12) (_ha:usesX 12=true→a≠[]) (_hb:usesY 12=true→b≠[]) (_la:a.length≤1000000) (_lb:b.length≤1000000):PureFn Tryz.prog 142 [x.pv,fpv a,fpv b] (fpv (smpI x a b)):=by
 have hB:=rw_build x a b (by rw[hx];decide)
 skip
 have q4:(x.op==4)=decide (((12:Nat))=4):=by rw[hx];rfl
 have q5:(x.op==5)=decide (((12:Nat))=5):=by rw[hx];rfl
 have q6:(x.op==6)=decide (((12:Nat))=6):=by rw[hx];rfl
 have q7:(x.op==7)=decide (((12:Nat))=7):=by rw[hx];rfl
 have q8:(x.op==8)=decide (((12:Nat))=8):=by rw[hx];rfl
 have q9:(x.op==9)=decide (((12:Nat))=9):=by rw[hx];rfl
 have q10:(x.op==10)=decide (((12:Nat))=10):=by rw[hx];rfl
 have q11:(x.op==11)=decide (((12:Nat))=11):=by rw[hx];rfl
 have q12:(x.op==12)=decide (((12:Nat))=12):=by rw[hx];rfl
 have q13:(x.op==13)=decide (((12:Nat))=13):=by rw[hx];rfl
 have q14:(x.op==14)=decide (((12:Nat))=14):=by rw[hx];rfl
 have q15:(x.op==15)=decide (((12:Nat))=15):=by rw[hx];rfl
 have q16:(x.op==16)=decide (((12:Nat))=16):=by rw[hx];rfl
 have q17:(x.op==17)=decide (((12:Nat))=17):=by rw[hx];rfl
 simp only[Nat.reduceEqDiff,decide_true,decide_false] at q4 q5 q6 q7 q8 q9 q10 q11 q12 q13 q14 q15 q16 q17
 clear hx _ha _hb _la _lb
 refine PureFn.intro mixed (fn:=Tryz.f142) rfl rfl rfl fun M w0 => ?_
 (try conv=>whnf);repeat' (first|(apply And.intro<;>try conv=>whnf)|(intro h;first|with_reducible exact tf h (by assumption)|with_reducible exact tf (by assumption) h|try conv=>whnf)|(refine PureFn.dcq (f:=178) rfl ?_;try conv=>whnf)|(refine PureFn.dcq (f:=183) rfl ?_;try conv=>whnf)|(refine PureFn.dcq (f:=36) rfl ?_;try conv=>whnf)|(refine⟨_,_,rw_is ?_ ?_,?_,?_⟩;rotate_left 2;(focus first|(refine⟨?_,?_,trivial⟩<;>first|exact PLe.refl _|exact PLe.nil)|exact trivial);try conv=>whnf)|(refine⟨_,_,hB,?_,?_⟩;(focus first|(refine⟨?_,?_,?_,trivial⟩<;>first|exact PLe.refl _|exact PLe.nil)|exact trivial);try conv=>whnf)|(refine⟨_,_,fm_True,?_,?_⟩;(focus first|(refine⟨trivial⟩<;>first|exact PLe.refl _|exact PLe.nil)|exact trivial);try conv=>whnf)|fail)
 all_goals (refine le_fpv ?_;simp only[smpI, *,cond_true,cond_false])
theorem rw_simple_13 (x:Nd) (a b:List Nd) (hx:x.op=13) (_ha:usesX 13=true→a≠[]) (_hb:usesY 13=true→b≠[]) (_la:a.length≤1000000) (_lb:b.length≤1000000):PureFn Tryz.prog 142 [x.pv,fpv a,fpv b] (fpv (smpI x a b)):=by
 have hB:=rw_build x a b (by rw[hx];decide)
 skip
 have q4:(x.op==4)=decide (((13:Nat))=4):=by rw[hx];rfl
 have q5:(x.op==5)=decide (((13:Nat))=5):=by rw[hx];rfl
 have q6:(x.op==6)=decide (((13:Nat))=6):=by rw[hx];rfl
 have q7:(x.op==7)=decide (((13:Nat))=7):=by rw[hx];rfl
 have q8:(x.op==8)=decide (((13:Nat))=8):=by rw[hx];rfl
 have q9:(x.op==9)=decide (((13:Nat))=9):=by rw[hx];rfl
 have q10:(x.op==10)=decide (((13:Nat))=10):=by rw[hx];rfl
 have q11:(x.op==11)=decide (((13:Nat))=11):=by rw[hx];rfl
 have q12:(x.op==12)=decide (((13:Nat))=12):=by rw[hx];rfl
 have q13:(x.op==13)=decide (((13:Nat))=13):=by rw[hx];rfl
 have q14:(x.op==14)=decide (((13:Nat))=14):=by rw[hx];rfl
 have q15:(x.op==15)=decide (((13:Nat))=15):=by rw[hx];rfl
 have q16:(x.op==16)=decide (((13:Nat))=16):=by rw[hx];rfl
 have q17:(x.op==17)=decide (((13:Nat))=17):=by rw[hx];rfl
 simp only[Nat.reduceEqDiff,decide_true,decide_false] at q4 q5 q6 q7 q8 q9 q10 q11 q12 q13 q14 q15 q16 q17
 clear hx _ha _hb _la _lb
 refine PureFn.intro mixed (fn:=Tryz.f142) rfl rfl rfl fun M w0 => ?_
 (try conv=>whnf);repeat' (first|(apply And.intro<;>try conv=>whnf)|(intro h;first|with_reducible exact tf h (by assumption)|with_reducible exact tf (by assumption) h|try conv=>whnf)|apply True.intro|(apply WhenQ.mk;(try conv=>whnf);rotate_left;(try conv=>whnf);rotate_right)|with_reducible assumption|(apply not_of;with_reducible assumption)|(refine PureFn.dcq (f:=178) rfl ?_;try conv=>whnf)|(refine PureFn.dcq (f:=183) rfl ?_;try conv=>whnf)|(refine PureFn.dcq (f:=36) rfl ?_;try conv=>whnf)|(refine⟨_,_,rw_is ?_ ?_,?_,?_⟩;rotate_left 2;(focus first|(refine⟨?_,?_,trivial⟩<;>first|exact PLe.refl _|exact PLe.nil)|exact trivial);try conv=>whnf)|(refine⟨_,_,hB,?_,?_⟩;(focus first|(refine⟨?_,?_,?_,trivial⟩<;>first|exact PLe.refl _|exact PLe.nil)|exact trivial);try conv=>whnf)|(refine⟨_,_,fm_True,?_,?_⟩;(focus first|(refine⟨trivial⟩<;>first|exact PLe.refl _|exact PLe.nil)|exact trivial);try conv=>whnf)|fail)
 all_goals (refine le_fpv ?_;simp only[smpI, *,cond_true,cond_false])
theorem rw_simple (x:Nd) (a b:List Nd) (hx:1≤x.op∧x.op≤13) (ha:usesX x.op=true→a≠[]) (hb:usesY x.op=true→b≠[]) (la:a.length≤1000000) (lb:b.length≤1000000):PureFn Tryz.prog 142 [x.pv,fpv a,fpv b] (fpv (smpI x a b)):=by
 have h:x.op=1∨x.op=2∨x.op=3∨x.op=4∨x.op=5∨x.op=6∨x.op=7∨x.op=8∨x.op=9∨x.op=10∨x.op=11∨x.op=12∨x.op=13:=by omega
 rcases h with h|h|h|h|h|h|h|h|h|h|h|h|h<;>rw[h] at ha hb
 ·exact rw_simple_1 x a b h ha hb la lb
 ·exact rw_simple_2 x a b h ha hb la lb
 ·exact rw_simple_3 x a b h ha hb la lb
 ·exact rw_simple_4 x a b h ha hb la lb
 ·exact rw_simple_5 x a b h ha hb la lb
 ·exact rw_simple_6 x a b h ha hb la lb
 ·exact rw_simple_7 x a b h ha hb la lb
 ·exact rw_simple_8 x a b h ha hb la lb
 ·exact rw_simple_9 x a b h ha hb la lb
 ·exact rw_simple_10 x a b h ha hb la lb
 ·exact rw_simple_11 x a b h ha hb la lb
 ·exact rw_simple_12 x a b h ha hb la lb
 ·exact rw_simple_13 x a b h ha hb la lb
def opX (x:Nd) (X:List Nd):List Nd:=bif decide (x.op≥4) then X else []
def opY (x:Nd) (Y:List Nd):List Nd:=bif binB x.op then Y else []
def smpH (x:Nd) (X Y:List Nd):List Nd×Int:=nz (smpI x (opX x X) (opY x Y))
def simF (c:List Nd):List Nd×Int:=lastF (redE [] smpH c [])
def simI (f:List Nd):List Nd×Int:=bif check f != 0 then ([],check f) else simF (comp f)
theorem apN_len (x:Nd) (a b:List Nd):(apN x a b).length≤200:=by
 unfold apN
 exact wantL_len _ _ _ _ _ _
theorem negI_len (a:List Nd):(negI a).length≤200:=by
 unfold negI
 cases (strI a).2 with
 |true=>exact str_len
 |false=>exact buildL_len _ _
theorem bif_len {c:Bool} {a b:List Nd} (h1:a.length≤200) (h2:b.length≤200):(bif c then a else b).length≤200:=by cases c<;>assumption
theorem smp_len (x:Nd) (a b:List Nd) (ha:a.length≤200) (hb:b.length≤200):(smpI x a b).length≤200:=by
 unfold smpI jntI cndI eqvI
 repeat' (first|exact ha|exact hb|exact apN_len _ _ _|exact buildL_len _ _|exact negI_len _|apply bif_len)
theorem opX_len {x:Nd} {X:List Nd} (h:X.length≤200):(opX x X).length≤200:=bif_len h (by decide)
theorem opY_len {x:Nd} {X:List Nd} (h:X.length≤200):(opY x X).length≤200:=bif_len h (by decide)
def Done (l:List (List Nd)):Prop:=∀ z,z∈l→z≠[]∧z.length≤200
theorem Done.get {l:List (List Nd)} (h:Done l) (k:Nat):(l.getD k []).length≤200∧(k<l.length→l.getD k []≠[]):=by
 by_cases hk:k<l.length
 ·have:=h _ (by rw[List.getD_eq_getElem?_getD,List.getElem?_eq_getElem hk];exact List.getElem_mem hk:l.getD k []∈l)
  exact⟨this.2,fun _=>this.1⟩
 ·rw[List.getD_eq_getElem?_getD,List.getElem?_eq_none (by omega)]
  exact⟨Nat.zero_le _,fun h=>absurd h hk⟩
theorem Done.add {l:List (List Nd)} (h:Done l) {z:List Nd} (h0:z≠[]) (hz:z.length≤200):Done (l++[z]):=fun y hy=>by
 rcases List.mem_append.1 hy with hy|hy
 ·exact h y hy
 ·rw[List.mem_singleton.1 hy];exact⟨h0,hz⟩
theorem bin_uses {x:Nd} (h:x.op≤13):binB x.op=usesY x.op:=by
 by_cases h0:x.op<0
 ·have:∀ k:Int,0≤k→(x.op==k)=false:=fun k hk=>by simp;omega
  simp[binB,usesY,this]
  omega
 ·obtain⟨k,hk⟩:∃ k:Nat,x.op=k:=⟨x.op.toNat,by omega⟩
  have key:∀ k:Nat,k<14→binB (k:Int)=usesY (k:Int):=by decide
  rw[hk]
  exact key k (by omega)
theorem rw_upward (f:List Nd) (hc:check f=0) (hs:∀ x,x∈comp f→x.op≤13) (M:Nat→Prop) (w0:W0) :
  DC Tryz.prog M w0 141 [.pv (fpv f),.clo 142 [] []] noHeap fun d L'=>frz d L' fun q _=>PLe q (pairF (simF (comp f))):=by
 have hc0:(check f != 0)=false:=by rw[hc];rfl
 refine DC.weaken (DC.introC [9,11,13] mixed (fn:=Tryz.f141) rfl rfl rfl ?_)
 have hlen:=comp_len f
 have hpos:=comp_pos hc
 have hokl:=comp_okl f
 (try conv=>whnf);repeat' (first|(apply And.intro<;>try conv=>whnf)|(intro h;first|with_reducible exact tf h (by assumption)|try conv=>whnf)|(refine PureFn.dcq (f:=86) rfl ?_;try conv=>whnf)|(refine PureFn.dcq (f:=68) rfl ?_;try conv=>whnf)|(refine⟨_,_,fm_Check ?_,?_,?_⟩;rotate_left 1;(focus first|(refine⟨?_,trivial⟩<;>first|exact PLe.refl _|exact PLe.nil)|exact trivial);try conv=>whnf)|(refine⟨_,_,fm_Compact ?_,?_,?_⟩;rotate_left 1;(focus first|(refine⟨?_,trivial⟩<;>first|exact PLe.refl _|exact PLe.nil)|exact trivial);try conv=>whnf)|fail)
 unfold simF
 generalize comp f=c at *
 refine⟨{ q:Nat×List (List Nd) // q.1≤c.length∧q.2.length=q.1∧Done q.2∧redE [] smpH c []=redE [] smpH (c.drop q.1) q.2 },
  fun q=>[(1,.clo 142 [] []),(7,.buf 0 (q.1.2.map fpv).length),(19,.pv (fpv c)),(20,.pv (.int .i64 (c.map Nd.pv).length)),(21,.pv (.int .i64 (q.1.1:Nat)))],fun _=>1,fun q=>[(0,.arr 1 (q.1.2.map fpv))],fun q=>c.length-q.1.1,
  ⟨⟨(0,[]),Nat.zero_le _,rfl,fun z hz=>by simp at hz,rfl⟩,(by refine Wk.of ?_ ?_ rfl rfl rfl<;>repeat' (first|exact trivial|exact WkD.same _|exact WkD.new' rfl rfl rfl|exact WkO.new _ _ rfl|exact rfl|refine⟨?_,?_⟩|fail))⟩,?_⟩
 rintro⟨⟨i,l⟩,hi,hl,hD,he⟩
 simp only at hi hl hD he
 have hlm:(l.map fpv).length=i:=by rw[List.length_map];exact hl
 (try conv=>whnf);repeat' (first|(apply And.intro<;>try conv=>whnf)|(intro h;try conv=>whnf)|(apply infoT;rfl)|fail)
 ·have hi':i<c.length:=by simpa using lt_dec h
  obtain⟨x,hx⟩:∃ x,c[i]? = some x:=⟨_,List.getElem?_eq_getElem hi'⟩
  have ok:=hokl i x hx
  have hox:=hs x (List.mem_iff_getElem?.2 ⟨i,hx⟩)
  have h1:=ok.op
  obtain⟨X,hX⟩:∃ X,opX x (l.getD x.x.toNat [])=X:=⟨_,rfl⟩
  obtain⟨Y,hY⟩:∃ Y,opY x (l.getD x.y.toNat [])=Y:=⟨_,rfl⟩
  refine⟨_,_,rfl,idx_map hx,rfl,?_⟩
  try conv=>whnf
  refine⟨Unit,fun _=>[(1,.clo 142 [] []),(7,.buf 0 (l.map fpv).length),(19,.pv (fpv c)),(20,.pv (.int .i64 (c.map Nd.pv).length)),(21,.pv (.int .i64 (i:Nat))),(9,.ref 1 0),(10,.pv .nil),(11,.pv .nil)],fun _=>2,fun _=>[(0,.arr 1 (l.map fpv)),(1,.var x.dvs)],?_,?_⟩
  ·try conv=>whnf
   exact⟨(),(by refine Wk.of ?_ ?_ rfl rfl rfl<;>repeat' (first|exact trivial|exact WkD.same _|exact WkO.same _ _ rfl|refine⟨?_,?_⟩|fail))⟩
  rintro⟨⟩
  refine⟨Unit,fun _=>[(1,.clo 142 [] []),(7,.buf 0 (l.map fpv).length),(19,.pv (fpv c)),(20,.pv (.int .i64 (c.map Nd.pv).length)),(21,.pv (.int .i64 (i:Nat))),(9,.ref 1 0),(10,.pv (fpv X)),(11,.pv .nil)],fun _=>2,fun _=>[(0,.arr 1 (l.map fpv)),(1,.var x.dvs)],?_,?_⟩
  ·(try conv=>whnf);repeat' (first|(apply And.intro<;>try conv=>whnf)|(intro h;try conv=>whnf)|fail)
   ·have hg:decide (x.op≥4)=true:=h
    have hu:usesX x.op=true:=by
     have:=of_decide_eq_true hg
     simp only[usesX,Bool.and_eq_true,decide_eq_true_eq];omega
    obtain⟨u1,u2⟩:=ok.x hu
    obtain⟨k,hk⟩:∃ k:Nat,x.x=k:=⟨x.x.toNat,by omega⟩
    have hkl:k<l.length:=by omega
    refine⟨k,hk,by omega,?_⟩
    (try conv=>whnf);repeat' (first|(apply And.intro<;>try conv=>whnf)|fail)
    refine⟨_,fget hkl,?_⟩
    try conv=>whnf
    have hXk:l.getD k []=X:=by rw[← hX,opX,hg,hk];rfl
    rw[hXk]
    exact⟨(),(by refine Wk.of ?_ ?_ rfl rfl rfl<;>repeat' (first|exact trivial|exact WkD.same _|exact WkO.same _ _ rfl|refine⟨?_,?_⟩|fail))⟩
   ·have hXn:X=[]:=by rw[← hX,opX,show decide (x.op≥4)=false from h];rfl
    rw[hXn]
    exact⟨(),(by refine Wk.of ?_ ?_ rfl rfl rfl<;>repeat' (first|exact trivial|exact WkD.same _|exact WkO.same _ _ rfl|exact WkD.nil _ (Or.inl rfl)|refine⟨?_,?_⟩|fail))⟩
  rintro⟨⟩
  refine⟨Unit,fun _=>[(1,.clo 142 [] []),(7,.buf 0 (l.map fpv).length),(19,.pv (fpv c)),(20,.pv (.int .i64 (c.map Nd.pv).length)),(21,.pv (.int .i64 (i:Nat))),(9,.ref 1 0),(10,.pv (fpv X)),(11,.pv (fpv Y))],fun _=>2,fun _=>[(0,.arr 1 (l.map fpv)),(1,.var x.dvs)],?_,?_⟩
  ·(try conv=>whnf);repeat' (first|(apply And.intro<;>try conv=>whnf)|(intro h;try conv=>whnf)|(refine PureFn.dcq (f:=177) rfl ?_;try conv=>whnf)|(refine⟨_,_,rw_binary ?_,?_,?_⟩;rotate_left 1;(focus first|(refine⟨?_,trivial⟩<;>first|exact PLe.refl _|exact PLe.nil)|exact trivial);try conv=>whnf)|fail)
   ·have hg:binB x.op=true:=h
    have hu:usesY x.op=true:=by rw[← bin_uses hox];exact hg
    obtain⟨u1,u2⟩:=ok.y hu
    obtain⟨k,hk⟩:∃ k:Nat,x.y=k:=⟨x.y.toNat,by omega⟩
    have hkl:k<l.length:=by omega
    refine⟨k,hk,by omega,?_⟩
    (try conv=>whnf);repeat' (first|(apply And.intro<;>try conv=>whnf)|fail)
    refine⟨_,fget hkl,?_⟩
    try conv=>whnf
    have hYk:l.getD k []=Y:=by rw[← hY,opY,hg,hk];rfl
    rw[hYk]
    exact⟨(),(by refine Wk.of ?_ ?_ rfl rfl rfl<;>repeat' (first|exact trivial|exact WkD.same _|exact WkO.same _ _ rfl|refine⟨?_,?_⟩|fail))⟩
   ·have hYn:Y=[]:=by rw[← hY,opY,show binB x.op=false from h];rfl
    rw[hYn]
    exact⟨(),(by refine Wk.of ?_ ?_ rfl rfl rfl<;>repeat' (first|exact trivial|exact WkD.same _|exact WkO.same _ _ rfl|exact WkD.nil _ (Or.inl rfl)|refine⟨?_,?_⟩|fail))⟩
  rintro⟨⟩
  have lX:X.length≤200:=hX▸opX_len (hD.get _).1
  have lY:Y.length≤200:=hY▸opY_len (hD.get _).1
  have nX:usesX x.op=true→X≠[]:=fun hu=>by
   obtain⟨u1,u2⟩:=ok.x hu
   have hg:decide (x.op≥4)=true:=by
    simp only[usesX,Bool.and_eq_true,decide_eq_true_eq] at hu
    exact decide_eq_true (by omega)
   rw[← hX,opX,hg]
   exact (hD.get _).2 (by omega)
  have nY:usesY x.op=true→Y≠[]:=fun hu=>by
   obtain⟨u1,u2⟩:=ok.y hu
   rw[← hY,opY,bin_uses hox,hu]
   exact (hD.get _).2 (by omega)
  have hA:=rw_simple x X Y ⟨h1.1,hox⟩ nX nY (by omega) (by omega)
  have hsl:=smp_len x X Y lX lY
  obtain⟨z,hz⟩:∃ z,smpI x X Y=z:=⟨_,rfl⟩
  have hh:smpH x (l.getD x.x.toNat []) (l.getD x.y.toNat [])=nz z:=by rw[smpH,hX,hY,hz]
  rw[hz] at hA hsl
  cases z with
  |nil =>
   have f0:(((([]:List Nd).map Nd.pv).length:Int)==0)=true:=rfl
   have hno:=redE_no (e:=8) hx hh rfl
   have hF:lastF (redE [] smpH c [])=([],8):=by rw[he,hno];rfl
   rw[hF]
   (try conv=>whnf);repeat' (first|(apply And.intro<;>try conv=>whnf)|(intro h;first|with_reducible exact tf (by assumption) h|try conv=>whnf)|(refine PureFn.dcq (f:=142) rfl ?_;try conv=>whnf)|(refine⟨_,_,hA,?_,?_⟩;(focus first|(refine⟨?_,?_,?_,trivial⟩<;>first|exact PLe.refl _|exact PLe.nil)|exact trivial);try conv=>whnf)|fail)
   exact⟨.tup [.pv .nil,.pv (.int .i64 8)],0,[],(by refine Wk.of ?_ ?_ rfl rfl rfl<;>repeat' (first|exact trivial|exact WkD.same _|refine⟨?_,?_⟩|fail)),le_nilF 8⟩
  |cons a r =>
   have f0:(((((a::r):List Nd).map Nd.pv).length:Int)==0)=false:=by simp;omega
   (try conv=>whnf);repeat' (first|(apply And.intro<;>try conv=>whnf)|(intro h;first|with_reducible exact tf h (by assumption)|try conv=>whnf)|(apply cellsI;rfl)|(apply szI;rfl)|(refine PureFn.dcq (f:=142) rfl ?_;try conv=>whnf)|(refine⟨_,_,hA,?_,?_⟩;(focus first|(refine⟨?_,?_,?_,trivial⟩<;>first|exact PLe.refl _|exact PLe.nil)|exact trivial);try conv=>whnf)|fail)
   ·show (l.map fpv).length+1≤4294967296
    omega
   ·have hyes:=redE_yes (z:=a::r) (e:=0) hx hh rfl
    have hm:=map_snoc (l:=l) (z:=a::r)
    refine⟨⟨(i+1,l++[a::r]),hi',by simp[hl],hD.add (by simp) hsl,by rw[he,hyes]⟩,by show c.length-(i+1)<c.length-i;omega,?_⟩
    (refine Wk.of ?_ ?_ rfl rfl rfl<;>repeat' (first|exact trivial|exact WkD.same _|exact WkD.eq (congrArg (fun z:List PV=>DV.buf _ z.length) hm)|exact WkO.same _ _ (congrArg (fun z=>some (DObj.arr _ z)) hm)|refine WkD.int ?_|refine⟨?_,?_⟩|(refine wrapA ?_ ?_ ?_;(focus simp;done);(focus (try dsimp only);omega);(focus (try dsimp only);omega))|fail))
 ·have hi':i=c.length:=by have:=ge_dec (m:=(c.map Nd.pv).length) h (by simpa using hi);simpa using this
  subst hi'
  rw[redE_end] at he
  have hw:IntKind.wrap .i64 (((l.map fpv).length:Int)-1)=((l.length-1:Nat):Int):=by
   rw[List.length_map];exact wrapA (by omega) (by omega) (by omega)
  have hll:l.length=c.length:=hl
  refine⟨l.length-1,hw,(show l.length-1<(l.map fpv).length by rw[List.length_map];omega),?_⟩
  (try conv=>whnf);repeat' (first|(apply And.intro<;>try conv=>whnf)|fail)
  refine⟨_,fget (show l.length-1<l.length by omega),?_⟩
  try conv=>whnf
  exact⟨.tup [.pv (fpv (l.getD (l.length-1) [])),.pv (.int .i64 0)],0,[],(by refine Wk.of ?_ ?_ rfl rfl rfl<;>repeat' (first|exact trivial|exact WkD.same _|refine⟨?_,?_⟩|fail)),le_pairF (a:=(l.getD (l.length-1) [],0)) (b:=lastF (redE [] smpH c [])) (by rw[he];rfl)⟩
end Go.Proofs.YtejbieopeicgkaaGreatDoor
