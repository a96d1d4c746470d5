/- Parts of the proof, one after the other: Action models one after the other: what they are (plain). Action models one after the other: z0b, compact and after of the program walked. Action models one after the other: Compose of the program walked. Action models one after the other: Chain of the program walked. Products: the examples of the law; models as arguments. Models: Facts walked. Products: what the law ProductKeeps asks (plain). Models: Restrict, and announcements, of the program walked. Reductions of events: where they hold (plain). Rewriting: the rules of simplification, and a node with new operands. Rewriting: a node with new operands. Rewriting: opposite formulas, joined formulas. Rewriting: implications, equivalences. Rewriting: one node simplified. Rewriting: a formula simplified from its parts up. Action models one after the other: the product with their composition (plain). Action models one after the other: the assignments of a pair of events walked. Action models one after the other: the assignments of a pair of events walked, out of the insertion's contract. The law TopComposedActions walked. Action models: simplified formulas and assignments (simple of the program walked). Action models: the part with some events (keep of the program walked). Alike events: some and matched of the program walked. -/
import Derived.Test.YtejbieopeicgkaaGreatDoorM9
set_option maxRecDepth 100000
namespace Go.Proofs.YtejbieopeicgkaaGreatDoor
open Go Go.Dv
def pan (c:Int):Value:=.iface 111 (.agg #[.int .i64 c])
def toE {β:Type} (g:β->PV):Except Int β->Except Value PV
 |.ok x=>.ok (g x)
 |.error c=>.error (pan c)
def runE {α β:Type} (c:α->Except Int β):List α->Except Int (List β)
 | []=>.ok []
 |x::r=>match c x with
  |.error e=>.error e
  |.ok y=>match runE c r with
   |.error e=>.error e
   |.ok l=>.ok (y::l)
theorem runE_snoc {α β:Type} {c:α->Except Int β}:∀ {l:List α} {acc:List β} {x:α} {y:β},runE c l=.ok acc->c x=.ok y->runE c (l++[x])=.ok (acc++[y])
 | [],acc,x,y,h,hx=>by
  cases h
  show (match c x with|.error e=>_|.ok y=>_)=_
  rw[hx];rfl
 |a::l,acc,x,y,h,hx=>by
  rw[runE] at h
  show (match c a with|.error e=>_|.ok y=>_)=_
  cases ha:c a with
  |error e=>rw[ha] at h;cases h
  |ok z =>
   rw[ha] at h;simp only at h |-
   cases hr:runE c l with
   |error e=>rw[hr] at h;cases h
   |ok q =>
    rw[hr] at h
    cases h
    rw[show l.append [x]=l++[x] from rfl,runE_snoc hr hx];rfl
theorem runE_stop {α β:Type} {c:α->Except Int β}:∀ {l r:List α} {acc:List β} {x:α} {e:Int},runE c l=.ok acc->c x=.error e->runE c (l++x::r)=.error e
 | [],r,acc,x,e,h,hx=>by
  show (match c x with|.error e=>_|.ok y=>_)=_
  rw[hx]
 |a::l,r,acc,x,e,h,hx=>by
  rw[runE] at h
  show (match c a with|.error e=>_|.ok y=>_)=_
  cases ha:c a with
  |error e=>rw[ha] at h;cases h
  |ok z =>
   rw[ha] at h;simp only at h |-
   cases hr:runE c l with
   |error e=>rw[hr] at h;cases h
   |ok q=>rw[show l.append (x::r)=l++x::r from rfl,runE_stop hr hx]
theorem runE_len {α β:Type} {c:α->Except Int β}:∀ {l:List α} {acc:List β},runE c l=.ok acc->acc.length=l.length
 | [],acc,h=>by cases h;rfl
 |a::l,acc,h=>by
  rw[runE] at h
  cases ha:c a with
  |error e=>rw[ha] at h;cases h
  |ok z =>
   rw[ha] at h;simp only at h
   cases hr:runE c l with
   |error e=>rw[hr] at h;cases h
   |ok q=>rw[hr] at h;cases h;simp[runE_len hr]
theorem runE_take {α β:Type} {c:α->Except Int β} {l:List α} {acc:List β} {k:Nat} {x:α} {y:β} (h:runE c (l.take k)=.ok acc) (hx:l[k]? = some x) (hy:c x=.ok y):runE c (l.take (k+1))=.ok (acc++[y]):=by
 rw[List.take_add_one,hx];exact runE_snoc h hy
theorem runE_bad {α β:Type} {c:α->Except Int β} {l:List α} {acc:List β} {k:Nat} {x:α} {e:Int} (h:runE c (l.take k)=.ok acc) (hx:l[k]? = some x) (hy:c x=.error e):runE c l=.error e:=by
 obtain⟨hk,hxe⟩:=List.getElem?_eq_some_iff.1 hx;rw[<- List.take_append_drop k l,List.drop_eq_getElem_cons hk,hxe];exact runE_stop h hy
def prs (n m:Nat):List (Nat×Nat):=(List.range (n*m)).map fun k=>(k / m,k % m)
theorem prs_len (n m:Nat):(prs n m).length=n*m:=by simp[prs]
theorem prs_get {n m e f:Nat} (he:e<n) (hf:f<m):(prs n m)[e*m+f]? = some (e,f):=by
 have h1:e*m+f<n*m:=by
  have:=Nat.mul_le_mul_right m (Nat.succ_le_of_lt he);rw[Nat.succ_mul] at this;omega
 have h2:(e*m+f) / m=e:=by
  rw[Nat.mul_comm,Nat.mul_add_div (by omega),Nat.div_eq_of_lt hf];rfl
 have h3:(e*m+f) % m=f:=by
  rw[Nat.mul_comm,Nat.mul_add_mod,Nat.mod_eq_of_lt hf]
 simp only[prs,List.getElem?_map,List.getElem?_range h1,Option.map_some,h2,h3]
def aftE (a:Act) (e:Nat) (f:List Nd):Except Int (List Nd):=match aftI a e f with
 |(g,c)=>bif c != 0 then .error c else .ok g
def insA:List Asg->Asg->List Asg
 | [],x=>[x]
 |y::r,x=>bif decide (y.fact<x.fact) then y::insA r x else bif decide (y.fact=x.fact) then ⟨y.fact,x.to⟩::r else x::y::r
def compA (l:List Asg):List Asg:=l.map fun x=>⟨x.fact,q0u x.to⟩
def addE (a:Act) (e:Nat):List Asg->List Asg->Except Int (List Asg)
 |out,[]=>.ok out
 |out,x::r=>match aftE a e x.to with
  |.error c=>.error c
  |.ok to=>addE a e (insA out ⟨x.fact,to⟩) r
def asgE (a:Act) (e:Nat) (second:List Asg):Except Int (List Asg):=addE a e (compA (a.post.getD e [])) second
def cellE (a b:Act) (q:Nat×Nat):Except Int (List Nd×List Asg):=match aftE a q.1 (b.pre.getD q.2 []) with
 |.error c=>.error c
 |.ok g=>bif (q0d (n0 5) [a.pre.getD q.1 [],g]).isEmpty then .error 8 else match asgE a q.1 (b.post.getD q.2 []) with
  |.error c=>.error c
  |.ok l=>.ok (q0d (n0 5) [a.pre.getD q.1 [],g],l)
def joinN (x y m:Nat):Nat->Nat
 |0=>0
 |g+1=>bif x.testBit g then joinN x y m g |||(y*2^(g*m)) else joinN x y m g
def rowC (r s:List Nat) (n m:Nat):List Nat:=(prs n m).map fun q=>joinN (r.getD q.1 0) (s.getD q.2 0) m n
def relsC (a b:Act):List (List Nat):=(List.range a.rel.length).map fun i=>rowC (a.rel.getD i []) (b.rel.getD i []) a.pre.length b.pre.length
def composeI (a b:Act):Act×Int :=
 bif q0v a != 0 then (noAct,q0v a) else bif q0v b != 0 then (noAct,q0v b) else bif ((a.rel.length:Int) != (b.rel.length:Int)) then (noAct,1)
 else bif decide ((a.pre.length:Int)*(b.pre.length:Int)>8) then (noAct,8) else match runE (cellE a b) (prs a.pre.length b.pre.length) with
  |.error c=>(noAct,c)
  |.ok l=>(⟨l.map (·.1),l.map (·.2),relsC a b⟩,0)
theorem joinN_lt {x y m:Nat} (hy:y<2^m):∀ g,joinN x y m g<2^(g*m)
 |0=>by rw[joinN];exact Nat.two_pow_pos _
 |g+1=>by
  have h1:=joinN_lt (x:=x) hy g;have h2:2^(g*m)<=2^((g+1)*m):=Nat.pow_le_pow_right (by decide) (by rw[Nat.succ_mul];omega);rw[joinN]
  cases x.testBit g with
  |false=>exact Nat.lt_of_lt_of_le h1 h2
  |true =>
   refine Nat.or_lt_two_pow (Nat.lt_of_lt_of_le h1 h2) ?_;rw[Nat.succ_mul,Nat.pow_add,Nat.mul_comm];exact Nat.mul_lt_mul_of_pos_left hy (Nat.two_pow_pos _)
theorem shlU_mul {y k:Nat} (hk:k<64) (h:y*2^k<2^64):shlU (y:Int) (k:Int)=((y*2^k:Nat):Int):=by
 unfold shlU;rw[show min ((k:Int)).toNat (IntKind.bits .u64)=k from Nat.min_eq_left (by show k<=64;omega),show ((y:Int)*2^k)=((y*2^k:Nat):Int) by simp];generalize y*2^k=m at *;exact wrapU (by omega) (by omega)
section
variable {a b:Act} {e f:Nat} {pa pb g:List Nd} {qb:List Asg}
theorem cellE_eq (h1:a.pre.getD e []=pa) (h2:b.pre.getD f []=pb) (h3:b.post.getD f []=qb):cellE a b (e,f)=match aftE a e pb with
 |.error c=>.error c
 |.ok g=>bif (q0d (n0 5) [pa,g]).isEmpty then .error 8 else match asgE a e qb with
  |.error c=>.error c
  |.ok l=>.ok (q0d (n0 5) [pa,g],l):=by
 subst h1;subst h2;subst h3;rfl
theorem cell_e1 (h1:a.pre.getD e []=pa) (h2:b.pre.getD f []=pb) (h3:b.post.getD f []=qb) {c:Int} (h:aftE a e pb=.error c):cellE a b (e,f)=.error c:=by
 rw[cellE_eq h1 h2 h3,h]
theorem cell_e2 (h1:a.pre.getD e []=pa) (h2:b.pre.getD f []=pb) (h3:b.post.getD f []=qb) (h:aftE a e pb=.ok g) (hp:(q0d (n0 5) [pa,g]).isEmpty=true):cellE a b (e,f)=.error 8:=by
 rw[cellE_eq h1 h2 h3,h]
 show (bif (q0d (n0 5) [pa,g]).isEmpty then _ else _)=_
 rw[hp];rfl
theorem cell_e3 (h1:a.pre.getD e []=pa) (h2:b.pre.getD f []=pb) (h3:b.post.getD f []=qb) (h:aftE a e pb=.ok g) (hp:(q0d (n0 5) [pa,g]).isEmpty=false) {c:Int} (hq:asgE a e qb=.error c):cellE a b (e,f)=.error c:=by
 rw[cellE_eq h1 h2 h3,h]
 show (bif (q0d (n0 5) [pa,g]).isEmpty then _ else _)=_
 rw[hp,hq];rfl
theorem cell_ok (h1:a.pre.getD e []=pa) (h2:b.pre.getD f []=pb) (h3:b.post.getD f []=qb) (h:aftE a e pb=.ok g) (hp:(q0d (n0 5) [pa,g]).isEmpty=false) {l:List Asg} (hq:asgE a e qb=.ok l):cellE a b (e,f)=.ok (q0d (n0 5) [pa,g],l):=by
 rw[cellE_eq h1 h2 h3,h]
 show (bif (q0d (n0 5) [pa,g]).isEmpty then _ else _)=_
 rw[hp,hq];rfl
end
set_option maxHeartbeats 4000000
theorem cp_check (a:Act) (hS:SmX a):PureFn Tryz.prog 51 [a.pv] (.int .i64 (q0v a)):=by
 have hC:=ac_Check a ((a.rel.map q0b).length:Int) 8 hS.fit hS.rel hS.post;have hCe:actI a ((a.rel.map q0b).length:Int) 8=q0v a:=by rw[List.length_map];rfl
 rw[hCe] at hC;refine PureFn.intro mixed (fn:=Tryz.f51) rfl rfl rfl fun M w0 => ?_
 (try conv=>whnf);repeat' (first|(refine PureFn.dy hC rfl ?_;try conv=>whnf)|fail)
 exact .refl _
theorem cp_compact (l:List Asg) (hl:l.length<=1000):PureFn Tryz.prog 85 [q0q l] (q0q (compA l)):=by
 refine PureFn.introC [7] mixed (fn:=Tryz.f85) rfl rfl rfl fun M w0 => ?_
 try conv=>whnf
 refine⟨Unit,fun _=>[(3,.pv (.sl ((compA (l.take l.length)).map Asg.pv)))],fun _=>0,fun _=>[],?_,?_⟩
 ·refine⟨{ i:Nat // i<=l.length },fun i=>[(3,.buf 0 ((compA (l.take i.1)).map Asg.pv).length),(6,.pv (.sl (l.map Asg.pv))),(7,.pv (i64 (l.map Asg.pv).length)),(8,.pv (i64 i.1))],fun _=>1,fun i=>[(0,.arr 2 ((compA (l.take i.1)).map Asg.pv))],fun i=>l.length-i.1,⟨⟨0,Nat.zero_le _⟩,(by refine Wk.of ?_ ?_ rfl rfl rfl<;>repeat' (first|exact trivial|exact WkD.same _|exact WkD.new' rfl rfl rfl|exact WkO.new _ _ rfl|exact rfl|refine⟨?_,?_⟩|fail))⟩,?_⟩;rintro⟨i,hi⟩
  (try conv=>whnf);repeat' (first|((first|apply And.intro|intro h)<;>try conv=>whnf)|(apply q0i;rfl))
  ·have hi':i<l.length:=by simpa using q0j h
   obtain⟨x,hx⟩:∃ x,l[i]? = some x:=⟨_,List.getElem?_eq_getElem hi'⟩;have hvsl:((compA (l.take i)).map Asg.pv).length<=1000:=by simp[compA];omega
   have er:(compA (l.take i)).map Asg.pv++[.agg [.int .i64 x.fact,fpv (q0u x.to)]]=(compA (l.take (i+1))).map Asg.pv:=by
    rw[compA,compA,List.take_add_one,hx,List.map_append,List.map_append];rfl
   refine⟨_,_,rfl,q0a hx,rfl,?_⟩
   try conv=>whnf
   refine⟨Plan.lin 0 10,[],by kernel_rfl,?_⟩
   (try conv=>whnf);repeat' (first|(apply And.intro<;>try conv=>whnf)|(apply q0p;rfl)|(apply szI;rfl)|(refine⟨_,(by (conv=>whnf);exact fm_Compact _),rfl,?_⟩;try conv=>whnf)|fail)
   ·exact z0l (n:=1000) hvsl (by decide)
   ·refine⟨⟨i+1,hi'⟩,by show l.length-(i+1)<l.length-i;omega,?_⟩
    (refine Wk.of ?_ ?_ rfl rfl rfl<;>repeat' (first|exact trivial|exact WkD.same _|exact WkD.eq (congrArg (fun z:List PV=>DV.buf _ z.length) er)|exact WkO.same _ _ (congrArg (fun z=>some (DObj.arr _ z)) er)|refine WkD.int ?_|refine⟨?_,?_⟩|(apply q0h;(focus simp;done);all_goals (try dsimp only);omega)|fail))
  ·have hi':i=l.length:=by have:=q0k (m:=(l.map Asg.pv).length) h (by simpa using hi);simpa using this
   subst hi';exact⟨(),(by refine Wk.of ?_ ?_ rfl rfl rfl<;>repeat' (first|exact trivial|exact WkD.fz _ _ _ rfl (Or.inl ⟨_,rfl⟩) rfl|refine⟨?_,?_⟩|fail))⟩
 rintro _
 try conv=>whnf
 rw[List.take_length];exact .refl _
theorem cp_after (a:Act) (e:Nat) (f:List Nd) (hS:SmX a):PanFn Tryz.prog 70 [a.pv,i64 e,fpv f] (toE fpv (aftE a e f)):=by
 have hA:=red_After a e f hS;obtain⟨R,hR⟩:∃ R,R=aftE a e f:=⟨_,rfl⟩;rw[<- hR];rw[aftE] at hR;generalize aftI a e f=X at hA hR;obtain⟨g,c⟩:=X;refine PanFn.introC [] mixed (fn:=Tryz.f70) rfl rfl rfl fun M w => ?_
 (try conv=>whnf);repeat' (first|((first|apply And.intro|intro h)<;>try conv=>whnf)|(refine PureFn.dy hA rfl ?_;try conv=>whnf)|fail)
 ·rw[hR]
  show toE fpv (bif c != 0 then Except.error c else Except.ok g)=_
  rw[show (c != 0)=true from h];rfl
 ·rw[hR];refine⟨fpv g,?_,.refl _⟩
  show toE fpv (bif c != 0 then Except.error c else Except.ok g)=_
  rw[show (c != 0)=false from h];rfl
set_option maxHeartbeats 8000000
def cloPlan:Plan:=.one 0 (.one 1 (.two 2 (.one 3 (.one 4 (.one 5 .done))) 4 (.one 2 (.one 3 (.one 5 .done)))))
def cellsZ:List DV:=[.pv .nil,.pv .nil,.pv .nil]
theorem cp_Compose (a b:Act) (hSa:SmX a) (hSb:SmX b) (hAs:q0v a=0->q0v b=0->∀ e f,e<a.pre.length->f<b.pre.length->PanFn Tryz.prog 71 [a.pv,i64 e,q0q (b.post.getD f [])] (toE q0q (asgE a e (b.post.getD f [])))) :
  PureFn Tryz.prog 23 [a.pv,b.pv] (pairA (composeI a b)):=by
 have hCa:=cp_check a hSa;have hCb:=cp_check b hSb;have e1:((a.pre.map fpv).length:Int)=(a.pre.length:Int):=by simp
 have e2:((b.pre.map fpv).length:Int)=(b.pre.length:Int):=by simp
 have e3:((a.rel.map q0b).length:Int)=(a.rel.length:Int):=by simp
 have e4:((b.rel.map q0b).length:Int)=(b.rel.length:Int):=by simp
 obtain⟨R,hR⟩:∃ R,R=composeI a b:=⟨_,rfl⟩;rw[<- hR];rw[composeI] at hR;refine PureFn.ofDC rfl fun M w => ?_
 refine DC.introD [5,8,10,13,20,25,42,45] 6 mixed (fn:=Tryz.f23) (g:=69) (gn:=Tryz.f69) rfl rfl rfl rfl rfl rfl (by decide) (by decide) (by decide) (by decide) rfl rfl rfl rfl rfl rfl rfl rfl rfl rfl rfl rfl rfl rfl rfl (by decide) (by decide) rfl ?_
 try conv=>whnf
 refine⟨4,.ref 2 0,.ref 3 0,rfl,rfl,rfl,?_⟩
 try conv=>whnf
 refine⟨{ _x:Unit // q0v a=0 },fun _=>[(2,.ref 0 0),(3,.ref 1 0),(4,.ref 2 0),(5,.ref 3 0)],fun _=>4,fun _=>[(0,.var (q0c a)),(1,.var (q0c b)),(2,.var cellsZ),(3,.var [.pv (.int .i64 0)])],?_,?_⟩
 ·(try conv=>whnf);repeat' (first|(apply And.intro<;>try conv=>whnf)|(intro h;first|with_reducible exact ft0 h|try conv=>whnf)|(refine PureFn.dy hCa rfl ?_;try conv=>whnf)|fail)
  ·rename_i h1;rw[hR,show (q0v a != 0)=true from h1];exact le_noAct _
  ·exact⟨⟨(),by simpa using h⟩,(by exact Wk.s rfl)⟩
 rintro⟨_,ha0⟩;have g1:(q0v a != 0)=false:=by simpa using ha0
 refine⟨{ _x:Unit // q0v b=0 },fun _=>[(2,.ref 0 0),(3,.ref 1 0),(4,.ref 2 0),(5,.ref 3 0)],fun _=>4,fun _=>[(0,.var (q0c a)),(1,.var (q0c b)),(2,.var cellsZ),(3,.var [.pv (.int .i64 0)])],?_,?_⟩
 ·(try conv=>whnf);repeat' (first|(apply And.intro<;>try conv=>whnf)|(intro h;first|with_reducible exact ft0 h|try conv=>whnf)|(refine PureFn.dy hCb rfl ?_;try conv=>whnf)|fail)
  ·rename_i h1;rw[hR,g1,show (q0v b != 0)=true from h1];exact le_noAct _
  ·exact⟨⟨(),by simpa using h⟩,(by exact Wk.s rfl)⟩
 rintro⟨_,hb0⟩;have g2:(q0v b != 0)=false:=by simpa using hb0
 refine⟨{ _x:Unit // a.rel.length=b.rel.length },fun _=>[(2,.ref 0 0),(3,.ref 1 0),(4,.ref 2 0),(5,.ref 3 0)],fun _=>4,fun _=>[(0,.var (q0c a)),(1,.var (q0c b)),(2,.var cellsZ),(3,.var [.pv (.int .i64 0)])],?_,?_⟩
 ·(try conv=>whnf);repeat' (first|(apply And.intro<;>try conv=>whnf)|(intro h;first|with_reducible exact ft0 h|try conv=>whnf))
  ·rename_i h1;rw[hR,g1,g2,show ((a.rel.length:Int) != (b.rel.length:Int))=true by rw[<- e3,<- e4];exact h1];exact le_noAct _
  ·exact⟨⟨(),by
           rw[e3,e4] at h;have:(a.rel.length:Int)=(b.rel.length:Int):=by simpa using h
           omega⟩,(by exact Wk.s rfl)⟩
 rintro⟨_,hrl⟩;have g3:((a.rel.length:Int) != (b.rel.length:Int))=false:=by simp[hrl]
 have hOa:=actI_ok ha0;have hOb:=actI_ok hb0;have n8:=hOa.n8;have m8:=hOb.n8;have n1:=hOa.n1;have m1:=hOb.n1
 have hwr:IntKind.wrap .i64 (((a.pre.map fpv).length:Int)*((b.pre.map fpv).length:Int))=((a.pre.length*b.pre.length:Nat):Int):=by
  have:=Nat.mul_le_mul n8 m8;rw[e1,e2,Go.Dv.wrap_small (by omega) (by omega)];simp
 refine⟨{ _x:Unit // a.pre.length*b.pre.length<=8 },fun _=>[(8,.pv (i64 (b.pre.map fpv).length)),(2,.ref 0 0),(3,.ref 1 0),(4,.ref 2 0),(5,.ref 3 0)],fun _=>4,fun _=>[(0,.var (q0c a)),(1,.var (q0c b)),(2,.var cellsZ),(3,.var [.pv (.int .i64 0)])],?_,?_⟩
 ·(try conv=>whnf);repeat' (first|(apply And.intro<;>try conv=>whnf)|(intro h;first|with_reducible exact ft0 h|try conv=>whnf))
  ·rename_i h1;rw[hR,g1,g2,g3,show decide ((a.pre.length:Int)*(b.pre.length:Int)>8)=true by rw[hwr] at h1;simpa using h1];exact le_noAct _
  ·exact⟨⟨(),by rw[hwr] at h;have:=of_decide_eq_false h;omega⟩,(by exact Wk.s rfl)⟩
 rintro⟨_,hnm⟩
 have g4:decide ((a.pre.length:Int)*(b.pre.length:Int)>8)=false:=by
  refine decide_eq_false ?_;have:((a.pre.length*b.pre.length:Nat):Int)=(a.pre.length:Int)*(b.pre.length:Int):=by simp
  omega
 rw[g1,g2,g3,g4] at hR;simp only[cond_false] at hR;have hcl:(prs a.pre.length b.pre.length).length=a.pre.length*b.pre.length:=prs_len _ _
 try conv=>whnf
 refine⟨{ l:List (List Nd×List Asg) // runE (cellE a b) (prs a.pre.length b.pre.length)=.ok l },fun _=>[(8,.pv (i64 (b.pre.map fpv).length)),(2,.ref 0 0),(3,.ref 1 0),(4,.ref 2 0),(5,.ref 3 0)],fun _=>4,fun l=>[(0,.var (q0c a)),(1,.var (q0c b)),(2,.var [.pv (.sl ((l.1.map (·.1)).map fpv)),.pv (.sl ((l.1.map (·.2)).map q0q)),.pv .nil]),(3,.var [.pv (.int .i64 0)])],?_,?_⟩
 ·refine⟨{ x:Nat×List (List Nd×List Asg) // x.1<=a.pre.length/\runE (cellE a b) ((prs a.pre.length b.pre.length).take (x.1*b.pre.length))=.ok x.2 },fun x=>[(8,.pv (i64 (b.pre.map fpv).length)),(51,.pv (i64 (a.pre.map fpv).length)),(52,.pv (i64 x.1.1)),(2,.ref 0 0),(3,.ref 1 0),(4,.ref 2 0),(5,.ref 3 0)],fun _=>6,fun x=>[(0,.var (q0c a)),(1,.var (q0c b)),(2,.var [.buf 4 ((x.1.2.map (·.1)).map fpv).length,.buf 5 ((x.1.2.map (·.2)).map q0q).length,.pv .nil]),(3,.var [.pv (.int .i64 0)]),(4,.arr 1 ((x.1.2.map (·.1)).map fpv)),(5,.arr 1 ((x.1.2.map (·.2)).map q0q))],fun x=>a.pre.length-x.1.1,⟨⟨(0,[]),Nat.zero_le _,by rw[Nat.zero_mul];rfl⟩,(by refine Wk.of ?_ ?_ rfl rfl rfl<;>repeat' (first|exact trivial|exact WkD.same _|exact WkO.same _ _ rfl|exact WkD.new' rfl rfl rfl|exact WkO.new _ _ rfl|refine WkO.vars rfl ?_|exact rfl|refine⟨?_,?_⟩|fail))⟩,?_⟩;rintro⟨⟨e,acc⟩,he,hacc⟩
  (try conv=>whnf);repeat' (first|((first|apply And.intro|intro h)<;>try conv=>whnf))
  ·have he':e<a.pre.length:=by simpa using q0j h
   refine⟨{ x:Nat×List (List Nd×List Asg) // x.1<=b.pre.length/\runE (cellE a b) ((prs a.pre.length b.pre.length).take (e*b.pre.length+x.1))=.ok x.2 },fun x=>[(8,.pv (i64 (b.pre.map fpv).length)),(51,.pv (i64 (a.pre.map fpv).length)),(52,.pv (i64 e)),(9,.pv (i64 e)),(57,.pv (i64 (b.pre.map fpv).length)),(58,.pv (i64 x.1.1)),(2,.ref 0 0),(3,.ref 1 0),(4,.ref 2 0),(5,.ref 3 0)],fun _=>6,fun x=>[(0,.var (q0c a)),(1,.var (q0c b)),(2,.var [.buf 4 ((x.1.2.map (·.1)).map fpv).length,.buf 5 ((x.1.2.map (·.2)).map q0q).length,.pv .nil]),(3,.var [.pv (.int .i64 0)]),(4,.arr 1 ((x.1.2.map (·.1)).map fpv)),(5,.arr 1 ((x.1.2.map (·.2)).map q0q))],fun x=>b.pre.length-x.1.1,⟨⟨(0,acc),Nat.zero_le _,hacc⟩,(by exact Wk.s rfl)⟩,?_⟩;rintro⟨⟨f,acc⟩,hf,hacc⟩
   (try conv=>whnf);repeat' (first|((first|apply And.intro|intro h)<;>try conv=>whnf))
   ·have hf':f<b.pre.length:=by simpa using q0j h
    have hcq:=prs_get he' hf';obtain⟨pa,hpa⟩:∃ y,a.pre[e]? = some y:=⟨_,List.getElem?_eq_getElem he'⟩;obtain⟨pb,hpb⟩:∃ y,b.pre[f]? = some y:=⟨_,List.getElem?_eq_getElem hf'⟩;have hpad:a.pre.getD e []=pa:=by rw[List.getD_eq_getElem?_getD,hpa];rfl
    have hpbd:b.pre.getD f []=pb:=by rw[List.getD_eq_getElem?_getD,hpb];rfl
    obtain⟨qb,hqb⟩:∃ y,b.post[f]? = some y:=⟨_,List.getElem?_eq_getElem (by rw[hOb.post];exact hf')⟩;have hqbd:b.post.getD f []=qb:=by rw[List.getD_eq_getElem?_getD,hqb];rfl
    have hAf:=cp_after a e pb hSa;have hAp:=fm_And pa;have hixa:=q0a (g:=fpv) hpa;have hixb:=q0a (g:=fpv) hpb
    have hcE:∀ c,cellE a b (e,f)=.error c->PLe (.tup [.agg [.nil,.nil,.nil],.int .i64 c]) (pairA R):=fun c hc=>by
     rw[hR,runE_bad hacc hcq hc];exact le_noAct c
    refine⟨{ x:List Nd×List Nd // aftE a e pb=.ok x.1/\x.2=q0d (n0 5) [pa,x.1] },fun x=>[(8,.pv (i64 (b.pre.map fpv).length)),(51,.pv (i64 (a.pre.map fpv).length)),(52,.pv (i64 e)),(9,.pv (i64 e)),(57,.pv (i64 (b.pre.map fpv).length)),(58,.pv (i64 f)),(10,.pv (i64 f)),(11,.pv (fpv x.1.2)),(2,.ref 0 0),(3,.ref 1 0),(4,.ref 2 0),(5,.ref 3 0)],fun _=>6,fun _=>[(0,.var (q0c a)),(1,.var (q0c b)),(2,.var [.buf 4 ((acc.map (·.1)).map fpv).length,.buf 5 ((acc.map (·.2)).map q0q).length,.pv .nil]),(3,.var [.pv (.int .i64 0)]),(4,.arr 1 ((acc.map (·.1)).map fpv)),(5,.arr 1 ((acc.map (·.2)).map q0q))],?_,?_⟩
    ·cases hq:aftE a e pb with
     |error c =>
      rw[hq] at hAf
      try conv=>whnf
      refine⟨Plan.lin 0 15,[12,1012,2000,2001,2003,2004],by kernel_rfl,?_⟩
      (try conv=>whnf);repeat' (first|(apply And.intro<;>try conv=>whnf)|(apply q0i;rfl)|(refine⟨_,_,rfl,q0a (by with_reducible assumption),rfl,?_⟩;try conv=>whnf)|fail)
      refine PanFn.dcq hAf ?_
      (try conv=>whnf);repeat' (first|(apply And.intro<;>try conv=>whnf)|(intro h;first|with_reducible exact tf0 h|try conv=>whnf)|apply True.intro)
      iterate 3 exact .refl _
      refine⟨cloPlan,[],by kernel_rfl,?_⟩
      (try conv=>whnf);repeat' (first|(apply And.intro<;>try conv=>whnf))
      all_goals exact hcE c (cell_e1 hpad hpbd hqbd hq)
     |ok g =>
      rw[hq] at hAf
      try conv=>whnf
      refine⟨Plan.lin 0 15,[12,1012,2000,2001,2003,2004],by kernel_rfl,?_⟩
      (try conv=>whnf);repeat' (first|(apply And.intro<;>try conv=>whnf)|(apply q0i;rfl)|(refine⟨_,_,rfl,q0a (by with_reducible assumption),rfl,?_⟩;try conv=>whnf)|fail)
      refine PanFn.dcq hAf ?_
      (try conv=>whnf);repeat' (first|((first|apply And.intro|intro h)<;>try conv=>whnf)|apply True.intro|with_reducible assumption|(refine⟨_,(by (conv=>whnf);exact hAp _),rfl,?_⟩;try conv=>whnf)|fail)
      iterate 3 exact .refl _
      exact⟨⟨(g,q0d (n0 5) [pa,g]),by first|rfl|exact hq,rfl⟩,(by exact Wk.s rfl)⟩
    rintro⟨⟨g,p⟩,hg,hp⟩;have hg:aftE a e pb=.ok g:=hg;have hp:p=q0d (n0 5) [pa,g]:=hp;have hAss:=hAs ha0 hb0 e f he' hf';have hixq:=q0a (g:=q0q) hqb;rw[hqbd] at hAss
    have hal:acc.length<=8:=by
     rw[runE_len hacc,List.length_take,hcl];omega
    have hs1:((acc.map (·.1)).map fpv).length<=1000:=by simp;omega
    have hs2:((acc.map (·.2)).map q0q).length<=1000:=by simp;omega
    (try conv=>whnf);repeat' (first|(apply And.intro<;>try conv=>whnf)|(intro h;first|with_reducible exact tf0 h|try conv=>whnf))
    ·rename_i h1;have hem:p.isEmpty=true:=by simpa using h1
     refine⟨cloPlan,[],by kernel_rfl,?_⟩
     (try conv=>whnf);repeat' (first|(apply And.intro<;>try conv=>whnf))
     all_goals exact hcE 8 (cell_e2 hpad hpbd hqbd hg (by rw[<- hp];exact hem))
    have hpe:p.isEmpty=false:=by simpa using h
    cases hq2:asgE a e qb with
    |error c =>
     rw[hq2] at hAss;refine⟨Plan.ofL [0,1,2,3,5,6,7,8,9,10,11,12,13,4,17,14,15,16,18,19,20],[14,18,20,1014,1004,1016,2017,2005,2006,2007,2009,2010,2012,2013],by kernel_rfl,?_⟩
     (try conv=>whnf);repeat' (first|((first|apply And.intro|intro h)<;>try conv=>whnf)|(apply q0i;rfl)|(apply q0p;rfl)|(apply szI;rfl)|(refine⟨_,_,rfl,q0a (by with_reducible assumption),rfl,?_⟩;try conv=>whnf)|fail)
     ·exact z0l (n:=1000) hs1 (by decide)
     ·exact ExtV.put (k:=4) (fun cs h=>by cases h) _ _ h
     refine PanFn.dcq hAss ?_
     (try conv=>whnf);repeat' (first|(apply And.intro<;>try conv=>whnf)|(intro h;first|with_reducible exact tf0 h|try conv=>whnf)|apply True.intro)
     iterate 3 exact .refl _
     refine⟨cloPlan,[],by kernel_rfl,?_⟩
     (try conv=>whnf);repeat' (first|(apply And.intro<;>try conv=>whnf))
     all_goals exact hcE c (cell_e3 hpad hpbd hqbd hg (by rw[<- hp];exact hpe) hq2)
    |ok l =>
     rw[hq2] at hAss;refine⟨Plan.ofL [0,1,2,3,5,6,7,8,9,10,11,12,13,4,17,14,15,16,18,19,20],[14,18,20,1014,1004,1016,2017,2005,2006,2007,2009,2010,2012,2013],by kernel_rfl,?_⟩
     (try conv=>whnf);repeat' (first|((first|apply And.intro|intro h)<;>try conv=>whnf)|(apply q0i;rfl)|(apply q0p;rfl)|(apply szI;rfl)|(refine⟨_,_,rfl,q0a (by with_reducible assumption),rfl,?_⟩;try conv=>whnf)|fail)
     ·exact z0l (n:=1000) hs1 (by decide)
     ·exact ExtV.put (k:=4) (fun cs h=>by cases h) _ _ h
     refine PanFn.dcq hAss ?_
     (try conv=>whnf);repeat' (first|((first|apply And.intro|intro h)<;>try conv=>whnf)|apply True.intro|(apply q0p;rfl)|(apply szI;rfl)|with_reducible assumption)
     iterate 3 exact .refl _
     ·exact z0l (n:=1000) hs2 (by decide)
     ·exact ExtV.put (k:=5) (fun cs h=>by cases h) _ _ h
     have hnx:=runE_take hacc hcq (cell_ok hpad hpbd hqbd hg (by rw[<- hp];exact hpe) hq2);rw[<- hp] at hnx;have ep:(acc.map (·.1)).map fpv++[.sl (p.map Nd.pv)]=((acc++[(p,l)]).map (·.1)).map fpv:=by rw[List.map_append,List.map_append];rfl
     have eq:(acc.map (·.2)).map q0q++[.sl (l.map Asg.pv)]=((acc++[(p,l)]).map (·.2)).map q0q:=by rw[List.map_append,List.map_append];rfl
     refine⟨⟨(f+1,acc++[(p,l)]),hf',hnx⟩,by show b.pre.length-(f+1)<b.pre.length-f;omega,?_⟩
     (refine Wk.of ?_ ?_ rfl rfl rfl<;>repeat' (first|exact trivial|exact WkD.same _|exact WkO.same _ _ rfl|exact WkD.eq (congrArg (fun z:List PV=>DV.buf _ z.length) ep)|exact WkO.same _ _ (congrArg (fun z=>some (DObj.arr _ z)) ep)|exact WkD.eq (congrArg (fun z:List PV=>DV.buf _ z.length) eq)|exact WkO.same _ _ (congrArg (fun z=>some (DObj.arr _ z)) eq)|refine WkD.int ?_|refine WkO.vars rfl ?_|refine⟨?_,?_⟩|(apply q0h;(focus simp;done);all_goals (try dsimp only);omega)|fail))
   ·have hf':f=b.pre.length:=by have:=q0k (m:=(b.pre.map fpv).length) h (by simpa using hf);simpa using this
    subst hf';exact⟨⟨(e+1,acc),he',by rw[Nat.succ_mul];exact hacc⟩,by show a.pre.length-(e+1)<a.pre.length-e;omega,(by refine Wk.of ?_ ?_ rfl rfl rfl<;>repeat' (first|exact trivial|exact WkD.same _|exact WkO.same _ _ rfl|refine WkD.int ?_|refine⟨?_,?_⟩|(apply q0h;(focus simp;done);all_goals (try dsimp only);omega)|fail))⟩
  ·have he':e=a.pre.length:=by have:=q0k (m:=(a.pre.map fpv).length) h (by simpa using he);simpa using this
   subst he';rw[List.take_of_length_le (by rw[hcl];exact Nat.le_refl _)] at hacc;exact⟨⟨acc,hacc⟩,(by refine Wk.of ?_ ?_ rfl rfl rfl<;>repeat' (first|exact trivial|exact WkD.same _|exact WkO.same _ _ rfl|exact WkD.fz _ _ _ rfl (Or.inl ⟨_,rfl⟩) rfl|refine WkO.vars rfl ?_|refine⟨?_,?_⟩|fail))⟩
 rintro⟨l,hl⟩;rw[hl] at hR;have hll:l.length<=8:=by rw[runE_len hl,hcl];exact hnm
 have hrla:(relsC a b).length=a.rel.length:=by simp[relsC]
 try conv=>whnf
 refine⟨{ i:Nat // i<=a.rel.length },fun i=>[(8,.pv (i64 (b.pre.map fpv).length)),(103,.pv (i64 (a.rel.map q0b).length)),(104,.pv (i64 i.1)),(2,.ref 0 0),(3,.ref 1 0),(4,.ref 2 0),(5,.ref 3 0)],fun _=>5,fun i=>[(0,.var (q0c a)),(1,.var (q0c b)),(2,.var [.pv (.sl ((l.map (·.1)).map fpv)),.pv (.sl ((l.map (·.2)).map q0q)),.buf 4 (((relsC a b).take i.1).map q0b).length]),(3,.var [.pv (.int .i64 0)]),(4,.arr 1 (((relsC a b).take i.1).map q0b))],fun i=>a.rel.length-i.1,⟨⟨0,Nat.zero_le _⟩,(by refine Wk.of ?_ ?_ rfl rfl rfl<;>repeat' (first|exact trivial|exact WkD.same _|exact WkO.same _ _ rfl|exact WkD.new' rfl rfl rfl|exact WkO.new _ _ rfl|refine WkO.vars rfl ?_|exact rfl|refine⟨?_,?_⟩|fail))⟩,?_⟩;rintro⟨i,hi⟩
 (try conv=>whnf);repeat' (first|(apply And.intro<;>try conv=>whnf)|(intro h;first|with_reducible exact ft0 h|try conv=>whnf)|(apply bleI;rfl))
 ·have hi':i<a.rel.length:=by simpa using q0j h
  obtain⟨ra,hra⟩:∃ y,a.rel[i]? = some y:=⟨_,List.getElem?_eq_getElem hi'⟩;obtain⟨rb,hrb⟩:∃ y,b.rel[i]? = some y:=⟨_,List.getElem?_eq_getElem (by rw[<- hrl];exact hi')⟩;have hra1:=List.mem_iff_getElem?.2 ⟨_,hra⟩;have hrb1:=List.mem_iff_getElem?.2 ⟨_,hrb⟩;have hral:=hOa.rows ra hra1;have hrbl:=hOb.rows rb hrb1;have hrab:=hOa.bits ra hra1;have hrbb:=hOb.bits rb hrb1;obtain⟨row,hrow⟩:∃ row,row=rowC ra rb a.pre.length b.pre.length:=⟨_,rfl⟩;have hrwl:row.length=a.pre.length*b.pre.length:=by rw[hrow,rowC,List.length_map,hcl]
  have hri:(relsC a b)[i]? = some row:=by
   rw[relsC,List.getElem?_map,List.getElem?_range hi',Option.map_some,List.getD_eq_getElem?_getD,List.getD_eq_getElem?_getD,hra,hrb,hrow];rfl
  have er:((relsC a b).take i).map q0b++[q0b row]=((relsC a b).take (i+1)).map q0b:=(take_map (f:=q0b) hri).symm;have hixa:=q0a (g:=q0b) hra;have hixb:=q0a (g:=q0b) hrb;have hsz:(((relsC a b).take i).map q0b).length<=1000:=by have:=hOa.agn;simp;omega
  refine⟨Unit,fun _=>[(8,.pv (i64 (b.pre.map fpv).length)),(103,.pv (i64 (a.rel.map q0b).length)),(104,.pv (i64 i)),(12,.pv (i64 i)),(13,.pv (.sl ((row.take row.length).map u64))),(2,.ref 0 0),(3,.ref 1 0),(4,.ref 2 0),(5,.ref 3 0)],fun _=>5,fun _=>[(0,.var (q0c a)),(1,.var (q0c b)),(2,.var [.pv (.sl ((l.map (·.1)).map fpv)),.pv (.sl ((l.map (·.2)).map q0q)),.buf 4 (((relsC a b).take i).map q0b).length]),(3,.var [.pv (.int .i64 0)]),(4,.arr 1 (((relsC a b).take i).map q0b))],?_,?_⟩
  ·try conv=>whnf
   refine⟨{ e:Nat // e<=a.pre.length },fun e=>[(8,.pv (i64 (b.pre.map fpv).length)),(103,.pv (i64 (a.rel.map q0b).length)),(104,.pv (i64 i)),(12,.pv (i64 i)),(13,.buf 5 ((row.take (b.pre.length*e.1)).map u64).length),(109,.pv (i64 (a.pre.map fpv).length)),(110,.pv (i64 e.1)),(2,.ref 0 0),(3,.ref 1 0),(4,.ref 2 0),(5,.ref 3 0)],fun _=>6,fun e=>[(0,.var (q0c a)),(1,.var (q0c b)),(2,.var [.pv (.sl ((l.map (·.1)).map fpv)),.pv (.sl ((l.map (·.2)).map q0q)),.buf 4 (((relsC a b).take i).map q0b).length]),(3,.var [.pv (.int .i64 0)]),(4,.arr 1 (((relsC a b).take i).map q0b)),(5,.arr 1 ((row.take (b.pre.length*e.1)).map u64))],fun e=>a.pre.length-e.1,⟨⟨0,Nat.zero_le _⟩,(by refine Wk.of ?_ ?_ rfl rfl rfl<;>repeat' (first|exact trivial|exact WkD.same _|exact WkO.same _ _ rfl|exact WkD.new' rfl rfl rfl|exact WkO.new _ _ rfl|exact rfl|refine⟨?_,?_⟩|fail))⟩,?_⟩;rintro⟨e,he⟩
   (try conv=>whnf);repeat' (first|((first|apply And.intro|intro h)<;>try conv=>whnf))
   ·have he':e<a.pre.length:=by simpa using q0j h
    obtain⟨x,hx⟩:∃ y,ra[e]? = some y:=⟨_,List.getElem?_eq_getElem (by rw[hral];exact he')⟩;have hxb:x<2^64:=Nat.lt_of_lt_of_le (hrab x (List.mem_iff_getElem?.2 ⟨_,hx⟩)) (Nat.pow_le_pow_right (by decide) (by omega));have hixx:=q0a (g:=u64) hx;refine⟨{ f:Nat // f<=b.pre.length },fun f=>[(8,.pv (i64 (b.pre.map fpv).length)),(103,.pv (i64 (a.rel.map q0b).length)),(104,.pv (i64 i)),(12,.pv (i64 i)),(13,.buf 5 ((row.take (b.pre.length*e+f.1)).map u64).length),(109,.pv (i64 (a.pre.map fpv).length)),(110,.pv (i64 e)),(14,.pv (i64 e)),(115,.pv (i64 (b.pre.map fpv).length)),(116,.pv (i64 f.1)),(2,.ref 0 0),(3,.ref 1 0),(4,.ref 2 0),(5,.ref 3 0)],fun _=>6,fun f=>[(0,.var (q0c a)),(1,.var (q0c b)),(2,.var [.pv (.sl ((l.map (·.1)).map fpv)),.pv (.sl ((l.map (·.2)).map q0q)),.buf 4 (((relsC a b).take i).map q0b).length]),(3,.var [.pv (.int .i64 0)]),(4,.arr 1 (((relsC a b).take i).map q0b)),(5,.arr 1 ((row.take (b.pre.length*e+f.1)).map u64))],fun f=>b.pre.length-f.1,⟨⟨0,Nat.zero_le _⟩,(by exact Wk.s rfl)⟩,?_⟩;rintro⟨f,hf⟩
    (try conv=>whnf);repeat' (first|((first|apply And.intro|intro h)<;>try conv=>whnf))
    ·have hf':f<b.pre.length:=by simpa using q0j h
     obtain⟨y,hy⟩:∃ y,rb[f]? = some y:=⟨_,List.getElem?_eq_getElem (by rw[hrbl];exact hf')⟩;have hyb:=hrbb y (List.mem_iff_getElem?.2 ⟨_,hy⟩);have hixy:=q0a (g:=u64) hy
     have hrf:row[b.pre.length*e+f]? = some (joinN x y b.pre.length a.pre.length):=by
      rw[hrow,rowC,List.getElem?_map,Nat.mul_comm,prs_get he' hf',Option.map_some,List.getD_eq_getElem?_getD,List.getD_eq_getElem?_getD,hx,hy];rfl
     have erf:(row.take (b.pre.length*e+f)).map u64++[u64 (joinN x y b.pre.length a.pre.length)]=(row.take (b.pre.length*e+f+1)).map u64:=(take_map (f:=u64) hrf).symm;have hsf:((row.take (b.pre.length*e+f)).map u64).length<=1000:=by simp;omega
     have hst:∀ g,g<a.pre.length->joinN x y b.pre.length g<2^64/\y*2^(g*b.pre.length)<2^64/\IntKind.wrap .i64 ((g:Int)*((b.pre.map fpv).length:Int))=((g*b.pre.length:Nat):Int)/\shlU y ((g*b.pre.length:Nat):Int)=((y*2^(g*b.pre.length):Nat):Int):=fun g hg=>by
      have h1:(g+1)*b.pre.length<=8:=Nat.le_trans (Nat.mul_le_mul_right _ hg) hnm;have h2:(g+1)*b.pre.length=g*b.pre.length+b.pre.length:=Nat.succ_mul _ _;have h3:joinN x y b.pre.length g<2^64:=Nat.lt_of_lt_of_le (joinN_lt hyb g) (Nat.pow_le_pow_right (by decide) (by omega))
      have h4:y*2^(g*b.pre.length)<2^64:=by
       refine Nat.lt_of_lt_of_le (Nat.mul_lt_mul_of_pos_right hyb (Nat.two_pow_pos _)) ?_;rw[<- Nat.pow_add];exact Nat.pow_le_pow_right (by decide) (by omega)
      refine⟨h3,h4,?_,shlU_mul (by omega) h4⟩;have h5:((g:Int)*((b.pre.map fpv).length:Int))=((g*b.pre.length:Nat):Int):=by rw[e2];simp
      rw[h5,Go.Dv.wrap_small (by omega) (by omega)]
     refine⟨Unit,fun _=>[(8,.pv (i64 (b.pre.map fpv).length)),(103,.pv (i64 (a.rel.map q0b).length)),(104,.pv (i64 i)),(12,.pv (i64 i)),(13,.buf 5 ((row.take (b.pre.length*e+f)).map u64).length),(109,.pv (i64 (a.pre.map fpv).length)),(110,.pv (i64 e)),(14,.pv (i64 e)),(115,.pv (i64 (b.pre.map fpv).length)),(116,.pv (i64 f)),(15,.pv (i64 f)),(16,.pv (u64 (joinN x y b.pre.length a.pre.length))),(2,.ref 0 0),(3,.ref 1 0),(4,.ref 2 0),(5,.ref 3 0)],fun _=>6,fun _=>[(0,.var (q0c a)),(1,.var (q0c b)),(2,.var [.pv (.sl ((l.map (·.1)).map fpv)),.pv (.sl ((l.map (·.2)).map q0q)),.buf 4 (((relsC a b).take i).map q0b).length]),(3,.var [.pv (.int .i64 0)]),(4,.arr 1 (((relsC a b).take i).map q0b)),(5,.arr 1 ((row.take (b.pre.length*e+f)).map u64))],?_,?_⟩
     ·try conv=>whnf
      refine⟨{ g:Nat // g<=a.pre.length },fun g=>[(8,.pv (i64 (b.pre.map fpv).length)),(103,.pv (i64 (a.rel.map q0b).length)),(104,.pv (i64 i)),(12,.pv (i64 i)),(13,.buf 5 ((row.take (b.pre.length*e+f)).map u64).length),(109,.pv (i64 (a.pre.map fpv).length)),(110,.pv (i64 e)),(14,.pv (i64 e)),(115,.pv (i64 (b.pre.map fpv).length)),(116,.pv (i64 f)),(15,.pv (i64 f)),(16,.pv (u64 (joinN x y b.pre.length g.1))),(121,.pv (i64 (a.pre.map fpv).length)),(122,.pv (i64 g.1)),(2,.ref 0 0),(3,.ref 1 0),(4,.ref 2 0),(5,.ref 3 0)],fun _=>6,fun _=>[(0,.var (q0c a)),(1,.var (q0c b)),(2,.var [.pv (.sl ((l.map (·.1)).map fpv)),.pv (.sl ((l.map (·.2)).map q0q)),.buf 4 (((relsC a b).take i).map q0b).length]),(3,.var [.pv (.int .i64 0)]),(4,.arr 1 (((relsC a b).take i).map q0b)),(5,.arr 1 ((row.take (b.pre.length*e+f)).map u64))],fun g=>a.pre.length-g.1,⟨⟨0,Nat.zero_le _⟩,(by exact Wk.s rfl)⟩,?_⟩;rintro⟨g,hg⟩
      (try conv=>whnf);repeat' (first|((first|apply And.intro|intro h)<;>try conv=>whnf)|(apply q0i;rfl)|(refine⟨_,_,rfl,q0a (by with_reducible assumption),rfl,?_⟩;try conv=>whnf)|fail)
      ·exact Int.natCast_nonneg g
      ·rename_i h1;have hg':g<a.pre.length:=by simpa using q0j h1
       show (0:Int)<=IntKind.wrap .i64 ((g:Int)*((b.pre.map fpv).length:Int))
       rw[(hst g hg').2.2.1];exact Int.natCast_nonneg _
      ·rename_i h1;have hg':g<a.pre.length:=by simpa using q0j h1
       obtain⟨q1,q2,q3,q4⟩:=hst g hg';have hb:x.testBit g=true:=(bit_one hxb (show g<64 by omega)).symm.trans h
       have hup:orU (joinN x y b.pre.length g:Nat) (shlU y (IntKind.wrap .i64 ((g:Int)*((b.pre.map fpv).length:Int))))=((joinN x y b.pre.length (g+1):Nat):Int):=by
        rw[q3,q4,orU_nat q1 q2,joinN,hb];rfl
       refine⟨⟨g+1,hg'⟩,by show a.pre.length-(g+1)<a.pre.length-g;omega,?_⟩
       (refine Wk.of ?_ ?_ rfl rfl rfl<;>repeat' (first|exact trivial|exact WkD.same _|exact WkO.same _ _ rfl|refine WkD.int ?_|refine⟨?_,?_⟩|(apply q0h;(focus simp;done);all_goals (try dsimp only);omega)|fail))
       exact hup
      ·rename_i h1;have hg':g<a.pre.length:=by simpa using q0j h1
       have hb:x.testBit g=false:=(bit_one hxb (show g<64 by omega)).symm.trans h;have hup:joinN x y b.pre.length g=joinN x y b.pre.length (g+1):=by rw[joinN,hb];rfl
       refine⟨⟨g+1,hg'⟩,by show a.pre.length-(g+1)<a.pre.length-g;omega,?_⟩
       (refine Wk.of ?_ ?_ rfl rfl rfl<;>repeat' (first|exact trivial|exact WkD.same _|exact WkO.same _ _ rfl|refine WkD.int ?_|refine⟨?_,?_⟩|(apply q0h;(focus simp;done);all_goals (try dsimp only);omega)|fail))
       exact congrArg (fun z:Nat=>(z:Int)) hup
      ·have hg':g=a.pre.length:=by have:=q0k (m:=(a.pre.map fpv).length) h (by simpa using hg);simpa using this
       subst hg';exact⟨(),(by exact Wk.s rfl)⟩
     rintro _
     (try conv=>whnf);repeat' (first|(apply And.intro<;>try conv=>whnf)|(apply q0p;rfl)|(apply szI;rfl))
     ·exact z0l (n:=1000) hsf (by decide)
     ·refine⟨⟨f+1,hf'⟩,by show b.pre.length-(f+1)<b.pre.length-f;omega,?_⟩
      (refine Wk.of ?_ ?_ rfl rfl rfl<;>repeat' (first|exact trivial|exact WkD.same _|exact WkO.same _ _ rfl|exact WkD.eq (congrArg (fun z:List PV=>DV.buf _ z.length) erf)|exact WkO.same _ _ (congrArg (fun z=>some (DObj.arr _ z)) erf)|refine WkD.int ?_|refine⟨?_,?_⟩|(apply q0h;(focus simp;done);all_goals (try dsimp only);omega)|fail))
    ·have hf':f=b.pre.length:=by have:=q0k (m:=(b.pre.map fpv).length) h (by simpa using hf);simpa using this
     subst hf';exact⟨⟨e+1,he'⟩,by show a.pre.length-(e+1)<a.pre.length-e;omega,(by refine Wk.of ?_ ?_ rfl rfl rfl<;>repeat' (first|exact trivial|exact WkD.same _|exact WkO.same _ _ rfl|refine WkD.int ?_|refine⟨?_,?_⟩|(apply q0h;(focus simp;done);all_goals (try dsimp only);omega)|fail))⟩
   ·have he':e=a.pre.length:=by have:=q0k (m:=(a.pre.map fpv).length) h (by simpa using he);simpa using this
    have hwh:row.take (b.pre.length*e)=row.take row.length:=by rw[hrwl,he',Nat.mul_comm]
    refine⟨(),?_⟩;rw[<- hwh]
    (refine Wk.of ?_ ?_ rfl rfl rfl<;>repeat' (first|exact trivial|exact WkD.same _|exact WkO.same _ _ rfl|exact WkD.fz _ _ _ rfl (Or.inl ⟨_,rfl⟩) rfl|refine⟨?_,?_⟩|fail))
  rintro _;generalize hR9:row.take row.length=row9;obtain rfl:row9=row:=by rw[<- hR9,List.take_length]
  clear hR9
  (try conv=>whnf);repeat' (first|(apply And.intro<;>try conv=>whnf)|(apply q0p;rfl)|(apply szI;rfl))
  ·exact z0l (n:=1000) hsz (by decide)
  have hi4:=hOa.agn;refine⟨⟨i+1,hi'⟩,by show a.rel.length-(i+1)<a.rel.length-i;omega,?_⟩
  (refine Wk.of ?_ ?_ rfl rfl rfl<;>repeat' (first|exact trivial|exact WkD.same _|exact WkO.same _ _ rfl|exact WkD.eq (congrArg (fun z:List PV=>DV.buf _ z.length) er)|exact WkO.same _ _ (congrArg (fun z=>some (DObj.arr _ z)) er)|refine WkD.int ?_|refine WkO.vars rfl ?_|refine⟨?_,?_⟩|(apply q0h;(focus simp;done);all_goals (try dsimp only);omega)|fail))
 ·rename_i h1;have hi':i=(relsC a b).length:=by rw[hrla];have:=q0k (m:=(a.rel.map q0b).length) h1 (by simpa using hi);simpa using this
  subst hi';rw[hR]
  show PLe (.tup [.agg [.sl ((l.map (·.1)).map fpv),.sl ((l.map (·.2)).map q0q),.sl (((relsC a b).take (relsC a b).length).map q0b)],.int .i64 0]) (pairA (⟨l.map (·.1),l.map (·.2),relsC a b⟩,0))
  rw[List.take_length];exact .refl _
set_option maxHeartbeats 4000000
theorem cp_asg0 (a:Act) (e:Nat) (he:e<a.post.length) (hS:SmX a):PanFn Tryz.prog 71 [a.pv,i64 e,q0q []] (toE q0q (asgE a e [])):=by
 refine PureFn.pan (p:=q0q (compA (a.post.getD e []))) ?_;obtain⟨q,hq⟩:∃ y,a.post[e]? = some y:=⟨_,List.getElem?_eq_getElem he⟩;have hqd:a.post.getD e []=q:=by rw[List.getD_eq_getElem?_getD,hq];rfl
 rw[hqd];have hC:=cp_compact q (hS.post q (List.mem_iff_getElem?.2 ⟨_,hq⟩));have hix:=q0a (g:=q0q) hq;refine PureFn.intro mixed (fn:=Tryz.f71) rfl rfl rfl fun M w0 => ?_
 (try conv=>whnf);repeat' (first|(apply And.intro<;>try conv=>whnf)|(apply q0i;rfl)|(refine⟨_,_,rfl,q0a (by with_reducible assumption),rfl,?_⟩;try conv=>whnf)|(refine PureFn.dy hC rfl ?_;try conv=>whnf)|fail)
 refine⟨Unit,fun _=>[(7,.pv (q0q (compA q))),(20,.pv (.int .i64 0)),(21,.pv (.int .i64 0))],fun _=>0,fun _=>[],fun _=>0,⟨(),(by exact Wk.s rfl)⟩,?_⟩;rintro _
 (try conv=>whnf);repeat' (first|((first|apply And.intro|intro h)<;>try conv=>whnf))
 ·simp at h
 ·exact .refl _
theorem u_mod:∃ fs:Array Field,Tryz.prog.underlying 25=some (.struct fs)/\fs.toList.map (·.type)=[3,22,23]:=⟨_,rfl,by kernel_rfl⟩
theorem arg_mod {n:Nat} {p:PV} (h:TyA Tryz.prog (n+4) 25 p):∃ m:Mo,PLe p m.pv/\FitM m:=by
 obtain⟨cs,h,rfl⟩:=h;obtain⟨fs,hu,hf⟩:=u_mod;have hm:mkE Tryz.prog 25 cs=.agg cs:=by simp only[mkE,kindT,hu]
 obtain⟨a,b,r1,rfl,h1,hb,m1⟩:=fs_cons hf (tyS (n:=n+3) hu h);obtain⟨c,d,r2,rfl,h2,hd,m2⟩:=fs_cons m1 hb;obtain⟨e,g,r3,rfl,h3,hg,m3⟩:=fs_cons m2 hd;have:=fs_nil m3 hg;subst this;obtain⟨w,rfl,_⟩:=int_of (n:=n+2) h1;obtain⟨val,q2,rfl,l2,hv⟩:=slice_of (n:=n+2) (g:=u64) (Q:=fun s=>s<2^64) u_rowT (u64_el (n:=n+1)) h2;obtain⟨rel,q3,rfl,l3,hr⟩:=slice_of (n:=n+2) (g:=q0b) (Q:=fun r=>∀ s,s∈r->s<2^64) u_relT (fun p hp=>el_of (n:=n+1) u_rowT (u64_el (n:=n)) p hp) h3;refine⟨⟨w,val,rel⟩,?_,hv,hr⟩;rw[hm];exact PLe.aggs ⟨.refl _,l2,l3,trivial⟩
def facN (m:Mo) (w:Nat) (k:Nat):Nat:=z0g (fun i=>(m.val.getD i 0).testBit w) k
theorem fac_step {m:Mo} {w i x:Nat} (hw:w<64) (hi:i<8) (hx:x<2^64) (hF:facN m w i<2^62) (hg:m.val.getD i 0=x) :
  or64 (facN m w i:Nat) (shl64 (IntKind.wrap .i64 (andU (shrU (x:Nat) (w:Nat)) 1)) (i:Nat))=((facN m w (i+1):Nat):Int):=by
 have h1:andU (shrU (x:Nat) (w:Nat)) 1=((x.testBit w).toNat:Int):=by
  have:=andU_nat (a:=x >>> w) (b:=1) (Nat.lt_of_le_of_lt (by rw[Nat.shiftRight_eq_div_pow];exact Nat.div_le_self _ _) hx) (by decide);rw[shrU_nat x w (by omega)];rw[show (1:Int)=((1:Nat):Int) from rfl,this,Nat.and_one_is_mod]
  have:(x >>> w) % 2=(x.testBit w).toNat:=by
   rw[Nat.testBit,Nat.one_and_eq_mod_two]
   rcases Nat.mod_two_eq_zero_or_one (x >>> w) with h|h<;>rw[h]<;>rfl
  rw[this]
 rw[h1,facN,facN,z0g,hg]
 cases hb:x.testBit w with
 |true =>
  have h2:IntKind.wrap .i64 ((true.toNat:Nat):Int)=1:=by decide
  rw[h2,shl64_one (by omega) (by omega),Int.toNat_natCast];exact or64_nat hF (Nat.lt_of_lt_of_le (Nat.pow_lt_pow_right (by decide) hi) (by decide))
 |false =>
  have h2:IntKind.wrap .i64 ((false.toNat:Nat):Int)=0:=by decide
  have h3:shl64 0 (i:Nat)=((0:Nat):Int):=by rw[shl64,Int.zero_mul];decide
  rw[h2,h3];have:=or64_nat (b:=0) hF (by decide);rw[Nat.or_zero] at this;exact this
theorem md_Facts (m:Mo) (n w:Nat) (hf:FitM m) (hM:OkM m n) (hw:w<n):PureFn Tryz.prog 164 [m.pv,.int .i64 (w:Nat)] (.int .i64 (facN m w m.val.length:Nat)):=by
 refine PureFn.introC [3] mixed (fn:=Tryz.f164) rfl rfl rfl fun M w0 => ?_
 have hC:=md_Check m hf;rw[ok_moI hM] at hC;have hnn:=hM.nn;have hfa:=hM.fa
 try conv=>whnf
 refine⟨Unit,fun _=>[(1,.pv (.int .i64 (w:Nat))),(2,.ref 0 0)],fun _=>1,fun _=>[(0,.var (q0e m))],?_,?_⟩
 ·(try conv=>whnf);repeat' (first|((first|apply And.intro|intro h)<;>try conv=>whnf)|apply True.intro|(apply WhenQ.mk;(try conv=>whnf);rotate_left;(try conv=>whnf);rotate_right)|with_reducible assumption|(apply q0x;with_reducible assumption)|(refine PureFn.dy hC rfl ?_;try conv=>whnf)|fail)
  ·exfalso;rw[show decide ((w:Int)<0)=false from decide_eq_false (by omega),show decide ((w:Int)>=m.n)=false from decide_eq_false (by omega)] at h;exact absurd (show false=true from h) (by decide)
  ·exact⟨(),(by exact Wk.s rfl)⟩
 rintro⟨⟩
 try conv=>whnf
 refine⟨{ i:Nat // i<=m.val.length },fun i=>[(1,.pv (.int .i64 (w:Nat))),(2,.ref 0 0),(5,.pv (i64 (facN m w i.1))),(22,.pv (.sl (m.val.map u64))),(23,.pv (i64 (m.val.map u64).length)),(24,.pv (i64 i.1))],fun _=>1,fun _=>[(0,.var (q0e m))],fun i=>m.val.length-i.1,⟨⟨0,Nat.zero_le _⟩,(by exact Wk.s rfl)⟩,?_⟩;intro i;have hi:=i.2
 (try conv=>whnf);repeat' (first|((first|apply And.intro|intro h)<;>try conv=>whnf)|(apply q0i;rfl))
 ·have hi':i.1<m.val.length:=by simpa using q0j h
  have hm:m.val[i.1]? = some m.val[i.1]:=List.getElem?_eq_getElem hi';refine⟨_,_,rfl,q0a hm,rfl,?_⟩
  (try conv=>whnf);repeat' (first|(apply And.intro<;>try conv=>whnf))
  ·exact Int.natCast_nonneg _
  ·exact Int.natCast_nonneg _
  ·refine⟨⟨i.1+1,hi'⟩,by show m.val.length-(i.1+1)<m.val.length-i.1;omega,?_⟩
   (refine Wk.of ?_ ?_ rfl rfl rfl<;>repeat' (first|exact trivial|exact WkD.same _|exact WkO.same _ _ rfl|refine WkD.int ?_|refine⟨?_,?_⟩|(apply q0h;(focus simp;done);all_goals (try dsimp only);omega)|fail))
   have hx:m.val[i.1]<2^64:=hf.1 _ (List.getElem_mem hi');have hg:m.val.getD i.1 0=m.val[i.1]:=by rw[List.getD_eq_getElem?_getD,hm];rfl
   have hF:facN m w i.1<2^62:=Nat.lt_of_lt_of_le (maskOf_lt _ _) (Nat.pow_le_pow_right (by decide) (by omega));exact fac_step (by have:=hM.n64;omega) (by omega) hx hF hg
 ·have hi':i.1=m.val.length:=by have:=q0k (m:=(m.val.map u64).length) h (by simpa using hi);simpa using this
  rw[hi'];exact .refl _
theorem updI_ok {m:Mo} {a:Act} (h:(updI m a).2.2=0):moaI m a=0/\(updI m a).2.1=z0o m a/\(updI m a).1=prodM m a (z0o m a)/\1<=(z0o m a).length/\(z0o m a).length<=64:=by
 unfold updI at h |-
 cases h1:((z0q m a).2 != 0) with
 |true=>rw[h1] at h;simp only[cond_true] at h;rw[h] at h1;cases h1
 |false =>
  rw[h1] at h;obtain⟨k1,k2,k3⟩:=worldsI_ok (m:=m) (a:=a) (by simpa using h1)
  cases h2:decide (((z0q m a).1.length:Int)>64) with
  |true=>rw[h2] at h;cases h
  |false =>
   have:=of_decide_eq_false h2;rw[k2] at this;refine⟨k1,?_,?_,k3,by omega⟩
   ·rw[k2];rfl
   ·rw[k2];rfl
theorem filter_more {s n:Nat} (hs:s<2^n):∀ d,(List.range (n+d)).filter s.testBit=(List.range n).filter s.testBit
 |0=>rfl
 |d+1=>by
  rw[show n+(d+1)=n+d+1 by omega,List.range_succ,List.filter_append,filter_more hs d,List.filter_cons,List.filter_nil,Nat.testBit_lt_two_pow (Nat.lt_of_lt_of_le hs (Nat.pow_le_pow_right (by decide) (by omega)))];simp
theorem memL_range {s n:Nat} (hs:s<2^n) (hn:n<=64):memL s=(List.range n).filter s.testBit:=by
 have:=filter_more hs (64-n);rw[show n+(64-n)=64 by omega] at this;exact this
def pubA (A:Nat) (f:List Nd):Act:=⟨[q0u f],[[]],onesL A⟩
section
variable {m:Mo} {n:Nat} {a:Act} {l:List (Nat×Nat)}
structure Pr (m:Mo) (n:Nat) (a:Act) (l:List (Nat×Nat)):Prop where
 okm:OkM m n
 act:actI a m.rel.length m.val.length=0
 mem:∀ w e,(w,e)∈l↔w<n/\e<a.pre.length/\(possP m a e).testBit w=true
 pos:1<=l.length
 len:l.length<=64
end
def isF (f:List Nd) (op:Int):Bool:=match f with
 | [x]=>x.op==op
 |_=>false
theorem le_fpv {a b:List Nd} (h:a=b):PLe (.sl (a.map Nd.pv)) (fpv b):=by rw[h];exact .refl _
theorem le_ct {α:Type} {c:Bool} {X a b:α} (h:c=true) (g:X=a):X=bif c then a else b:=by rw[g,h];rfl
theorem le_cf {α:Type} {c:Bool} {X a b:α} (h:c=false) (g:X=b):X=bif c then a else b:=by rw[g,h];rfl
def strI (f:List Nd):List Nd×Bool:=match f[f.length-1]? with
 |some x=>bif x.op != 4 then ([],false) else (sub f x.x,true)
 |none=>([],false)
def strPV (x:List Nd×Bool):PV:=.tup [fpv x.1,.bool x.2]
def negI (f:List Nd):List Nd:=bif (strI f).2 then (strI f).1 else q0d (n0 4) [f]
def oppI (a b:List Nd):Bool:=bif (bif (strI a).2 then decide ((strI a).1=b) else false) then true else bif (strI b).2 then decide ((strI b).1=a) else false
theorem str_len {f:List Nd}:(strI f).1.length<=200:=by
 unfold strI
 cases f[f.length-1]? with
 |none=>simp
 |some x =>
  simp only
  cases (x.op != 4) with
  |true=>simp
  |false=>exact sub_len f x.x
def jntI (x:Nd) (a b:List Nd) (nt dm:Int):List Nd :=
 bif (bif (bif isF a dm then true else isF b dm) then true else (bif (bif oppI a b then !isF a nt else false) then !isF b nt else false)) then apN (n0 dm) [] []
 else bif isF a nt then b else bif (bif isF b nt then true else decide (a=b)) then a else apN x a b
def cndI (a b:List Nd):List Nd:=bif (bif (bif isF a 2 then true else isF b 1) then true else decide (a=b)) then q0d (n0 1) [] else bif isF a 1 then b else bif isF b 2 then negI a else q0d (n0 7) [a,b]
def eqvI (a b:List Nd):List Nd:=bif decide (a=b) then q0d (n0 1) [] else bif oppI a b then q0d (n0 2) [] else bif isF a 1 then b else bif isF b 1 then a else bif isF a 2 then negI b else bif isF b 2 then negI a else q0d (n0 8) [a,b]
def smpI (x:Nd) (a b:List Nd):List Nd :=
 bif x.op==4 then (bif isF a 1 then q0d (n0 2) [] else bif isF a 2 then q0d (n0 1) [] else negI a)
 else bif x.op==5 then jntI x a b 1 2 else bif x.op==6 then jntI x a b 2 1 else bif x.op==7 then cndI a b else bif x.op==8 then eqvI a b
 else bif (bif x.op==10 then isF a 2 else false) then q0d (n0 2) []
 else bif (bif x.op==13 then (bif isF a 2 then true else isF b 1) else false) then q0d (n0 1) []
 else bif (bif (bif (bif x.op==9 then true else x.op==11) then true else x.op==12) then isF a 1 else false) then q0d (n0 1) [] else apN x a b
def binB (op:Int):Bool:=bif op==5 then true else bif op==6 then true else bif op==7 then true else bif op==8 then true else bif op==13 then true else bif op==14 then true else bif op==16 then true else bif op==19 then true else op==21
theorem rw_is (f:List Nd) (op:Int):PureFn Tryz.prog 178 [fpv f,.int .i64 op] (.bool (isF f op)):=by
 refine PureFn.intro mixed (fn:=Tryz.f178) rfl rfl rfl fun M w0 => ?_
 match f with
 | [] =>
  have f1:(((([]:List Nd).map Nd.pv).length:Int)==1)=false:=rfl
  (try conv=>whnf);repeat' (first|(apply And.intro<;>try conv=>whnf)|(intro h;first|with_reducible exact tf h (by assumption)|try conv=>whnf)|(apply whenOff;(focus with_reducible assumption);try conv=>whnf)|fail)
  exact z0n rfl
 | [x] =>
  (try conv=>whnf);repeat' (first|((first|apply And.intro|intro h)<;>try conv=>whnf)|apply True.intro|(apply q0i;rfl)|(apply WhenQ.mk;(try conv=>whnf);rotate_left;(try conv=>whnf);rotate_right)|with_reducible assumption|(refine⟨0,_,rfl,rfl,rfl,?_⟩;try conv=>whnf)|fail)
  exact z0n rfl
 |x::y::r =>
  have f1:((((x::y::r).map Nd.pv).length:Int)==1)=false:=by simp;omega
  (try conv=>whnf);repeat' (first|(apply And.intro<;>try conv=>whnf)|(intro h;first|with_reducible exact tf h (by assumption)|try conv=>whnf)|(apply whenOff;(focus with_reducible assumption);try conv=>whnf)|fail)
  refine z0n ?_;rw[f1];rfl
theorem rw_stripped (f:List Nd) (h0:f≠[]) (hl:f.length<=1000000):PureFn Tryz.prog 206 [fpv f] (strPV (strI f)):=by
 have hpos:0<f.length:=List.length_pos_iff.2 h0;obtain⟨x,hx⟩:∃ x,f[f.length-1]? = some x:=⟨_,List.getElem?_eq_getElem (by omega)⟩;have hS:=fm_Sub f x.x;have hI:strI f=bif x.op != 4 then ([],false) else (sub f x.x,true):=by rw[strI,hx]
 rw[hI];have hix:=q0a (g:=Nd.pv) hx
 have hw:IntKind.wrap .i64 (((f.map Nd.pv).length:Int)-1)=((f.length-1:Nat):Int):=by
  rw[List.length_map,Go.Dv.wrap_small (by omega) (by omega)];omega
 refine PureFn.intro mixed (fn:=Tryz.f206) rfl rfl rfl fun M w0 => ?_
 (try conv=>whnf);repeat' (first|(apply And.intro<;>try conv=>whnf)|(apply q0i;rfl))
 refine⟨_,_,hw,hix,rfl,?_⟩
 (try conv=>whnf);repeat' (first|((first|apply And.intro|intro h)<;>try conv=>whnf)|(refine PureFn.dy hS rfl ?_;try conv=>whnf)|fail)
 ·rw[show (x.op != 4)=true from h];exact PLe.tups ⟨.nil,.refl _,trivial⟩
 ·rw[show (x.op != 4)=false from h];exact .refl _
theorem rw_negate (f:List Nd) (h0:f≠[]) (hl:f.length<=1000000):PureFn Tryz.prog 179 [fpv f] (fpv (negI f)):=by
 have hS:=rw_stripped f h0 hl;have hN:=fm_Not f;unfold negI;generalize strI f=X at hS;obtain⟨g,b⟩:=X;refine PureFn.intro mixed (fn:=Tryz.f179) rfl rfl rfl fun M w0 => ?_
 (try conv=>whnf);repeat' (first|((first|apply And.intro|intro h)<;>try conv=>whnf)|(refine PureFn.dy hS rfl ?_;try conv=>whnf)|(refine PureFn.dy hN rfl ?_;try conv=>whnf)|fail)
 ·rw[show b=true from h];exact .refl _
 ·rw[show b=false from h];exact .refl _
theorem rw_build (x:Nd) (X Y:List Nd) (hx:1<=x.op/\x.op<=13):PureFn Tryz.prog 183 [x.pv,fpv X,fpv Y] (fpv (apN x X Y)):=by
 obtain⟨z,hz⟩:∃ z,apN x X Y=z:=⟨_,rfl⟩;rw[hz];unfold apN at hz;have e1:x.op=1->q0d (n0 1) []=z:=fun e=>by rw[<- hz,e];exact build_one _
 have e2:x.op=2->q0d (n0 2) []=z:=fun e=>by rw[<- hz,e];exact build_one _
 have e3:x.op=3->q0d (nI 3 x.i) []=z:=fun e=>by rw[<- hz,e];exact build_one _
 have e4:x.op=4->q0d (n0 4) [X]=z:=fun e=>by rw[<- hz,e];exact build_un _ _ rfl rfl rfl
 have e5:x.op=5->q0d (n0 5) [X,Y]=z:=fun e=>by rw[<- hz,e];exact build_bin _ _ _ rfl rfl
 have e6:x.op=6->q0d (n0 6) [X,Y]=z:=fun e=>by rw[<- hz,e];exact build_bin _ _ _ rfl rfl
 have e7:x.op=7->q0d (n0 7) [X,Y]=z:=fun e=>by rw[<- hz,e];exact build_bin _ _ _ rfl rfl
 have e8:x.op=8->q0d (n0 8) [X,Y]=z:=fun e=>by rw[<- hz,e];exact build_bin _ _ _ rfl rfl
 have e9:x.op=9->q0d (nI 9 x.i) [X]=z:=fun e=>by rw[<- hz,e];exact build_un _ _ rfl rfl rfl
 have e10:x.op=10->q0d (nI 10 x.i) [X]=z:=fun e=>by rw[<- hz,e];exact build_un _ _ rfl rfl rfl
 have e11:x.op=11->q0d (nG 11 x.g) [X]=z:=fun e=>by rw[<- hz,e];exact build_un _ _ rfl rfl rfl
 have e12:x.op=12->q0d (nG 12 x.g) [X]=z:=fun e=>by rw[<- hz,e];exact build_un _ _ rfl rfl rfl
 have e13:x.op=13->q0d (nG 13 x.g) [X,Y]=z:=fun e=>by rw[<- hz,e];exact build_bin _ _ _ rfl rfl
 have d1:=fun e=>e1 e▸fm_True
 have d2:=fun e=>e2 e▸fm_False
 have d3:=fun e=>e3 e▸fm_Fact x.i
 have d4:=fun e=>e4 e▸fm_Not X
 have d5:=fun e=>e5 e▸fm_And X Y
 have d6:=fun e=>e6 e▸fm_Or X Y
 have d7:=fun e=>e7 e▸fm_Imp X Y
 have d8:=fun e=>e8 e▸fm_Iff X Y
 have d9:=fun e=>e9 e▸fm_Know x.i X
 have d10:=fun e=>e10 e▸fm_Poss x.i X
 have d11:=fun e=>e11 e▸fm_Every x.g X
 have d12:=fun e=>e12 e▸fm_Dist x.g X
 have d13:=fun e=>e13 e▸fm_Common x.g X Y
 clear e1 e2 e3 e4 e5 e6 e7 e8 e9 e10 e11 e12 e13 hz;have no:∀ k:Int,13<k->(x.op==k)=false:=fun k hk=>by simp;omega
 have n14:=no 14 (by decide);have n15:=no 15 (by decide);have n16:=no 16 (by decide);have n17:=no 17 (by decide);have n18:=no 18 (by decide);have n19:=no 19 (by decide);have n20:=no 20 (by decide);have n21:=no 21 (by decide);refine PureFn.intro mixed (fn:=Tryz.f183) rfl rfl rfl fun M w0 => ?_
 (try conv=>whnf);repeat' (first|(apply And.intro<;>try conv=>whnf)|(intro h;first|with_reducible exact tf h (by assumption)|try conv=>whnf)|(refine PureFn.dcq (f:=36) rfl ?_;try conv=>whnf)|(refine PureFn.dcq (f:=53) rfl ?_;try conv=>whnf)|(refine PureFn.dcq (f:=83) rfl ?_;try conv=>whnf)|(refine PureFn.dcq (f:=37) rfl ?_;try conv=>whnf)|(refine PureFn.dcq (f:=32) rfl ?_;try conv=>whnf)|(refine PureFn.dcq (f:=186) rfl ?_;try conv=>whnf)|(refine PureFn.dcq (f:=34) rfl ?_;try conv=>whnf)|(refine PureFn.dcq (f:=187) rfl ?_;try conv=>whnf)|(refine PureFn.dcq (f:=188) rfl ?_;try conv=>whnf)|(refine PureFn.dcq (f:=153) rfl ?_;try conv=>whnf)|(refine PureFn.dcq (f:=189) rfl ?_;try conv=>whnf)|(refine PureFn.dcq (f:=190) rfl ?_;try conv=>whnf)|(refine PureFn.dcq (f:=154) rfl ?_;try conv=>whnf)|(refine⟨_,_,d1 ?_,?_,?_⟩;rotate_left 1;(focus first|(refine⟨trivial⟩<;>first|exact PLe.refl _|exact PLe.nil)|exact trivial);try conv=>whnf)|(refine⟨_,_,d2 ?_,?_,?_⟩;rotate_left 1;(focus first|(refine⟨trivial⟩<;>first|exact PLe.refl _|exact PLe.nil)|exact trivial);try conv=>whnf)|(refine⟨_,_,d3 ?_,?_,?_⟩;rotate_left 1;(focus refine⟨?_,trivial⟩<;>first|exact PLe.refl _|exact PLe.nil);try conv=>whnf)|(refine⟨_,_,d4 ?_,?_,?_⟩;rotate_left 1;(focus refine⟨?_,trivial⟩<;>first|exact PLe.refl _|exact PLe.nil);try conv=>whnf)|(refine⟨_,_,d5 ?_,?_,?_⟩;rotate_left 1;(focus refine⟨?_,?_,trivial⟩<;>first|exact PLe.refl _|exact PLe.nil);try conv=>whnf)|(refine⟨_,_,d6 ?_,?_,?_⟩;rotate_left 1;(focus refine⟨?_,?_,trivial⟩<;>first|exact PLe.refl _|exact PLe.nil);try conv=>whnf)|(refine⟨_,_,d7 ?_,?_,?_⟩;rotate_left 1;(focus refine⟨?_,?_,trivial⟩<;>first|exact PLe.refl _|exact PLe.nil);try conv=>whnf)|(refine⟨_,_,d8 ?_,?_,?_⟩;rotate_left 1;(focus refine⟨?_,?_,trivial⟩<;>first|exact PLe.refl _|exact PLe.nil);try conv=>whnf)|(refine⟨_,_,d9 ?_,?_,?_⟩;rotate_left 1;(focus refine⟨?_,?_,trivial⟩<;>first|exact PLe.refl _|exact PLe.nil);try conv=>whnf)|(refine⟨_,_,d10 ?_,?_,?_⟩;rotate_left 1;(focus refine⟨?_,?_,trivial⟩<;>first|exact PLe.refl _|exact PLe.nil);try conv=>whnf)|(refine⟨_,_,d11 ?_,?_,?_⟩;rotate_left 1;(focus refine⟨?_,?_,trivial⟩<;>first|exact PLe.refl _|exact PLe.nil);try conv=>whnf)|(refine⟨_,_,d12 ?_,?_,?_⟩;rotate_left 1;(focus refine⟨?_,?_,trivial⟩<;>first|exact PLe.refl _|exact PLe.nil);try conv=>whnf)|(refine⟨_,_,d13 ?_,?_,?_⟩;rotate_left 1;(focus refine⟨?_,?_,?_,trivial⟩<;>first|exact PLe.refl _|exact PLe.nil);try conv=>whnf)|fail)
 all_goals first
  |exact .refl _
  |exact eq_of_beq (by with_reducible assumption)
  |(simp only[beq_eq_false_iff_ne,ne_eq] at *;omega)
theorem rw_binary (op:Int):PureFn Tryz.prog 177 [.int .i64 op] (.bool (binB op)):=by
 unfold binB;refine PureFn.intro mixed (fn:=Tryz.f177) rfl rfl rfl fun M w0 => ?_
 (try conv=>whnf);repeat' (first|(apply And.intro<;>try conv=>whnf)|(intro h;first|with_reducible exact tf (by assumption) h|try conv=>whnf))
 all_goals (refine z0n ?_;simp only[*,cond_true,cond_false])
theorem rw_opposite (a b:List Nd) (ha:a≠[]) (hb:b≠[]) (la:a.length<=1000000) (lb:b.length<=1000000):PureFn Tryz.prog 207 [fpv a,fpv b] (.bool (oppI a b)):=by
 have hA:=rw_stripped a ha la;have hB:=rw_stripped b hb lb;have hE1:=sl_Equal (strI a).1 b (by have:=str_len (f:=a);omega);have hE2:=sl_Equal (strI b).1 a (by have:=str_len (f:=b);omega);unfold oppI;generalize strI a=X at hA hE1;generalize strI b=Y at hB hE2;obtain⟨g,p⟩:=X;obtain⟨h',q⟩:=Y;refine PureFn.intro mixed (fn:=Tryz.f207) rfl rfl rfl fun M w0 => ?_
 (try conv=>whnf);repeat' (first|((first|apply And.intro|intro h)<;>try conv=>whnf)|apply True.intro|(apply WhenQ.mk;(try conv=>whnf);rotate_left;(try conv=>whnf);rotate_right)|with_reducible assumption|(refine PureFn.dy hA rfl ?_;try conv=>whnf)|(refine PureFn.dy hE1 rfl ?_;try conv=>whnf)|(refine PureFn.dy hB rfl ?_;try conv=>whnf)|(refine PureFn.dy hE2 rfl ?_;try conv=>whnf)|fail)
 all_goals (refine z0n ?_;simp only[*,cond_true,cond_false])
theorem rw_joint (x:Nd) (a b:List Nd) (nt dm:Int) (hx:1<=x.op/\x.op<=13) (hd:1<=dm/\dm<=13) (ha:a≠[]) (hb:b≠[]) (la:a.length<=1000000) (lb:b.length<=1000000):PureFn Tryz.prog 180 [x.pv,fpv a,fpv b,.int .i64 nt,.int .i64 dm] (fpv (jntI x a b nt dm)):=by
 have hO:=rw_opposite a b ha hb la lb;have hE:=sl_Equal a b la;have hB:=rw_build x a b hx;have hD:=rw_build (n0 dm) [] [] hd;unfold jntI;refine PureFn.intro mixed (fn:=Tryz.f180) rfl rfl rfl fun M w0 => ?_
 (try conv=>whnf);repeat' (first|((first|apply And.intro|intro h)<;>try conv=>whnf)|apply True.intro|(apply WhenQ.mk;(try conv=>whnf);rotate_left;(try conv=>whnf);rotate_right)|with_reducible assumption|(apply q0x;with_reducible assumption)|(apply and_of<;>first|with_reducible assumption|(apply q0x;with_reducible assumption))|(refine PureFn.dy hO rfl ?_;try conv=>whnf)|(refine PureFn.dy hE rfl ?_;try conv=>whnf)|(refine PureFn.dy hB rfl ?_;try conv=>whnf)|(refine PureFn.dcq (f:=178) rfl ?_;try conv=>whnf)|(refine PureFn.dcq (f:=183) rfl ?_;try conv=>whnf)|(refine⟨_,_,rw_is ?_ ?_,?_,?_⟩;rotate_left 2;(focus refine⟨?_,?_,trivial⟩<;>first|exact PLe.refl _|exact PLe.nil);try conv=>whnf)|(refine⟨_,_,hD,?_,?_⟩;(focus refine⟨?_,?_,?_,trivial⟩<;>first|exact PLe.refl _|exact PLe.nil);try conv=>whnf)|fail)
 all_goals (refine le_fpv ?_;repeat (first|(refine le_ct ?_ ?_;focus (with_reducible assumption))|(refine le_cf ?_ ?_;focus (with_reducible assumption))|rfl|fail))
theorem rw_conditional (a b:List Nd) (ha:a≠[]) (la:a.length<=1000000):PureFn Tryz.prog 181 [fpv a,fpv b] (fpv (cndI a b)):=by
 have hE:=sl_Equal a b la;have hN:=rw_negate a ha la;have hI:=fm_Imp a b;unfold cndI;refine PureFn.intro mixed (fn:=Tryz.f181) rfl rfl rfl fun M w0 => ?_
 (try conv=>whnf);repeat' (first|((first|apply And.intro|intro h)<;>try conv=>whnf)|apply True.intro|(apply WhenQ.mk;(try conv=>whnf);rotate_left;(try conv=>whnf);rotate_right)|with_reducible assumption|(apply q0x;with_reducible assumption)|(refine PureFn.dy hE rfl ?_;try conv=>whnf)|(refine PureFn.dy hN rfl ?_;try conv=>whnf)|(refine PureFn.dy hI rfl ?_;try conv=>whnf)|(refine PureFn.dy fm_True rfl ?_;try conv=>whnf)|(refine PureFn.dcq (f:=178) rfl ?_;try conv=>whnf)|(refine⟨_,_,rw_is ?_ ?_,?_,?_⟩;rotate_left 2;(focus refine⟨?_,?_,trivial⟩<;>first|exact PLe.refl _|exact PLe.nil);try conv=>whnf)|fail)
 all_goals (refine le_fpv ?_;simp only[*,cond_true,cond_false,Bool.not_true,Bool.not_false])
theorem rw_equivalence (a b:List Nd) (ha:a≠[]) (hb:b≠[]) (la:a.length<=1000000) (lb:b.length<=1000000):PureFn Tryz.prog 182 [fpv a,fpv b] (fpv (eqvI a b)):=by
 have hE:=sl_Equal a b la;have hO:=rw_opposite a b ha hb la lb;have hN:=rw_negate a ha la;have hN2:=rw_negate b hb lb;have hI:=fm_Iff a b;unfold eqvI;refine PureFn.intro mixed (fn:=Tryz.f182) rfl rfl rfl fun M w0 => ?_
 (try conv=>whnf);repeat' (first|((first|apply And.intro|intro h)<;>try conv=>whnf)|(refine PureFn.dy hE rfl ?_;try conv=>whnf)|(refine PureFn.dy hO rfl ?_;try conv=>whnf)|(refine PureFn.dy hN rfl ?_;try conv=>whnf)|(refine PureFn.dy hN2 rfl ?_;try conv=>whnf)|(refine PureFn.dy hI rfl ?_;try conv=>whnf)|(refine PureFn.dy fm_True rfl ?_;try conv=>whnf)|(refine PureFn.dy fm_False rfl ?_;try conv=>whnf)|(refine PureFn.dcq (f:=178) rfl ?_;try conv=>whnf)|(refine⟨_,_,rw_is ?_ ?_,?_,?_⟩;rotate_left 2;(focus refine⟨?_,?_,trivial⟩<;>first|exact PLe.refl _|exact PLe.nil);try conv=>whnf)|fail)
 all_goals (refine le_fpv ?_;simp only[*,cond_true,cond_false,Bool.not_true,Bool.not_false])
theorem op_all {o:Int} {k:Nat} (h:o=(k:Int)):(o==4)=decide (k=4)/\(o==5)=decide (k=5)/\(o==6)=decide (k=6)/\(o==7)=decide (k=7)/\(o==8)=decide (k=8)/\(o==9)=decide (k=9)/\(o==10)=decide (k=10)/\(o==11)=decide (k=11)/\(o==12)=decide (k=12)/\(o==13)=decide (k=13)/\(o==14)=decide (k=14)/\(o==15)=decide (k=15)/\(o==16)=decide (k=16)/\(o==17)=decide (k=17):=by
 have key:∀ j:Nat,(o==(j:Int))=decide (k=j):=fun j=>by
  rw[h,Bool.eq_iff_iff];simp;omega
 exact⟨key 4,key 5,key 6,key 7,key 8,key 9,key 10,key 11,key 12,key 13,key 14,key 15,key 16,key 17⟩
theorem rw_simple_1 (x:Nd) (a b:List Nd) (hx:x.op=1) (_ha:q0n 1=true->a≠[]) (_hb:q0o 1=true->b≠[]) (_la:a.length<=1000000) (_lb:b.length<=1000000):PureFn Tryz.prog 142 [x.pv,fpv a,fpv b] (fpv (smpI x a b)):=by
 have hB:=rw_build x a b (by rw[hx];decide)
 skip
 obtain⟨q4,q5,q6,q7,q8,q9,q10,q11,q12,q13,q14,q15,q16,q17⟩:=op_all (k:=1) hx;simp only[Nat.reduceEqDiff,decide_true,decide_false] at q4 q5 q6 q7 q8 q9 q10 q11 q12 q13 q14 q15 q16 q17;clear hx _ha _hb _la _lb;refine PureFn.intro mixed (fn:=Tryz.f142) rfl rfl rfl fun M w0 => ?_
 (try conv=>whnf);repeat' (first|(apply And.intro<;>try conv=>whnf)|(intro h;first|with_reducible exact tf h (by assumption)|try conv=>whnf)|(refine PureFn.dy hB rfl ?_;try conv=>whnf)|fail)
 all_goals (refine le_fpv ?_;simp only[smpI, *,cond_true,cond_false])
theorem rw_simple_2 (x:Nd) (a b:List Nd) (hx:x.op=2) (_ha:q0n 2=true->a≠[]) (_hb:q0o 2=true->b≠[]) (_la:a.length<=1000000) (_lb:b.length<=1000000):PureFn Tryz.prog 142 [x.pv,fpv a,fpv b] (fpv (smpI x a b)):=by
 have hB:=rw_build x a b (by rw[hx];decide)
 skip
 obtain⟨q4,q5,q6,q7,q8,q9,q10,q11,q12,q13,q14,q15,q16,q17⟩:=op_all (k:=2) hx;simp only[Nat.reduceEqDiff,decide_true,decide_false] at q4 q5 q6 q7 q8 q9 q10 q11 q12 q13 q14 q15 q16 q17;clear hx _ha _hb _la _lb;refine PureFn.intro mixed (fn:=Tryz.f142) rfl rfl rfl fun M w0 => ?_
 (try conv=>whnf);repeat' (first|(apply And.intro<;>try conv=>whnf)|(intro h;first|with_reducible exact tf h (by assumption)|try conv=>whnf)|(refine PureFn.dy hB rfl ?_;try conv=>whnf)|fail)
 all_goals (refine le_fpv ?_;simp only[smpI, *,cond_true,cond_false])
theorem rw_simple_3 (x:Nd) (a b:List Nd) (hx:x.op=3) (_ha:q0n 3=true->a≠[]) (_hb:q0o 3=true->b≠[]) (_la:a.length<=1000000) (_lb:b.length<=1000000):PureFn Tryz.prog 142 [x.pv,fpv a,fpv b] (fpv (smpI x a b)):=by
 have hB:=rw_build x a b (by rw[hx];decide)
 skip
 obtain⟨q4,q5,q6,q7,q8,q9,q10,q11,q12,q13,q14,q15,q16,q17⟩:=op_all (k:=3) hx;simp only[Nat.reduceEqDiff,decide_true,decide_false] at q4 q5 q6 q7 q8 q9 q10 q11 q12 q13 q14 q15 q16 q17;clear hx _ha _hb _la _lb;refine PureFn.intro mixed (fn:=Tryz.f142) rfl rfl rfl fun M w0 => ?_
 (try conv=>whnf);repeat' (first|(apply And.intro<;>try conv=>whnf)|(intro h;first|with_reducible exact tf h (by assumption)|try conv=>whnf)|(refine PureFn.dy hB rfl ?_;try conv=>whnf)|fail)
 all_goals (refine le_fpv ?_;simp only[smpI, *,cond_true,cond_false])
theorem rw_simple_4 (x:Nd) (a b:List Nd) (hx:x.op=4) (_ha:q0n 4=true->a≠[]) (_hb:q0o 4=true->b≠[]) (_la:a.length<=1000000) (_lb:b.length<=1000000):PureFn Tryz.prog 142 [x.pv,fpv a,fpv b] (fpv (smpI x a b)):=by
 have hB:=rw_build x a b (by rw[hx];decide);have hN:=rw_negate a (_ha rfl) _la;obtain⟨q4,q5,q6,q7,q8,q9,q10,q11,q12,q13,q14,q15,q16,q17⟩:=op_all (k:=4) hx;simp only[Nat.reduceEqDiff,decide_true,decide_false] at q4 q5 q6 q7 q8 q9 q10 q11 q12 q13 q14 q15 q16 q17;clear hx _ha _hb _la _lb;refine PureFn.intro mixed (fn:=Tryz.f142) rfl rfl rfl fun M w0 => ?_
 (try conv=>whnf);repeat' (first|(apply And.intro<;>try conv=>whnf)|(intro h;first|with_reducible exact tf (by assumption) h|try conv=>whnf)|(refine PureFn.dy hN rfl ?_;try conv=>whnf)|(refine PureFn.dy fm_True rfl ?_;try conv=>whnf)|(refine PureFn.dy fm_False rfl ?_;try conv=>whnf)|(refine PureFn.dcq (f:=178) rfl ?_;try conv=>whnf)|(refine⟨_,_,rw_is ?_ ?_,?_,?_⟩;rotate_left 2;(focus refine⟨?_,?_,trivial⟩<;>first|exact PLe.refl _|exact PLe.nil);try conv=>whnf)|fail)
 all_goals (refine le_fpv ?_;simp only[smpI, *,cond_true,cond_false])
theorem rw_simple_5 (x:Nd) (a b:List Nd) (hx:x.op=5) (_ha:q0n 5=true->a≠[]) (_hb:q0o 5=true->b≠[]) (_la:a.length<=1000000) (_lb:b.length<=1000000):PureFn Tryz.prog 142 [x.pv,fpv a,fpv b] (fpv (smpI x a b)):=by
 have hB:=rw_build x a b (by rw[hx];decide);have hJ:=rw_joint x a b 1 2 (by omega) (by decide) (_ha rfl) (_hb rfl) _la _lb;obtain⟨q4,q5,q6,q7,q8,q9,q10,q11,q12,q13,q14,q15,q16,q17⟩:=op_all (k:=5) hx;simp only[Nat.reduceEqDiff,decide_true,decide_false] at q4 q5 q6 q7 q8 q9 q10 q11 q12 q13 q14 q15 q16 q17;clear hx _ha _hb _la _lb;refine PureFn.intro mixed (fn:=Tryz.f142) rfl rfl rfl fun M w0 => ?_
 (try conv=>whnf);repeat' (first|(apply And.intro<;>try conv=>whnf)|(intro h;first|with_reducible exact tf h (by assumption)|with_reducible exact tf (by assumption) h|try conv=>whnf)|(refine PureFn.dy hJ rfl ?_;try conv=>whnf)|fail)
 all_goals (refine le_fpv ?_;simp only[smpI, *,cond_true,cond_false])
theorem rw_simple_6 (x:Nd) (a b:List Nd) (hx:x.op=6) (_ha:q0n 6=true->a≠[]) (_hb:q0o 6=true->b≠[]) (_la:a.length<=1000000) (_lb:b.length<=1000000):PureFn Tryz.prog 142 [x.pv,fpv a,fpv b] (fpv (smpI x a b)):=by
 have hB:=rw_build x a b (by rw[hx];decide);have hJ:=rw_joint x a b 2 1 (by omega) (by decide) (_ha rfl) (_hb rfl) _la _lb;obtain⟨q4,q5,q6,q7,q8,q9,q10,q11,q12,q13,q14,q15,q16,q17⟩:=op_all (k:=6) hx;simp only[Nat.reduceEqDiff,decide_true,decide_false] at q4 q5 q6 q7 q8 q9 q10 q11 q12 q13 q14 q15 q16 q17;clear hx _ha _hb _la _lb;refine PureFn.intro mixed (fn:=Tryz.f142) rfl rfl rfl fun M w0 => ?_
 (try conv=>whnf);repeat' (first|(apply And.intro<;>try conv=>whnf)|(intro h;first|with_reducible exact tf h (by assumption)|with_reducible exact tf (by assumption) h|try conv=>whnf)|(refine PureFn.dy hJ rfl ?_;try conv=>whnf)|fail)
 all_goals (refine le_fpv ?_;simp only[smpI, *,cond_true,cond_false])
theorem rw_simple_7 (x:Nd) (a b:List Nd) (hx:x.op=7) (_ha:q0n 7=true->a≠[]) (_hb:q0o 7=true->b≠[]) (_la:a.length<=1000000) (_lb:b.length<=1000000):PureFn Tryz.prog 142 [x.pv,fpv a,fpv b] (fpv (smpI x a b)):=by
 have hB:=rw_build x a b (by rw[hx];decide);have hC:=rw_conditional a b (_ha rfl) _la;obtain⟨q4,q5,q6,q7,q8,q9,q10,q11,q12,q13,q14,q15,q16,q17⟩:=op_all (k:=7) hx;simp only[Nat.reduceEqDiff,decide_true,decide_false] at q4 q5 q6 q7 q8 q9 q10 q11 q12 q13 q14 q15 q16 q17;clear hx _ha _hb _la _lb;refine PureFn.intro mixed (fn:=Tryz.f142) rfl rfl rfl fun M w0 => ?_
 (try conv=>whnf);repeat' (first|(apply And.intro<;>try conv=>whnf)|(intro h;first|with_reducible exact tf h (by assumption)|with_reducible exact tf (by assumption) h|try conv=>whnf)|(refine PureFn.dy hC rfl ?_;try conv=>whnf)|fail)
 all_goals (refine le_fpv ?_;simp only[smpI, *,cond_true,cond_false])
theorem rw_simple_8 (x:Nd) (a b:List Nd) (hx:x.op=8) (_ha:q0n 8=true->a≠[]) (_hb:q0o 8=true->b≠[]) (_la:a.length<=1000000) (_lb:b.length<=1000000):PureFn Tryz.prog 142 [x.pv,fpv a,fpv b] (fpv (smpI x a b)):=by
 have hB:=rw_build x a b (by rw[hx];decide);have hV:=rw_equivalence a b (_ha rfl) (_hb rfl) _la _lb;obtain⟨q4,q5,q6,q7,q8,q9,q10,q11,q12,q13,q14,q15,q16,q17⟩:=op_all (k:=8) hx;simp only[Nat.reduceEqDiff,decide_true,decide_false] at q4 q5 q6 q7 q8 q9 q10 q11 q12 q13 q14 q15 q16 q17;clear hx _ha _hb _la _lb;refine PureFn.intro mixed (fn:=Tryz.f142) rfl rfl rfl fun M w0 => ?_
 (try conv=>whnf);repeat' (first|(apply And.intro<;>try conv=>whnf)|(intro h;first|with_reducible exact tf h (by assumption)|with_reducible exact tf (by assumption) h|try conv=>whnf)|(refine PureFn.dy hV rfl ?_;try conv=>whnf)|fail)
 all_goals (refine le_fpv ?_;simp only[smpI, *,cond_true,cond_false])
theorem rw_simple_9 (x:Nd) (a b:List Nd) (hx:x.op=9) (_ha:q0n 9=true->a≠[]) (_hb:q0o 9=true->b≠[]) (_la:a.length<=1000000) (_lb:b.length<=1000000):PureFn Tryz.prog 142 [x.pv,fpv a,fpv b] (fpv (smpI x a b)):=by
 have hB:=rw_build x a b (by rw[hx];decide)
 skip
 obtain⟨q4,q5,q6,q7,q8,q9,q10,q11,q12,q13,q14,q15,q16,q17⟩:=op_all (k:=9) hx;simp only[Nat.reduceEqDiff,decide_true,decide_false] at q4 q5 q6 q7 q8 q9 q10 q11 q12 q13 q14 q15 q16 q17;clear hx _ha _hb _la _lb;refine PureFn.intro mixed (fn:=Tryz.f142) rfl rfl rfl fun M w0 => ?_
 (try conv=>whnf);repeat' (first|(apply And.intro<;>try conv=>whnf)|(intro h;first|with_reducible exact tf h (by assumption)|with_reducible exact tf (by assumption) h|try conv=>whnf)|(refine PureFn.dy hB rfl ?_;try conv=>whnf)|(refine PureFn.dy fm_True rfl ?_;try conv=>whnf)|(refine PureFn.dcq (f:=178) rfl ?_;try conv=>whnf)|(refine⟨_,_,rw_is ?_ ?_,?_,?_⟩;rotate_left 2;(focus refine⟨?_,?_,trivial⟩<;>first|exact PLe.refl _|exact PLe.nil);try conv=>whnf)|fail)
 all_goals (refine le_fpv ?_;simp only[smpI, *,cond_true,cond_false])
theorem rw_simple_10 (x:Nd) (a b:List Nd) (hx:x.op=10) (_ha:q0n 10=true->a≠[]) (_hb:q0o 10=true->b≠[]) (_la:a.length<=1000000) (_lb:b.length<=1000000):PureFn Tryz.prog 142 [x.pv,fpv a,fpv b] (fpv (smpI x a b)):=by
 have hB:=rw_build x a b (by rw[hx];decide)
 skip
 obtain⟨q4,q5,q6,q7,q8,q9,q10,q11,q12,q13,q14,q15,q16,q17⟩:=op_all (k:=10) hx;simp only[Nat.reduceEqDiff,decide_true,decide_false] at q4 q5 q6 q7 q8 q9 q10 q11 q12 q13 q14 q15 q16 q17;clear hx _ha _hb _la _lb;refine PureFn.intro mixed (fn:=Tryz.f142) rfl rfl rfl fun M w0 => ?_
 (try conv=>whnf);repeat' (first|(apply And.intro<;>try conv=>whnf)|(intro h;first|with_reducible exact tf h (by assumption)|with_reducible exact tf (by assumption) h|try conv=>whnf)|(refine PureFn.dy hB rfl ?_;try conv=>whnf)|(refine PureFn.dy fm_False rfl ?_;try conv=>whnf)|(refine PureFn.dcq (f:=178) rfl ?_;try conv=>whnf)|(refine⟨_,_,rw_is ?_ ?_,?_,?_⟩;rotate_left 2;(focus refine⟨?_,?_,trivial⟩<;>first|exact PLe.refl _|exact PLe.nil);try conv=>whnf)|fail)
 all_goals (refine le_fpv ?_;simp only[smpI, *,cond_true,cond_false])
theorem rw_simple_11 (x:Nd) (a b:List Nd) (hx:x.op=11) (_ha:q0n 11=true->a≠[]) (_hb:q0o 11=true->b≠[]) (_la:a.length<=1000000) (_lb:b.length<=1000000):PureFn Tryz.prog 142 [x.pv,fpv a,fpv b] (fpv (smpI x a b)):=by
 have hB:=rw_build x a b (by rw[hx];decide)
 skip
 obtain⟨q4,q5,q6,q7,q8,q9,q10,q11,q12,q13,q14,q15,q16,q17⟩:=op_all (k:=11) hx;simp only[Nat.reduceEqDiff,decide_true,decide_false] at q4 q5 q6 q7 q8 q9 q10 q11 q12 q13 q14 q15 q16 q17;clear hx _ha _hb _la _lb;refine PureFn.intro mixed (fn:=Tryz.f142) rfl rfl rfl fun M w0 => ?_
 (try conv=>whnf);repeat' (first|(apply And.intro<;>try conv=>whnf)|(intro h;first|with_reducible exact tf h (by assumption)|with_reducible exact tf (by assumption) h|try conv=>whnf)|(refine PureFn.dy hB rfl ?_;try conv=>whnf)|(refine PureFn.dy fm_True rfl ?_;try conv=>whnf)|(refine PureFn.dcq (f:=178) rfl ?_;try conv=>whnf)|(refine⟨_,_,rw_is ?_ ?_,?_,?_⟩;rotate_left 2;(focus refine⟨?_,?_,trivial⟩<;>first|exact PLe.refl _|exact PLe.nil);try conv=>whnf)|fail)
 all_goals (refine le_fpv ?_;simp only[smpI, *,cond_true,cond_false])
theorem rw_simple_12 (x:Nd) (a b:List Nd) (hx:x.op=12) (_ha:q0n 12=true->a≠[]) (_hb:q0o 12=true->b≠[]) (_la:a.length<=1000000) (_lb:b.length<=1000000):PureFn Tryz.prog 142 [x.pv,fpv a,fpv b] (fpv (smpI x a b)):=by
 have hB:=rw_build x a b (by rw[hx];decide)
 skip
 obtain⟨q4,q5,q6,q7,q8,q9,q10,q11,q12,q13,q14,q15,q16,q17⟩:=op_all (k:=12) hx;simp only[Nat.reduceEqDiff,decide_true,decide_false] at q4 q5 q6 q7 q8 q9 q10 q11 q12 q13 q14 q15 q16 q17;clear hx _ha _hb _la _lb;refine PureFn.intro mixed (fn:=Tryz.f142) rfl rfl rfl fun M w0 => ?_
 (try conv=>whnf);repeat' (first|(apply And.intro<;>try conv=>whnf)|(intro h;first|with_reducible exact tf h (by assumption)|with_reducible exact tf (by assumption) h|try conv=>whnf)|(refine PureFn.dy hB rfl ?_;try conv=>whnf)|(refine PureFn.dy fm_True rfl ?_;try conv=>whnf)|(refine PureFn.dcq (f:=178) rfl ?_;try conv=>whnf)|(refine⟨_,_,rw_is ?_ ?_,?_,?_⟩;rotate_left 2;(focus refine⟨?_,?_,trivial⟩<;>first|exact PLe.refl _|exact PLe.nil);try conv=>whnf)|fail)
 all_goals (refine le_fpv ?_;simp only[smpI, *,cond_true,cond_false])
theorem rw_simple_13 (x:Nd) (a b:List Nd) (hx:x.op=13) (_ha:q0n 13=true->a≠[]) (_hb:q0o 13=true->b≠[]) (_la:a.length<=1000000) (_lb:b.length<=1000000):PureFn Tryz.prog 142 [x.pv,fpv a,fpv b] (fpv (smpI x a b)):=by
 have hB:=rw_build x a b (by rw[hx];decide)
 skip
 obtain⟨q4,q5,q6,q7,q8,q9,q10,q11,q12,q13,q14,q15,q16,q17⟩:=op_all (k:=13) hx;simp only[Nat.reduceEqDiff,decide_true,decide_false] at q4 q5 q6 q7 q8 q9 q10 q11 q12 q13 q14 q15 q16 q17;clear hx _ha _hb _la _lb;refine PureFn.intro mixed (fn:=Tryz.f142) rfl rfl rfl fun M w0 => ?_
 (try conv=>whnf);repeat' (first|(apply And.intro<;>try conv=>whnf)|(intro h;first|with_reducible exact tf h (by assumption)|with_reducible exact tf (by assumption) h|try conv=>whnf)|apply True.intro|(apply WhenQ.mk;(try conv=>whnf);rotate_left;(try conv=>whnf);rotate_right)|with_reducible assumption|(apply q0x;with_reducible assumption)|(refine PureFn.dy hB rfl ?_;try conv=>whnf)|(refine PureFn.dy fm_True rfl ?_;try conv=>whnf)|(refine PureFn.dcq (f:=178) rfl ?_;try conv=>whnf)|(refine⟨_,_,rw_is ?_ ?_,?_,?_⟩;rotate_left 2;(focus refine⟨?_,?_,trivial⟩<;>first|exact PLe.refl _|exact PLe.nil);try conv=>whnf)|fail)
 all_goals (refine le_fpv ?_;simp only[smpI, *,cond_true,cond_false])
theorem rw_simple (x:Nd) (a b:List Nd) (hx:1<=x.op/\x.op<=13) (ha:q0n x.op=true->a≠[]) (hb:q0o x.op=true->b≠[]) (la:a.length<=1000000) (lb:b.length<=1000000):PureFn Tryz.prog 142 [x.pv,fpv a,fpv b] (fpv (smpI x a b)):=by
 have h:x.op=1\/x.op=2\/x.op=3\/x.op=4\/x.op=5\/x.op=6\/x.op=7\/x.op=8\/x.op=9\/x.op=10\/x.op=11\/x.op=12\/x.op=13:=by omega
 rcases h with h|h|h|h|h|h|h|h|h|h|h|h|h<;>rw[h] at ha hb
 ·exact rw_simple_1 x a b h ha hb la lb
 ·exact rw_simple_2 x a b h ha hb la lb
 ·exact rw_simple_3 x a b h ha hb la lb
 ·exact rw_simple_4 x a b h ha hb la lb
 ·exact rw_simple_5 x a b h ha hb la lb
 ·exact rw_simple_6 x a b h ha hb la lb
 ·exact rw_simple_7 x a b h ha hb la lb
 ·exact rw_simple_8 x a b h ha hb la lb
 ·exact rw_simple_9 x a b h ha hb la lb
 ·exact rw_simple_10 x a b h ha hb la lb
 ·exact rw_simple_11 x a b h ha hb la lb
 ·exact rw_simple_12 x a b h ha hb la lb
 ·exact rw_simple_13 x a b h ha hb la lb
def opX (x:Nd) (X:List Nd):List Nd:=bif decide (x.op>=4) then X else []
def opY (x:Nd) (Y:List Nd):List Nd:=bif binB x.op then Y else []
def smpH (x:Nd) (X Y:List Nd):List Nd×Int:=nz (smpI x (opX x X) (opY x Y))
def simF (c:List Nd):List Nd×Int:=lastF (redE [] smpH c [])
def simI (f:List Nd):List Nd×Int:=bif z0b f != 0 then ([],z0b f) else simF (q0u f)
theorem apN_len (x:Nd) (a b:List Nd):(apN x a b).length<=200:=by
 unfold apN;exact wantL_len _ _ _ _ _ _
theorem negI_len (a:List Nd):(negI a).length<=200:=by
 unfold negI
 cases (strI a).2 with
 |true=>exact str_len
 |false=>exact buildL_len _ _
theorem bif_len {c:Bool} {a b:List Nd} (h1:a.length<=200) (h2:b.length<=200):(bif c then a else b).length<=200:=by cases c<;>assumption
theorem smp_len (x:Nd) (a b:List Nd) (ha:a.length<=200) (hb:b.length<=200):(smpI x a b).length<=200:=by
 unfold smpI jntI cndI eqvI
 repeat' (first|exact ha|exact hb|exact apN_len _ _ _|exact buildL_len _ _|exact negI_len _|apply bif_len)
theorem opX_len {x:Nd} {X:List Nd} (h:X.length<=200):(opX x X).length<=200:=bif_len h (by decide)
theorem opY_len {x:Nd} {X:List Nd} (h:X.length<=200):(opY x X).length<=200:=bif_len h (by decide)
def Done (l:List (List Nd)):Prop:=∀ z,z∈l->z≠[]/\z.length<=200
theorem Done.get {l:List (List Nd)} (h:Done l) (k:Nat):(l.getD k []).length<=200/\(k<l.length->l.getD k []≠[]):=by
 by_cases hk:k<l.length
 ·have:=h _ (by rw[List.getD_eq_getElem?_getD,List.getElem?_eq_getElem hk];exact List.getElem_mem hk:l.getD k []∈l);exact⟨this.2,fun _=>this.1⟩
 ·rw[List.getD_eq_getElem?_getD,List.getElem?_eq_none (by omega)];exact⟨Nat.zero_le _,fun h=>absurd h hk⟩
theorem Done.add {l:List (List Nd)} (h:Done l) {z:List Nd} (h0:z≠[]) (hz:z.length<=200):Done (l++[z]):=fun y hy=>by
 rcases List.mem_append.1 hy with hy|hy
 ·exact h y hy
 ·rw[List.mem_singleton.1 hy];exact⟨h0,hz⟩
theorem bin_uses {x:Nd} (h:x.op<=13):binB x.op=q0o x.op:=by
 by_cases h0:x.op<0
 ·have:∀ k:Int,0<=k->(x.op==k)=false:=fun k hk=>by simp;omega
  simp[binB,q0o,this];omega
 ·obtain⟨k,hk⟩:∃ k:Nat,x.op=k:=⟨x.op.toNat,by omega⟩;have key:∀ k:Nat,k<14->binB (k:Int)=q0o (k:Int):=by decide
  rw[hk];exact key k (by omega)
theorem rw_upward (f:List Nd) (hc:z0b f=0) (hs:∀ x,x∈q0u f->x.op<=13) (M:Nat->Prop) (w0:W0) :
  DC Tryz.prog M w0 141 [.pv (fpv f),.clo 142 [] []] noHeap fun d L'=>frz d L' fun q _=>PLe q (pairF (simF (q0u f))):=by
 have hc0:(z0b f != 0)=false:=by rw[hc];rfl
 refine DC.weaken (DC.introC [9,11,13] mixed (fn:=Tryz.f141) rfl rfl rfl ?_);have hlen:=comp_len f;have hpos:=comp_pos hc;have hokl:=z0h f
 (try conv=>whnf);repeat' (first|(apply And.intro<;>try conv=>whnf)|(intro h;first|with_reducible exact tf h (by assumption)|try conv=>whnf)|(refine PureFn.dcq (f:=86) rfl ?_;try conv=>whnf)|(refine PureFn.dcq (f:=68) rfl ?_;try conv=>whnf)|(refine⟨_,_,fm_Check ?_,?_,?_⟩;rotate_left 1;(focus refine⟨?_,trivial⟩<;>first|exact PLe.refl _|exact PLe.nil);try conv=>whnf)|(refine⟨_,_,fm_Compact ?_,?_,?_⟩;rotate_left 1;(focus refine⟨?_,trivial⟩<;>first|exact PLe.refl _|exact PLe.nil);try conv=>whnf)|fail)
 unfold simF;generalize q0u f=c at *
 refine⟨{ q:Nat×List (List Nd) // q.1<=c.length/\q.2.length=q.1/\Done q.2/\redE [] smpH c []=redE [] smpH (c.drop q.1) q.2 },
  fun q=>[(1,.clo 142 [] []),(7,.buf 0 (q.1.2.map fpv).length),(19,.pv (fpv c)),(20,.pv (.int .i64 (c.map Nd.pv).length)),(21,.pv (.int .i64 (q.1.1:Nat)))],fun _=>1,fun q=>[(0,.arr 1 (q.1.2.map fpv))],fun q=>c.length-q.1.1,
  ⟨⟨(0,[]),Nat.zero_le _,rfl,fun z hz=>by simp at hz,rfl⟩,(by refine Wk.of ?_ ?_ rfl rfl rfl<;>repeat' (first|exact trivial|exact WkD.same _|exact WkD.new' rfl rfl rfl|exact WkO.new _ _ rfl|exact rfl|refine⟨?_,?_⟩|fail))⟩,?_⟩
 rintro⟨⟨i,l⟩,hi,hl,hD,he⟩;simp only at hi hl hD he;have hlm:(l.map fpv).length=i:=by rw[List.length_map];exact hl
 (try conv=>whnf);repeat' (first|((first|apply And.intro|intro h)<;>try conv=>whnf)|(apply q0i;rfl))
 ·have hi':i<c.length:=by simpa using q0j h
  obtain⟨x,hx⟩:∃ x,c[i]? = some x:=⟨_,List.getElem?_eq_getElem hi'⟩;have ok:=hokl i x hx;have hox:=hs x (List.mem_iff_getElem?.2 ⟨i,hx⟩);have h1:=ok.op;obtain⟨X,hX⟩:∃ X,opX x (l.getD x.x.toNat [])=X:=⟨_,rfl⟩;obtain⟨Y,hY⟩:∃ Y,opY x (l.getD x.y.toNat [])=Y:=⟨_,rfl⟩;refine⟨_,_,rfl,q0a hx,rfl,?_⟩
  try conv=>whnf
  refine⟨Unit,fun _=>[(1,.clo 142 [] []),(7,.buf 0 (l.map fpv).length),(19,.pv (fpv c)),(20,.pv (.int .i64 (c.map Nd.pv).length)),(21,.pv (.int .i64 (i:Nat))),(9,.ref 1 0),(10,.pv .nil),(11,.pv .nil)],fun _=>2,fun _=>[(0,.arr 1 (l.map fpv)),(1,.var x.dvs)],?_,?_⟩
  ·try conv=>whnf
   exact⟨(),(by exact Wk.s rfl)⟩
  rintro⟨⟩;refine⟨Unit,fun _=>[(1,.clo 142 [] []),(7,.buf 0 (l.map fpv).length),(19,.pv (fpv c)),(20,.pv (.int .i64 (c.map Nd.pv).length)),(21,.pv (.int .i64 (i:Nat))),(9,.ref 1 0),(10,.pv (fpv X)),(11,.pv .nil)],fun _=>2,fun _=>[(0,.arr 1 (l.map fpv)),(1,.var x.dvs)],?_,?_⟩
  ·(try conv=>whnf);repeat' (first|((first|apply And.intro|intro h)<;>try conv=>whnf))
   ·have hg:decide (x.op>=4)=true:=h
    have hu:q0n x.op=true:=by
     have:=of_decide_eq_true hg;simp only[q0n,Bool.and_eq_true,decide_eq_true_eq];omega
    obtain⟨u1,u2⟩:=ok.x hu;obtain⟨k,hk⟩:∃ k:Nat,x.x=k:=⟨x.x.toNat,by omega⟩;have hkl:k<l.length:=by omega
    refine⟨k,hk,by omega,?_⟩
    (try conv=>whnf);repeat' (first|(apply And.intro<;>try conv=>whnf))
    refine⟨_,fget hkl,?_⟩
    try conv=>whnf
    have hXk:l.getD k []=X:=by rw[<- hX,opX,hg,hk];rfl
    rw[hXk];exact⟨(),(by exact Wk.s rfl)⟩
   ·have hXn:X=[]:=by rw[<- hX,opX,show decide (x.op>=4)=false from h];rfl
    rw[hXn];exact⟨(),(by refine Wk.of ?_ ?_ rfl rfl rfl<;>repeat' (first|exact trivial|exact WkD.same _|exact WkO.same _ _ rfl|exact WkD.nil _ (Or.inl rfl)|refine⟨?_,?_⟩|fail))⟩
  rintro⟨⟩;refine⟨Unit,fun _=>[(1,.clo 142 [] []),(7,.buf 0 (l.map fpv).length),(19,.pv (fpv c)),(20,.pv (.int .i64 (c.map Nd.pv).length)),(21,.pv (.int .i64 (i:Nat))),(9,.ref 1 0),(10,.pv (fpv X)),(11,.pv (fpv Y))],fun _=>2,fun _=>[(0,.arr 1 (l.map fpv)),(1,.var x.dvs)],?_,?_⟩
  ·(try conv=>whnf);repeat' (first|((first|apply And.intro|intro h)<;>try conv=>whnf)|(refine PureFn.dcq (f:=177) rfl ?_;try conv=>whnf)|(refine⟨_,_,rw_binary ?_,?_,?_⟩;rotate_left 1;(focus refine⟨?_,trivial⟩<;>first|exact PLe.refl _|exact PLe.nil);try conv=>whnf)|fail)
   ·have hg:binB x.op=true:=h;have hu:q0o x.op=true:=by rw[<- bin_uses hox];exact hg
    obtain⟨u1,u2⟩:=ok.y hu;obtain⟨k,hk⟩:∃ k:Nat,x.y=k:=⟨x.y.toNat,by omega⟩;have hkl:k<l.length:=by omega
    refine⟨k,hk,by omega,?_⟩
    (try conv=>whnf);repeat' (first|(apply And.intro<;>try conv=>whnf))
    refine⟨_,fget hkl,?_⟩
    try conv=>whnf
    have hYk:l.getD k []=Y:=by rw[<- hY,opY,hg,hk];rfl
    rw[hYk];exact⟨(),(by exact Wk.s rfl)⟩
   ·have hYn:Y=[]:=by rw[<- hY,opY,show binB x.op=false from h];rfl
    rw[hYn];exact⟨(),(by refine Wk.of ?_ ?_ rfl rfl rfl<;>repeat' (first|exact trivial|exact WkD.same _|exact WkO.same _ _ rfl|exact WkD.nil _ (Or.inl rfl)|refine⟨?_,?_⟩|fail))⟩
  rintro⟨⟩;have lX:X.length<=200:=hX▸opX_len (hD.get _).1;have lY:Y.length<=200:=hY▸opY_len (hD.get _).1
  have nX:q0n x.op=true->X≠[]:=fun hu=>by
   obtain⟨u1,u2⟩:=ok.x hu
   have hg:decide (x.op>=4)=true:=by
    simp only[q0n,Bool.and_eq_true,decide_eq_true_eq] at hu;exact decide_eq_true (by omega)
   rw[<- hX,opX,hg];exact (hD.get _).2 (by omega)
  have nY:q0o x.op=true->Y≠[]:=fun hu=>by
   obtain⟨u1,u2⟩:=ok.y hu;rw[<- hY,opY,bin_uses hox,hu];exact (hD.get _).2 (by omega)
  have hA:=rw_simple x X Y ⟨h1.1,hox⟩ nX nY (by omega) (by omega);have hsl:=smp_len x X Y lX lY;obtain⟨z,hz⟩:∃ z,smpI x X Y=z:=⟨_,rfl⟩;have hh:smpH x (l.getD x.x.toNat []) (l.getD x.y.toNat [])=nz z:=by rw[smpH,hX,hY,hz]
  rw[hz] at hA hsl
  cases z with
  |nil =>
   have f0:(((([]:List Nd).map Nd.pv).length:Int)==0)=true:=rfl;have hno:=redE_no (e:=8) hx hh rfl;have hF:lastF (redE [] smpH c [])=([],8):=by rw[he,hno];rfl
   rw[hF]
   (try conv=>whnf);repeat' (first|(apply And.intro<;>try conv=>whnf)|(intro h;first|with_reducible exact tf (by assumption) h|try conv=>whnf)|(refine PureFn.dy hA rfl ?_;try conv=>whnf)|fail)
   exact⟨.tup [.pv .nil,.pv (.int .i64 8)],0,[],(by exact Wk.s rfl),le_nilF 8⟩
  |cons a r =>
   have f0:(((((a::r):List Nd).map Nd.pv).length:Int)==0)=false:=by simp;omega
   (try conv=>whnf);repeat' (first|(apply And.intro<;>try conv=>whnf)|(intro h;first|with_reducible exact tf h (by assumption)|try conv=>whnf)|(apply q0p;rfl)|(apply szI;rfl)|(refine PureFn.dy hA rfl ?_;try conv=>whnf)|fail)
   ·show (l.map fpv).length+1<=4294967296
    omega
   ·have hyes:=redE_yes (z:=a::r) (e:=0) hx hh rfl;have hm:=map_snoc (l:=l) (z:=a::r);refine⟨⟨(i+1,l++[a::r]),hi',by simp[hl],hD.add (by simp) hsl,by rw[he,hyes]⟩,by show c.length-(i+1)<c.length-i;omega,?_⟩
    (refine Wk.of ?_ ?_ rfl rfl rfl<;>repeat' (first|exact trivial|exact WkD.same _|exact WkD.eq (congrArg (fun z:List PV=>DV.buf _ z.length) hm)|exact WkO.same _ _ (congrArg (fun z=>some (DObj.arr _ z)) hm)|refine WkD.int ?_|refine⟨?_,?_⟩|(apply q0h;(focus simp;done);all_goals (try dsimp only);omega)|fail))
 ·have hi':i=c.length:=by have:=q0k (m:=(c.map Nd.pv).length) h (by simpa using hi);simpa using this
  subst hi';rw[redE_end] at he
  have hw:IntKind.wrap .i64 (((l.map fpv).length:Int)-1)=((l.length-1:Nat):Int):=by
   rw[List.length_map];exact q0h (by omega) (by omega) (by omega)
  have hll:l.length=c.length:=hl;refine⟨l.length-1,hw,(show l.length-1<(l.map fpv).length by rw[List.length_map];omega),?_⟩
  (try conv=>whnf);repeat' (first|(apply And.intro<;>try conv=>whnf))
  refine⟨_,fget (show l.length-1<l.length by omega),?_⟩
  try conv=>whnf
  exact⟨.tup [.pv (fpv (l.getD (l.length-1) [])),.pv (.int .i64 0)],0,[],(by exact Wk.s rfl),le_pairF (a:=(l.getD (l.length-1) [],0)) (b:=lastF (redE [] smpH c [])) (by rw[he];rfl)⟩
theorem chgs_cons {A F:Int} {x:Asg} {r:List Asg} {lo:Int}:chgs A F (x::r) lo=0↔(0<=x.fact/\x.fact<F)/\lo<x.fact/\z0i A F x.to=0/\chgs A F r x.fact=0:=by
 rw[chgs]
 by_cases h1:x.fact<0
 ·rw[decide_eq_true h1];refine⟨fun h=>absurd (show (2:Int)=0 from h) (by decide),fun h => ?_⟩;have:=h.1.1;omega
 by_cases h2:x.fact>=F
 ·rw[decide_eq_false h1,decide_eq_true h2];refine⟨fun h=>absurd (show (2:Int)=0 from h) (by decide),fun h => ?_⟩;have:=h.1.2;omega
 rw[decide_eq_false h1,decide_eq_false h2]
 by_cases h3:x.fact<=lo
 ·rw[decide_eq_true h3];refine⟨fun h=>absurd (show (9:Int)=0 from h) (by decide),fun h => ?_⟩;have:=h.2.1;omega
 rw[decide_eq_false h3]
 by_cases h4:z0i A F x.to=0
 ·rw[h4];exact⟨fun h=>⟨⟨by omega,by omega⟩,by omega,rfl,h⟩,fun h=>h.2.2.2⟩
 ·rw[show (z0i A F x.to != 0)=true by simpa using h4];exact⟨fun h=>absurd h h4,fun h=>absurd h.2.2.1 h4⟩
theorem chgs_asc {A F:Int}:∀ {l:List Asg} {lo:Int},chgs A F l lo=0->l.Pairwise (fun x y=>x.fact<y.fact)/\∀ x,x∈l->lo<x.fact/\0<=x.fact/\x.fact<F/\z0i A F x.to=0
 | [],_,_=>⟨.nil,fun x hx=>by cases hx⟩
 |y::r,lo,h=>by
  obtain⟨⟨h1,h2⟩,h3,h4,h5⟩:=chgs_cons.1 h;obtain⟨g1,g2⟩:=chgs_asc h5;refine⟨List.pairwise_cons.2 ⟨fun z hz=>(g2 z hz).1,g1⟩,fun x hx => ?_⟩
  rcases List.mem_cons.1 hx with rfl|hx
  ·exact⟨h3,h1,h2,h4⟩
  ·obtain⟨q1,q2⟩:=g2 x hx;exact⟨by omega,q2⟩
structure Cmp (a b c:Act):Prop where
 a0:q0v a=0
 b0:q0v b=0
 rl:a.rel.length=b.rel.length
 n8:a.pre.length*b.pre.length<=8
 len:c.pre.length=a.pre.length*b.pre.length
 plen:c.post.length=a.pre.length*b.pre.length
 rel:c.rel=relsC a b
 cell:∀ e f,e<a.pre.length->f<b.pre.length->∃ g,aftE a e (b.pre.getD f [])=.ok g/\c.pre.getD (e*b.pre.length+f) []=q0d (n0 5) [a.pre.getD e [],g]/\q0d (n0 5) [a.pre.getD e [],g]≠[]/\asgE a e (b.post.getD f [])=.ok (c.post.getD (e*b.pre.length+f) [])
structure AscA (l:List Asg):Prop where
 asc:l.Pairwise (fun x y=>x.fact<y.fact)
 lo:∀ x,x∈l->0<=x.fact/\x.fact<8
theorem asc_len:∀ {l:List Asg} {lo:Int},l.Pairwise (fun x y=>x.fact<y.fact)->(∀ x,x∈l->lo<=x.fact/\x.fact<8)->lo<=8->(l.length:Int)<=8-lo
 | [],lo,_,_,h=>by simp;omega
 |y::r,lo,hp,hb,h=>by
  obtain⟨h1,h2⟩:=List.pairwise_cons.1 hp;obtain⟨b1,b2⟩:=hb y (by simp);have:=asc_len (l:=r) (lo:=y.fact+1) h2 (fun x hx=>⟨by have:=h1 x hx;omega,(hb x (List.mem_cons_of_mem _ hx)).2⟩) (by omega);rw[List.length_cons];omega
theorem AscA.len {l:List Asg} (h:AscA l):l.length<=8:=by
 have:=asc_len (lo:=0) h.asc h.lo (by decide);omega
set_option maxHeartbeats 8000000
theorem smx_alone {a:Act} (h:q0v a=0):SmX a:=by
 have hO:=actI_ok h;refine⟨fun r hr s hs => ?_,by have:=hO.agn;omega,fun l hl => ?_⟩
 ·exact Nat.lt_of_lt_of_le (hO.bits r hr s hs) (Nat.pow_le_pow_right (by decide) (by have:=hO.n8;omega))
 ·obtain⟨e,he,rfl⟩:=List.mem_iff_getElem.1 hl;have h1:=chgs_asc ((evs_all hO.ev).2 e (by rw[<- hO.post];exact he));rw[List.getD_eq_getElem?_getD,List.getElem?_eq_getElem he] at h1;have h2:AscA a.post[e]:=⟨h1.1,fun x hx=>⟨(h1.2 x hx).2.1,(h1.2 x hx).2.2.1⟩⟩;have:=h2.len;omega
set_option maxHeartbeats 4000000
def smA1 (x:Asg):Asg:=⟨x.fact,(simI x.to).1⟩
def keepB (x:Asg):Bool:=!same x.to (q0d (nI 3 x.fact) [])
def smpL (l:List Asg):List Asg:=(l.map smA1).filter keepB
def smpA (a:Act):Act:=⟨a.pre.map (fun f=>(simI f).1),a.post.map smpL,a.rel⟩
theorem smpL_snoc {l:List Asg} {i:Nat} {x:Asg} (h:l[i]? = some x):smpL (l.take (i+1))=bif keepB (smA1 x) then smpL (l.take i)++[smA1 x] else smpL (l.take i):=by
 unfold smpL;rw[List.take_add_one,h];simp only[Option.toList,List.map_append,List.map_cons,List.map_nil,List.filter_append]
 cases hk:keepB (smA1 x) with
 |true=>simp[hk]
 |false=>simp[hk]
theorem stat_ops {A F:Int} {f:List Nd} (h:z0i A F f=0):z0b f=0/\∀ x,x∈q0u f->x.op<=13:=by
 obtain⟨h1,h2,_⟩:=statI_ok h;exact⟨h1,stB_ops (by rw[stB,h2];rfl)⟩
theorem rw_Simplify (f:List Nd) (hc:z0b f=0) (hs:∀ x,x∈q0u f->x.op<=13):PureFn Tryz.prog 106 [fpv f] (pairF (simI f)):=by
 have hI:simI f=simF (q0u f):=by rw[simI,hc];rfl
 rw[hI];have hU:=rw_upward f hc hs;generalize simF (q0u f)=z at *;refine PureFn.intro mixed (fn:=Tryz.f106) rfl rfl rfl fun M w0 => ?_
 try conv=>whnf
 refine DC.alone (p:=pairF z) rfl (fun M w0=>hU M w0) ?_
 try conv=>whnf
 exact .refl _
theorem alone_pre {a:Act} (h:q0v a=0) {p:List Nd} (hp:p∈a.pre):z0i a.rel.length 8 p=0:=(evs_all (actI_ok h).ev).1 p hp
theorem alone_asg {a:Act} (h:q0v a=0) {q:List Asg} (hq:q∈a.post) {x:Asg} (hx:x∈q):(0<=x.fact/\x.fact<8)/\z0i a.rel.length 8 x.to=0:=by
 have hO:=actI_ok h;obtain⟨e,he,rfl⟩:=List.mem_iff_getElem.1 hq;have h1:=chgs_asc ((evs_all hO.ev).2 e (by rw[<- hO.post];exact he));rw[List.getD_eq_getElem?_getD,List.getElem?_eq_getElem he] at h1;have h2:=h1.2 x hx;exact⟨⟨h2.2.1,h2.2.2.1⟩,h2.2.2.2⟩
theorem cp_simple (a:Act) (ha:q0v a=0):PureFn Tryz.prog 52 [a.pv] (smpA a).pv:=by
 have hO:=actI_ok ha;have hS:=smx_alone ha;have n8:=hO.n8;have hpl:=hO.post;have e1:((a.pre.map fpv).length:Int)=(a.pre.length:Int):=by simp
 refine PureFn.introC [11,14] mixed (fn:=Tryz.f52) rfl rfl rfl fun M w0 => ?_
 try conv=>whnf
 refine⟨{ i:Nat // i<=a.pre.length },fun i=>[(1,.ref 0 0),(2,.ref 1 0),(3,.ref 2 0),(17,.pv (.sl (a.pre.map fpv))),(18,.pv (i64 (a.pre.map fpv).length)),(19,.pv (i64 i.1))],fun _=>5,fun i=>[(0,.var (q0c a)),(1,.var cellsZ),(2,.var [.buf 3 (((a.pre.take i.1).map fun f=>(simI f).1).map fpv).length,.buf 4 (((a.post.take i.1).map smpL).map q0q).length,.pv (.sl (a.rel.map q0b))]),(3,.arr 1 (((a.pre.take i.1).map fun f=>(simI f).1).map fpv)),(4,.arr 1 (((a.post.take i.1).map smpL).map q0q))],fun i=>a.pre.length-i.1,⟨⟨0,Nat.zero_le _⟩,(by refine Wk.of ?_ ?_ rfl rfl rfl<;>repeat' (first|exact trivial|exact WkD.same _|exact WkO.same _ _ rfl|exact WkD.new' rfl rfl rfl|exact WkO.new _ _ rfl|refine WkO.vars rfl ?_|exact rfl|refine⟨?_,?_⟩|fail))⟩,?_⟩;rintro⟨i,hi⟩
 (try conv=>whnf);repeat' (first|((first|apply And.intro|intro h)<;>try conv=>whnf)|(apply q0i;rfl)|(apply bleI;rfl))
 ·have hi':i<a.pre.length:=by simpa using q0j h
  obtain⟨p,hp⟩:∃ y,a.pre[i]? = some y:=⟨_,List.getElem?_eq_getElem hi'⟩;obtain⟨q,hq⟩:∃ y,a.post[i]? = some y:=⟨_,List.getElem?_eq_getElem (by rw[hpl];exact hi')⟩;have hSp:=stat_ops (alone_pre ha (List.mem_iff_getElem?.2 ⟨_,hp⟩));have hFp:=rw_Simplify p hSp.1 hSp.2;have hixq:=q0a (g:=q0q) hq;have hqm:=List.mem_iff_getElem?.2 ⟨_,hq⟩;refine⟨_,_,rfl,q0a hp,rfl,?_⟩
  (try conv=>whnf);repeat' (first|(refine PureFn.dy hFp rfl ?_;try conv=>whnf)|fail)
  refine⟨Unit,fun _=>[(1,.ref 0 0),(2,.ref 1 0),(3,.ref 2 0),(17,.pv (.sl (a.pre.map fpv))),(18,.pv (i64 (a.pre.map fpv).length)),(19,.pv (i64 i)),(6,.pv (fpv (simI p).1)),(8,.pv (q0q (smpL (q.take q.length))))],fun _=>5,fun _=>[(0,.var (q0c a)),(1,.var cellsZ),(2,.var [.buf 3 (((a.pre.take i).map fun f=>(simI f).1).map fpv).length,.buf 4 (((a.post.take i).map smpL).map q0q).length,.pv (.sl (a.rel.map q0b))]),(3,.arr 1 (((a.pre.take i).map fun f=>(simI f).1).map fpv)),(4,.arr 1 (((a.post.take i).map smpL).map q0q))],?_,?_⟩
  ·(try conv=>whnf);repeat' (first|(apply And.intro<;>try conv=>whnf)|(apply q0i;rfl)|(refine⟨_,_,rfl,q0a (by with_reducible assumption),rfl,?_⟩;try conv=>whnf)|fail)
   refine⟨{ j:Nat // j<=q.length },fun j=>[(1,.ref 0 0),(2,.ref 1 0),(3,.ref 2 0),(17,.pv (.sl (a.pre.map fpv))),(18,.pv (i64 (a.pre.map fpv).length)),(19,.pv (i64 i)),(6,.pv (fpv (simI p).1)),(33,.pv (q0q q)),(34,.pv (i64 (q.map Asg.pv).length)),(35,.pv (i64 j.1)),(8,.buf 5 ((smpL (q.take j.1)).map Asg.pv).length)],fun _=>6,fun j=>[(0,.var (q0c a)),(1,.var cellsZ),(2,.var [.buf 3 (((a.pre.take i).map fun f=>(simI f).1).map fpv).length,.buf 4 (((a.post.take i).map smpL).map q0q).length,.pv (.sl (a.rel.map q0b))]),(3,.arr 1 (((a.pre.take i).map fun f=>(simI f).1).map fpv)),(4,.arr 1 (((a.post.take i).map smpL).map q0q)),(5,.arr 2 ((smpL (q.take j.1)).map Asg.pv))],fun j=>q.length-j.1,⟨⟨0,Nat.zero_le _⟩,(by refine Wk.of ?_ ?_ rfl rfl rfl<;>repeat' (first|exact trivial|exact WkD.same _|exact WkO.same _ _ rfl|exact WkD.new' rfl rfl rfl|exact WkO.new _ _ rfl|exact rfl|refine⟨?_,?_⟩|fail))⟩,?_⟩;rintro⟨j,hj⟩
   (try conv=>whnf);repeat' (first|((first|apply And.intro|intro h)<;>try conv=>whnf)|(apply q0i;rfl))
   ·have hj':j<q.length:=by simpa using q0j h
    obtain⟨x,hx⟩:∃ y,q[j]? = some y:=⟨_,List.getElem?_eq_getElem hj'⟩;have hxm:=List.mem_iff_getElem?.2 ⟨_,hx⟩;have hSx:=stat_ops (alone_asg ha hqm hxm).2;have hFx:=rw_Simplify x.to hSx.1 hSx.2;have hxf:=(alone_asg ha hqm hxm).1;have hFa:=fm_Fact x.fact;have hSa:=fm_Same (simI x.to).1 (q0d (nI 3 x.fact) []);have hsn:=smpL_snoc hx;refine⟨_,_,rfl,q0a hx,rfl,?_⟩
    try conv=>whnf
    refine⟨Unit,fun _=>[(1,.ref 0 0),(2,.ref 1 0),(3,.ref 2 0),(17,.pv (.sl (a.pre.map fpv))),(18,.pv (i64 (a.pre.map fpv).length)),(19,.pv (i64 i)),(6,.pv (fpv (simI p).1)),(33,.pv (q0q q)),(34,.pv (i64 (q.map Asg.pv).length)),(35,.pv (i64 j)),(8,.buf 5 ((smpL (q.take j)).map Asg.pv).length),(10,.ref 6 0),(11,.pv (fpv (simI x.to).1))],fun _=>7,fun _=>[(0,.var (q0c a)),(1,.var cellsZ),(2,.var [.buf 3 (((a.pre.take i).map fun f=>(simI f).1).map fpv).length,.buf 4 (((a.post.take i).map smpL).map q0q).length,.pv (.sl (a.rel.map q0b))]),(3,.arr 1 (((a.pre.take i).map fun f=>(simI f).1).map fpv)),(4,.arr 1 (((a.post.take i).map smpL).map q0q)),(5,.arr 2 ((smpL (q.take j)).map Asg.pv)),(6,.var [.pv (.int .i64 x.fact),.pv (fpv x.to)])],?_,?_⟩
    ·(try conv=>whnf);repeat' (first|(refine PureFn.dy hFx rfl ?_;try conv=>whnf)|fail)
     exact⟨(),(by exact Wk.s rfl)⟩
    rintro⟨⟩;have hlq:=hS.post q hqm
    have hlf:(smpL (q.take j)).length<=1000:=by
     refine Nat.le_trans (List.length_filter_le _ _) ?_;rw[List.length_map,List.length_take];omega
    (try conv=>whnf);repeat' (first|((first|apply And.intro|intro h)<;>try conv=>whnf)|(apply q0p;rfl)|(apply szI;rfl)|(refine PureFn.dy hFa rfl ?_;try conv=>whnf)|(refine PureFn.dy hSa rfl ?_;try conv=>whnf)|fail)
    ·show ((smpL (q.take j)).map Asg.pv).length+1<=4294967296
     rw[List.length_map];omega
    ·rw[show keepB (smA1 x)=true from h] at hsn;have hm:(smpL (q.take j)).map Asg.pv++[Asg.pv (smA1 x)]=(smpL (q.take (j+1))).map Asg.pv:=by rw[hsn,cond_true,List.map_append];rfl
     refine⟨⟨j+1,hj'⟩,by show q.length-(j+1)<q.length-j;omega,?_⟩
     (refine Wk.of ?_ ?_ rfl rfl rfl<;>repeat' (first|exact trivial|exact WkD.same _|exact WkO.same _ _ rfl|exact WkD.eq (congrArg (fun z:List PV=>DV.buf _ z.length) hm)|exact WkO.same _ _ (congrArg (fun z=>some (DObj.arr _ z)) hm)|refine WkD.int ?_|refine⟨?_,?_⟩|(apply q0h;(focus simp;done);all_goals (try dsimp only);omega)|fail))
    ·rw[show keepB (smA1 x)=false from h] at hsn;have hm:(smpL (q.take j)).map Asg.pv=(smpL (q.take (j+1))).map Asg.pv:=by rw[hsn,cond_false]
     refine⟨⟨j+1,hj'⟩,by show q.length-(j+1)<q.length-j;omega,?_⟩
     (refine Wk.of ?_ ?_ rfl rfl rfl<;>repeat' (first|exact trivial|exact WkD.same _|exact WkO.same _ _ rfl|exact WkD.eq (congrArg (fun z:List PV=>DV.buf _ z.length) hm)|exact WkO.same _ _ (congrArg (fun z=>some (DObj.arr _ z)) hm)|refine WkD.int ?_|refine⟨?_,?_⟩|(apply q0h;(focus simp;done);all_goals (try dsimp only);omega)|fail))
   ·have hj':j=q.length:=by have:=q0k (m:=(q.map Asg.pv).length) h (by simpa using hj);simpa using this
    subst hj';exact⟨(),(by refine Wk.of ?_ ?_ rfl rfl rfl<;>repeat' (first|exact trivial|exact WkD.same _|exact WkO.same _ _ rfl|exact WkD.fz _ _ _ rfl (Or.inl ⟨_,rfl⟩) rfl|refine⟨?_,?_⟩|fail))⟩
  rintro⟨⟩;rw[show q.take q.length=q from List.take_length];have hs1:(((a.pre.take i).map fun f=>(simI f).1).map fpv).length<=1000:=by simp;omega
  have hs2:(((a.post.take i).map smpL).map q0q).length<=1000:=by simp;omega
  have e5:((a.pre.take i).map fun f=>(simI f).1).map fpv++[fpv (simI p).1]=((a.pre.take (i+1)).map fun f=>(simI f).1).map fpv:=by
   rw[List.take_add_one,hp,List.map_append,List.map_append];rfl
  have e6:((a.post.take i).map smpL).map q0q++[q0q (smpL q)]=((a.post.take (i+1)).map smpL).map q0q:=by
   rw[List.take_add_one,hq,List.map_append,List.map_append];rfl
  try conv=>whnf
  refine⟨Plan.ofL [0,1,2,3,5,6,7,8,4,10,9,11,12,13],[11,13,1004,1009,2005,2006,2010],by kernel_rfl,?_⟩
  (try conv=>whnf);repeat' (first|((first|apply And.intro|intro h)<;>try conv=>whnf)|(apply q0p;rfl)|(apply szI;rfl))
  ·exact z0l (n:=1000) hs1 (by decide)
  ·exact ExtV.put (k:=3) (fun cs h=>by cases h) _ _ h
  ·exact z0l (n:=1000) hs2 (by decide)
  ·exact ExtV.put (k:=4) (fun cs h=>by cases h) _ _ h
  ·refine⟨⟨i+1,hi'⟩,by show a.pre.length-(i+1)<a.pre.length-i;omega,?_⟩
   (refine Wk.of ?_ ?_ rfl rfl rfl<;>repeat' (first|exact trivial|exact WkD.same _|exact WkO.same _ _ rfl|exact WkD.eq (congrArg (fun z:List PV=>DV.buf _ z.length) e5)|exact WkO.same _ _ (congrArg (fun z=>some (DObj.arr _ z)) e5)|exact WkD.eq (congrArg (fun z:List PV=>DV.buf _ z.length) e6)|exact WkO.same _ _ (congrArg (fun z=>some (DObj.arr _ z)) e6)|refine WkD.int ?_|refine WkO.vars rfl ?_|refine⟨?_,?_⟩|(apply q0h;(focus simp;done);all_goals (try dsimp only);omega)|fail))
 ·have hi':i=a.pre.length:=by have:=q0k (m:=(a.pre.map fpv).length) h (by simpa using hi);simpa using this
  subst hi';rw[show a.pre.take a.pre.length=a.pre from List.take_length,show a.post.take a.pre.length=a.post by rw[<- hpl,List.take_length]];exact .refl _
def keepA (a:Act) (ws:List Nat):Act:=⟨ws.map fun w=>a.pre.getD w [],ws.map fun w=>a.post.getD w [],a.rel.map fun r=>ws.map fun w=>pullN (r.getD w 0) ws⟩
structure Shp (a:Act) (n:Nat):Prop where
 pre:a.pre.length=n
 post:a.post.length=n
 n8:n<=8
 ag:a.rel.length<=1000
 rows:∀ r,r∈a.rel->r.length=n
 bits:∀ r,r∈a.rel->∀ s,s∈r->s<2^n
theorem cp_keep (a:Act) (n:Nat) (hA:Shp a n) (ws:List Nat) (hw:∀ w,w∈ws->w<n) (hl:ws.length<=8):PureFn Tryz.prog 54 [a.pv,q0z ws] (keepA a ws).pv:=by
 have n8:=hA.n8;have hw64:∀ w,w∈ws->w<64:=fun w h=>by have:=hw w h;omega
 obtain⟨ro,qro⟩:∃ ro:List Nat->List Nat,ro=fun r=>ws.map fun w=>pullN (r.getD w 0) ws:=⟨_,rfl⟩
 have har:(keepA a ws).pv=.agg [.sl (((ws.take ws.length).map fun w=>a.pre.getD w []).map fpv),.sl (((ws.take ws.length).map fun w=>a.post.getD w []).map q0q),.sl (((a.rel.take a.rel.length).map ro).map q0b)]:=by rw[qro,List.take_length,List.take_length];rfl
 rw[har];refine PureFn.introC [7,20,22] mixed (fn:=Tryz.f54) rfl rfl rfl fun M w0 => ?_
 try conv=>whnf
 refine⟨Unit,fun _=>[(1,.pv (q0z ws)),(2,.ref 0 0),(4,.ref 1 0),(5,.ref 2 0)],fun _=>3,fun _=>[(0,.var (q0c a)),(1,.var cellsZ),(2,.var [.pv (.sl (((ws.take ws.length).map fun w=>a.pre.getD w []).map fpv)),.pv (.sl (((ws.take ws.length).map fun w=>a.post.getD w []).map q0q)),.pv .nil])],?_,?_⟩
 ·try conv=>whnf
  refine⟨{ i:Nat // i<=ws.length },fun i=>[(1,.pv (q0z ws)),(2,.ref 0 0),(4,.ref 1 0),(5,.ref 2 0),(16,.pv (q0z ws)),(17,.pv (i64 (ws.map i64).length)),(18,.pv (i64 i.1))],fun _=>5,fun i=>[(0,.var (q0c a)),(1,.var cellsZ),(2,.var [.buf 3 (((ws.take i.1).map fun w=>a.pre.getD w []).map fpv).length,.buf 4 (((ws.take i.1).map fun w=>a.post.getD w []).map q0q).length,.pv .nil]),(3,.arr 1 (((ws.take i.1).map fun w=>a.pre.getD w []).map fpv)),(4,.arr 1 (((ws.take i.1).map fun w=>a.post.getD w []).map q0q))],fun i=>ws.length-i.1,⟨⟨0,Nat.zero_le _⟩,(by refine Wk.of ?_ ?_ rfl rfl rfl<;>repeat' (first|exact trivial|exact WkD.same _|exact WkO.same _ _ rfl|exact WkD.new' rfl rfl rfl|exact WkO.new _ _ rfl|refine WkO.vars rfl ?_|exact rfl|refine⟨?_,?_⟩|fail))⟩,?_⟩;rintro⟨i,hi⟩
  (try conv=>whnf);repeat' (first|((first|apply And.intro|intro h)<;>try conv=>whnf)|(apply q0i;rfl))
  ·have hi':i<ws.length:=by simpa using q0j h
   obtain⟨w,hx⟩:∃ y,ws[i]? = some y:=⟨_,List.getElem?_eq_getElem hi'⟩;have hwn:=hw w (List.mem_iff_getElem?.2 ⟨_,hx⟩);obtain⟨p,hp⟩:∃ p,a.pre[w]? = some p:=⟨_,List.getElem?_eq_getElem (by rw[hA.pre];exact hwn)⟩;obtain⟨q,hq⟩:∃ q,a.post[w]? = some q:=⟨_,List.getElem?_eq_getElem (by rw[hA.post];exact hwn)⟩;have hpd:a.pre.getD w []=p:=by rw[List.getD_eq_getElem?_getD,hp];rfl
   have hqd:a.post.getD w []=q:=by rw[List.getD_eq_getElem?_getD,hq];rfl
   have hixq:=q0a (g:=q0q) hq;have hixp:=q0a (g:=fpv) hp;have hs1:(((ws.take i).map fun w=>a.pre.getD w []).map fpv).length<=1000:=by simp;omega
   have hs2:(((ws.take i).map fun w=>a.post.getD w []).map q0q).length<=1000:=by simp;omega
   have e5:((ws.take i).map fun w=>a.pre.getD w []).map fpv++[fpv p]=((ws.take (i+1)).map fun w=>a.pre.getD w []).map fpv:=by
    rw[List.take_add_one,hx,List.map_append,List.map_append,<- hpd];rfl
   have e6:((ws.take i).map fun w=>a.post.getD w []).map q0q++[q0q q]=((ws.take (i+1)).map fun w=>a.post.getD w []).map q0q:=by
    rw[List.take_add_one,hx,List.map_append,List.map_append,<- hqd];rfl
   refine⟨_,_,rfl,q0a hx,rfl,?_⟩
   try conv=>whnf
   refine⟨Plan.ofL [0,1,2,3,4,5,6,7,9,10,11,12,13,14,15,16,8,18,17,19,20,21],[19,21,1008,1017,2009,2010,2011,2012,2014,2015,2018],by kernel_rfl,?_⟩
   (try conv=>whnf);repeat' (first|((first|apply And.intro|intro h)<;>try conv=>whnf)|(apply q0i;rfl)|(apply q0p;rfl)|(apply szI;rfl)|(refine⟨_,_,rfl,q0a (by with_reducible assumption),rfl,?_⟩;try conv=>whnf)|fail)
   ·exact z0l (n:=1000) hs1 (by decide)
   ·exact ExtV.put (k:=3) (fun cs h=>by cases h) _ _ h
   ·exact z0l (n:=1000) hs2 (by decide)
   ·exact ExtV.put (k:=4) (fun cs h=>by cases h) _ _ h
   ·refine⟨⟨i+1,hi'⟩,by show ws.length-(i+1)<ws.length-i;omega,?_⟩
    (refine Wk.of ?_ ?_ rfl rfl rfl<;>repeat' (first|exact trivial|exact WkD.same _|exact WkO.same _ _ rfl|exact WkD.eq (congrArg (fun z:List PV=>DV.buf _ z.length) e5)|exact WkO.same _ _ (congrArg (fun z=>some (DObj.arr _ z)) e5)|exact WkD.eq (congrArg (fun z:List PV=>DV.buf _ z.length) e6)|exact WkO.same _ _ (congrArg (fun z=>some (DObj.arr _ z)) e6)|refine WkD.int ?_|refine WkO.vars rfl ?_|refine⟨?_,?_⟩|(apply q0h;(focus simp;done);all_goals (try dsimp only);omega)|fail))
  ·have hi':i=ws.length:=by have:=q0k (m:=(ws.map i64).length) h (by simpa using hi);simpa using this
   subst hi';exact⟨(),(by refine Wk.of ?_ ?_ rfl rfl rfl<;>repeat' (first|exact trivial|exact WkD.same _|exact WkO.same _ _ rfl|exact WkD.fz _ _ _ rfl (Or.inl ⟨_,rfl⟩) rfl|refine WkO.vars rfl ?_|refine⟨?_,?_⟩|fail))⟩
 rintro⟨⟩;generalize ((ws.take ws.length).map fun w=>a.pre.getD w []).map fpv=V;generalize ((ws.take ws.length).map fun w=>a.post.getD w []).map q0q=W
 try conv=>whnf
 refine⟨{ i:Nat // i<=a.rel.length },fun i=>[(1,.pv (q0z ws)),(2,.ref 0 0),(4,.ref 1 0),(5,.ref 2 0),(44,.pv (.sl (a.rel.map q0b))),(45,.pv (i64 (a.rel.map q0b).length)),(46,.pv (i64 i.1))],fun _=>4,fun i=>[(0,.var (q0c a)),(1,.var cellsZ),(2,.var [.pv (.sl V),.pv (.sl W),.buf 3 (((a.rel.take i.1).map ro).map q0b).length]),(3,.arr 1 (((a.rel.take i.1).map ro).map q0b))],fun i=>a.rel.length-i.1,⟨⟨0,Nat.zero_le _⟩,(by refine Wk.of ?_ ?_ rfl rfl rfl<;>repeat' (first|exact trivial|exact WkD.same _|exact WkO.same _ _ rfl|exact WkD.new' rfl rfl rfl|exact WkO.new _ _ rfl|refine WkO.vars rfl ?_|exact rfl|refine⟨?_,?_⟩|fail))⟩,?_⟩;rintro⟨i,hi⟩
 (try conv=>whnf);repeat' (first|((first|apply And.intro|intro h)<;>try conv=>whnf)|(apply q0i;rfl)|(apply bleI;rfl))
 ·have hi':i<a.rel.length:=by simpa using q0j h
  obtain⟨r,hx⟩:∃ y,a.rel[i]? = some y:=⟨_,List.getElem?_eq_getElem hi'⟩;have hrm:=List.mem_iff_getElem?.2 ⟨_,hx⟩;have hrl:=hA.rows r hrm;have hr64:∀ s,s∈r->s<2^64:=fun s hs=>Nat.lt_of_lt_of_le (hA.bits r hrm s hs) (Nat.pow_le_pow_right (by decide) (by omega))
  have hag:=hA.ag;have ht:=take_map (f:=ro) hx;have hvsl:(((a.rel.take i).map ro).map q0b).length<=1000:=by simp;omega
  have er:((a.rel.take i).map ro).map q0b++[q0b (ro r)]=((a.rel.take (i+1)).map ro).map q0b:=by rw[ht,List.map_append];rfl
  refine⟨_,_,rfl,q0a hx,rfl,?_⟩
  try conv=>whnf
  refine⟨Unit,fun _=>[(1,.pv (q0z ws)),(2,.ref 0 0),(4,.ref 1 0),(5,.ref 2 0),(10,.pv (q0b ((ws.take ws.length).map fun w=>pullN (r.getD w 0) ws))),(44,.pv (.sl (a.rel.map q0b))),(45,.pv (i64 (a.rel.map q0b).length)),(46,.pv (i64 i))],fun _=>4,fun _=>[(0,.var (q0c a)),(1,.var cellsZ),(2,.var [.pv (.sl V),.pv (.sl W),.buf 3 (((a.rel.take i).map ro).map q0b).length]),(3,.arr 1 (((a.rel.take i).map ro).map q0b))],?_,?_⟩
  ·try conv=>whnf
   refine⟨{ j:Nat // j<=ws.length },fun j=>[(1,.pv (q0z ws)),(2,.ref 0 0),(4,.ref 1 0),(5,.ref 2 0),(9,.pv (q0b r)),(10,.buf 4 (((ws.take j.1).map fun w=>pullN (r.getD w 0) ws).map u64).length),(44,.pv (.sl (a.rel.map q0b))),(45,.pv (i64 (a.rel.map q0b).length)),(46,.pv (i64 i)),(50,.pv (q0z ws)),(51,.pv (i64 (ws.map i64).length)),(52,.pv (i64 j.1))],fun _=>5,fun j=>[(0,.var (q0c a)),(1,.var cellsZ),(2,.var [.pv (.sl V),.pv (.sl W),.buf 3 (((a.rel.take i).map ro).map q0b).length]),(3,.arr 1 (((a.rel.take i).map ro).map q0b)),(4,.arr 1 (((ws.take j.1).map fun w=>pullN (r.getD w 0) ws).map u64))],fun j=>ws.length-j.1,⟨⟨0,Nat.zero_le _⟩,(by refine Wk.of ?_ ?_ rfl rfl rfl<;>repeat' (first|exact trivial|exact WkD.same _|exact WkO.same _ _ rfl|exact WkD.new' rfl rfl rfl|exact WkO.new _ _ rfl|exact rfl|refine⟨?_,?_⟩|fail))⟩,?_⟩;rintro⟨j,hj⟩
   (try conv=>whnf);repeat' (first|((first|apply And.intro|intro h)<;>try conv=>whnf)|(apply q0i;rfl))
   ·have hj':j<ws.length:=by simpa using q0j h
    obtain⟨w,hx2⟩:∃ y,ws[j]? = some y:=⟨_,List.getElem?_eq_getElem hj'⟩;have hwn:=hw w (List.mem_iff_getElem?.2 ⟨_,hx2⟩);have hx3:r[w]? = some (r.getD w 0):=q0f (by omega);have hs64:=hr64 _ (List.mem_iff_getElem?.2 ⟨_,hx3⟩);have ht2:=take_map (f:=fun w=>pullN (r.getD w 0) ws) hx2;have hvsl2:(((ws.take j).map fun w=>pullN (r.getD w 0) ws).map u64).length<=1000:=by simp;omega
    have er2:((ws.take j).map fun w=>pullN (r.getD w 0) ws).map u64++[PV.int .u64 ((pullN (r.getD w 0) ws:Nat):Int)]=((ws.take (j+1)).map fun w=>pullN (r.getD w 0) ws).map u64:=by rw[ht2,List.map_append];rfl
    generalize hgz:r.getD w 0=z at hx3 er2 hs64;have hixr:=q0a (g:=u64) hx3;refine⟨_,_,rfl,q0a hx2,rfl,?_⟩
    try conv=>whnf
    refine⟨Unit,fun _=>[(1,.pv (q0z ws)),(2,.ref 0 0),(4,.ref 1 0),(5,.ref 2 0),(9,.pv (q0b r)),(10,.buf 4 (((ws.take j).map fun w=>pullN (r.getD w 0) ws).map u64).length),(44,.pv (.sl (a.rel.map q0b))),(45,.pv (i64 (a.rel.map q0b).length)),(46,.pv (i64 i)),(50,.pv (q0z ws)),(51,.pv (i64 (ws.map i64).length)),(52,.pv (i64 j)),(13,.pv (u64 (pullN z ws)))],fun _=>5,fun _=>[(0,.var (q0c a)),(1,.var cellsZ),(2,.var [.pv (.sl V),.pv (.sl W),.buf 3 (((a.rel.take i).map ro).map q0b).length]),(3,.arr 1 (((a.rel.take i).map ro).map q0b)),(4,.arr 1 (((ws.take j).map fun w=>pullN (r.getD w 0) ws).map u64))],?_,?_⟩
    ·try conv=>whnf
     refine⟨{ k:Nat // k<=ws.length },fun k=>[(1,.pv (q0z ws)),(2,.ref 0 0),(4,.ref 1 0),(5,.ref 2 0),(9,.pv (q0b r)),(10,.buf 4 (((ws.take j).map fun w=>pullN (r.getD w 0) ws).map u64).length),(44,.pv (.sl (a.rel.map q0b))),(45,.pv (i64 (a.rel.map q0b).length)),(46,.pv (i64 i)),(50,.pv (q0z ws)),(51,.pv (i64 (ws.map i64).length)),(52,.pv (i64 j)),(12,.pv (i64 w)),(13,.pv (u64 (z0g (fun i=>z.testBit (ws.getD i 0)) k.1))),(56,.pv (q0z ws)),(57,.pv (i64 (ws.map i64).length)),(58,.pv (i64 k.1))],fun _=>5,fun _=>[(0,.var (q0c a)),(1,.var cellsZ),(2,.var [.pv (.sl V),.pv (.sl W),.buf 3 (((a.rel.take i).map ro).map q0b).length]),(3,.arr 1 (((a.rel.take i).map ro).map q0b)),(4,.arr 1 (((ws.take j).map fun w=>pullN (r.getD w 0) ws).map u64))],fun k=>ws.length-k.1,⟨⟨0,Nat.zero_le _⟩,(by exact Wk.s rfl)⟩,?_⟩;rintro⟨k,hk⟩
     (try conv=>whnf);repeat' (first|((first|apply And.intro|intro h)<;>try conv=>whnf)|(apply q0i;rfl))
     ·have hk':k<ws.length:=by simpa using q0j h
      obtain⟨v,hv,hvv⟩:∃ y,ws[k]? = some y/\ws.getD k 0=y:=⟨_,q0f hk',rfl⟩;have hv64:=hw64 v (List.mem_iff_getElem?.2 ⟨_,hv⟩);have hst:=pull_step (q:=fun i=>z.testBit (ws.getD i 0)) hs64 hv64 (show k<64 by omega) (by show z.testBit (ws.getD k 0)=_;rw[hvv]);refine⟨_,_,rfl,q0a hv,rfl,?_⟩
      (try conv=>whnf);repeat' (first|(apply And.intro<;>try conv=>whnf)|(apply q0i;rfl)|(refine⟨_,_,rfl,q0a (by with_reducible assumption),rfl,?_⟩;try conv=>whnf)|fail)
      ·exact Int.natCast_nonneg _
      ·exact Int.natCast_nonneg _
      ·refine⟨⟨k+1,hk'⟩,by show ws.length-(k+1)<ws.length-k;omega,?_⟩
       (refine Wk.of ?_ ?_ rfl rfl rfl<;>repeat' (first|exact trivial|exact WkD.same _|exact WkO.same _ _ rfl|refine WkD.int ?_|refine⟨?_,?_⟩|(apply q0h;(focus simp;done);all_goals (try dsimp only);omega)|fail))
       exact hst
     ·have hk':k=ws.length:=by have:=q0k (m:=(ws.map i64).length) h (by simpa using hk);simpa using this
      subst hk';exact⟨(),(by exact Wk.s rfl)⟩
    rintro⟨⟩
    (try conv=>whnf);repeat' (first|(apply And.intro<;>try conv=>whnf)|(apply q0p;rfl)|(apply szI;rfl))
    ·exact z0l (n:=1000) hvsl2 (by decide)
    ·refine⟨⟨j+1,hj'⟩,by show ws.length-(j+1)<ws.length-j;omega,?_⟩
     (refine Wk.of ?_ ?_ rfl rfl rfl<;>repeat' (first|exact trivial|exact WkD.same _|exact WkO.same _ _ rfl|exact WkD.eq (congrArg (fun z:List PV=>DV.buf _ z.length) er2)|exact WkO.same _ _ (congrArg (fun z=>some (DObj.arr _ z)) er2)|refine WkD.int ?_|refine⟨?_,?_⟩|(apply q0h;(focus simp;done);all_goals (try dsimp only);omega)|fail))
   ·have hj':j=ws.length:=by have:=q0k (m:=(ws.map i64).length) h (by simpa using hj);simpa using this
    subst hj';exact⟨(),(by refine Wk.of ?_ ?_ rfl rfl rfl<;>repeat' (first|exact trivial|exact WkD.same _|exact WkO.same _ _ rfl|exact WkD.fz _ _ _ rfl (Or.inl ⟨_,rfl⟩) rfl|refine⟨?_,?_⟩|fail))⟩
  rintro⟨⟩;have hR:(ws.take ws.length).map (fun w=>pullN (r.getD w 0) ws)=ro r:=by rw[List.take_length,qro]
  generalize (ws.take ws.length).map (fun w=>pullN (r.getD w 0) ws)=R at hR;rw[<- hR] at er
  (try conv=>whnf);repeat' (first|(apply And.intro<;>try conv=>whnf)|(apply q0p;rfl)|(apply szI;rfl))
  ·exact z0l (n:=1000) hvsl (by decide)
  ·refine⟨⟨i+1,hi'⟩,by show a.rel.length-(i+1)<a.rel.length-i;omega,?_⟩
   (refine Wk.of ?_ ?_ rfl rfl rfl<;>repeat' (first|exact trivial|exact WkD.same _|exact WkO.same _ _ rfl|exact WkD.eq (congrArg (fun z:List PV=>DV.buf _ z.length) er)|exact WkO.same _ _ (congrArg (fun z=>some (DObj.arr _ z)) er)|refine WkD.int ?_|refine WkO.vars rfl ?_|refine⟨?_,?_⟩|(apply q0h;(focus simp;done);all_goals (try dsimp only);omega)|fail))
 ·have hi':i=a.rel.length:=by have:=q0k (m:=(a.rel.map q0b).length) h (by simpa using hi);simpa using this
  subst hi';exact .refl _
def rowB (r:List Bool):PV:=.sl (r.map .bool)
def tabPV (z:List (List Bool)):PV:=.sl (z.map rowB)
def zAt (z:List (List Bool)) (g h:Nat):Bool:=(z.getD g []).getD h false
def HAl (a b:Act) (z:List (List Bool)) (g:Nat):List (Nat×DObj):=[(0,.var (q0c a)),(1,.var (q0c b)),(2,.var [.pv (tabPV z)]),(3,.var [.pv (i64 g)])]
def anyN (p:Nat->Bool):Nat->Bool
 |0=>false
 |n+1=>bif anyN p n then true else p n
theorem anyN_of {p:Nat->Bool} {k:Nat} (h:p k=true):∀ {n:Nat},k<n->anyN p n=true
 |n+1,hk=>by
  rw[anyN]
  by_cases e:k<n
  ·rw[anyN_of h e];rfl
  ·have:k=n:=by omega
   subst this;rw[h];cases anyN p k<;>rfl
theorem anyN_no {p:Nat->Bool} {n:Nat} (h1:anyN p n=false) (h2:p n=false):anyN p (n+1)=false:=by rw[anyN,h1,h2];rfl
def someN (s:Nat) (p:Nat->Bool) (n:Nat):Bool:=anyN (fun e=>bif s.testBit e then p e else false) n
structure Tab (z:List (List Bool)) (n m:Nat):Prop where
 len:z.length=n
 row:∀ r,r∈z->r.length=m
theorem Tab.at {z:List (List Bool)} {n m g h:Nat} (hz:Tab z n m) (hg:g<n) (hh:h<m):z[g]? = some (z.getD g [])/\(z.getD g [])[h]? = some (zAt z g h):=by
 have h1:z[g]? = some (z.getD g []):=q0f (by rw[hz.len];exact hg);refine⟨h1,q0f ?_⟩;rw[hz.row _ (List.mem_iff_getElem?.2 ⟨_,h1⟩)];exact hh
theorem clo_m1 {M:Nat->Prop} {w0:W0} (a b:Act) (z:List (List Bool)) {n m:Nat} (hz:Tab z n m) (g h:Nat) (hg:g<n) (hh:h<m) (base:Nat) (K:DV->DH->Prop) (hK:K (.pv (.bool (zAt z g h))) ⟨4,0,base,objsOf (HAl a b z g)⟩) :
  DC Tryz.prog M w0 144 [.pv (i64 h),.ref 2 0,.ref 3 0] ⟨4,0,base,objsOf (HAl a b z g)⟩ K:=by
 obtain⟨h1,h2⟩:=hz.at hg hh;generalize zAt z g h=v at h2 hK;generalize hr:z.getD g []=r at h1 h2;have i1:=q0a (g:=rowB) h1;have i2:=q0a (g:=PV.bool) h2;refine DC.weaken (DC.intro mixed (fn:=Tryz.f144) rfl rfl rfl ?_)
 (try conv=>whnf);repeat' (first|(apply And.intro<;>try conv=>whnf)|(apply q0i;rfl)|(refine⟨_,_,rfl,q0a (by with_reducible assumption),rfl,?_⟩;try conv=>whnf)|fail)
 exact⟨.pv (.bool v),4,HAl a b z g,(by exact Wk.s rfl),hK⟩
theorem clo_m2 {M:Nat->Prop} {w0:W0} (a b:Act) (z:List (List Bool)) {n m:Nat} (hz:Tab z n m) (g h:Nat) (hg:g<n) (hh:h<m) (base:Nat) (K:DV->DH->Prop) (hK:K (.pv (.bool (zAt z g h))) ⟨4,0,base,objsOf (HAl a b z h)⟩) :
  DC Tryz.prog M w0 145 [.pv (i64 g),.ref 2 0,.ref 3 0] ⟨4,0,base,objsOf (HAl a b z h)⟩ K:=by
 obtain⟨h1,h2⟩:=hz.at hg hh;generalize zAt z g h=v at h2 hK;generalize hr:z.getD g []=r at h1 h2;have i1:=q0a (g:=rowB) h1;have i2:=q0a (g:=PV.bool) h2;refine DC.weaken (DC.intro mixed (fn:=Tryz.f145) rfl rfl rfl ?_)
 (try conv=>whnf);repeat' (first|(apply And.intro<;>try conv=>whnf)|(apply q0i;rfl)|(refine q0w (by kernel_rfl) ?_;try conv=>whnf)|(refine⟨_,_,rfl,q0a (by with_reducible assumption),rfl,?_⟩;try conv=>whnf)|fail)
 exact⟨.pv (.bool v),4,HAl a b z h,(by exact Wk.s rfl),hK⟩
theorem cp_some {M:Nat->Prop} {w0:W0} (a b:Act) (z:List (List Bool)) (k:Nat) (s:Nat) (hs:s<2^8) (p:Nat->Bool) (fid:Nat)
  (hc:∀ e,e<8->s.testBit e=true->∀ (M:Nat->Prop) (w0:W0) (base:Nat) (K:DV->DH->Prop),K (.pv (.bool (p e))) ⟨4,0,base,objsOf (HAl a b z k)⟩->DC Tryz.prog M w0 fid [.pv (i64 e),.ref 2 0,.ref 3 0] ⟨4,0,base,objsOf (HAl a b z k)⟩ K)
  (base:Nat) (K:DV->DH->Prop) (hK:K (.pv (.bool (someN s p 8))) ⟨4,0,base,objsOf (HAl a b z k)⟩) :
  DC Tryz.prog M w0 143 [.pv (u64 s),.clo fid [] [.ref 2 0,.ref 3 0]] ⟨4,0,base,objsOf (HAl a b z k)⟩ K:=by
 refine DC.weaken (DC.intro mixed (fn:=Tryz.f143) rfl rfl rfl ?_)
 try conv=>whnf
 refine⟨{ i:Nat // i<=8/\someN s p i=false },fun i=>[(0,.pv (u64 s)),(1,.clo fid [] [.ref 2 0,.ref 3 0]),(6,.pv (i64 i.1))],fun _=>4,fun _=>HAl a b z k,fun i=>8-i.1,⟨⟨0,Nat.zero_le _,rfl⟩,(by exact Wk.s rfl)⟩,?_⟩;rintro⟨i,hi,hn⟩;have hs64:s<2^64:=Nat.lt_of_lt_of_le hs (by decide)
 (try conv=>whnf);repeat' (first|((first|apply And.intro|intro h)<;>try conv=>whnf)|apply True.intro|(apply WhenQ.mk;(try conv=>whnf);rotate_left;(try conv=>whnf);rotate_right)|with_reducible assumption)
 ·exact Int.natCast_nonneg _
 ·rename_i h8;have hi':i<8:=by have:=of_decide_eq_true (show decide ((i:Int)<8)=true from h8);omega
  have hb:s.testBit i=true:=by
   have h2:(andU (shrU s i) 1==1)=true:=h
   rwa [bit_one hs64 (by omega)] at h2
  refine hc i hi' hb _ _ _ _ ?_;exact⟨rfl,rfl⟩
 ·have hi':i<8:=by have:=of_decide_eq_true (show decide ((i:Int)<8)=true from h);omega
  have hbit:(andU (shrU s i) 1==1)=s.testBit i:=bit_one hs64 (by omega)
  (try conv=>whnf);repeat' (first|((first|apply And.intro|intro h)<;>try conv=>whnf)|with_reducible assumption)
  ·have h2:(bif (andU (shrU s i) 1==1) then p i else false)=true:=h;rw[hbit] at h2;have:someN s p 8=true:=anyN_of (p:=fun e=>bif s.testBit e then p e else false) h2 hi';rw[this] at hK;exact⟨.pv (.bool true),4,HAl a b z k,(by exact Wk.s rfl),hK⟩
  ·have h2:(bif (andU (shrU s i) 1==1) then p i else false)=false:=h;rw[hbit] at h2;exact⟨⟨i+1,hi',anyN_no hn h2⟩,by show 8-(i+1)<8-i;omega,(by refine Wk.of ?_ ?_ rfl rfl rfl<;>repeat' (first|exact trivial|exact WkD.same _|exact WkO.same _ _ rfl|refine WkD.int ?_|refine⟨?_,?_⟩|(apply q0h;(focus simp;done);all_goals (try dsimp only);omega)|fail))⟩
 ·have hi':i=8:=by have:=of_decide_eq_false (show decide ((i:Int)<8)=false from h);omega
  subst hi';rw[hn] at hK;exact⟨.pv (.bool false),4,HAl a b z k,(by exact Wk.s rfl),hK⟩
end Go.Proofs.YtejbieopeicgkaaGreatDoor
