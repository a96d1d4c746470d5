/- Parts of the proof, one after the other: Models: Facts walked. Products: what the law ProductKeeps asks (plain). Models: Restrict, and announcements, of the program walked. Reductions of announcements: where they hold (plain). Reductions of events: where they hold (plain). Reductions: what the laws ReduceEqual and ReduceAnnounces ask (plain). Rewriting: the rules of simplification, and a node with new operands. Rewriting: a node with new operands. Rewriting: opposite formulas, joined formulas. Rewriting: implications, equivalences. Rewriting: one node simplified. Rewriting: a formula simplified from its parts up. Action models one after the other: the product with their composition (plain). Action models one after the other: the product with their composition is the product of products (plain). Action models one after the other: the assignments of a pair of events walked. Action models one after the other: the assignments of a pair of events walked, out of the insertion's contract. The law TopComposedActions walked. Action models: simplified formulas and assignments (simple of the program walked). Action models: the part with some events (keep of the program walked). Alike events: some and matched of the program walked. Alike events: matched of the program walked. Alike events: the table, and what sweeping it comes to (plain). -/
import Derived.Test.YtejbieopeicgkaaGreatDoorM9
set_option maxRecDepth 100000
set_option maxHeartbeats 4000000
namespace Go.Proofs.YtejbieopeicgkaaGreatDoor
open Go Go.Dv
def facN (m:Mo) (w:Nat) (k:Nat):Nat:=maskOf (fun i=>(m.val.getD i 0).testBit w) k
theorem fac_step {m:Mo} {w i x:Nat} (hw:w<64) (hi:i<8) (hx:x<2^64) (hF:facN m w i<2^62) (hg:m.val.getD i 0=x) :
  or64 (facN m w i:Nat) (shl64 (IntKind.wrap .i64 (andU (shrU (x:Nat) (w:Nat)) 1)) (i:Nat))=((facN m w (i+1):Nat):Int):=by
 have h1:andU (shrU (x:Nat) (w:Nat)) 1=((x.testBit w).toNat:Int):=by
  have:=andU_nat (a:=x >>> w) (b:=1) (Nat.lt_of_le_of_lt (by rw[Nat.shiftRight_eq_div_pow];exact Nat.div_le_self _ _) hx) (by decide)
  rw[shrU_nat x w (by omega)]
  rw[show (1:Int)=((1:Nat):Int) from rfl,this,Nat.and_one_is_mod]
  have:(x >>> w) % 2=(x.testBit w).toNat:=by
   rw[Nat.testBit,Nat.one_and_eq_mod_two]
   rcases Nat.mod_two_eq_zero_or_one (x >>> w) with h|h<;>rw[h]<;>rfl
  rw[this]
 rw[h1,facN,facN,maskOf,hg]
 cases hb:x.testBit w with
 |true =>
  have h2:IntKind.wrap .i64 ((true.toNat:Nat):Int)=1:=by decide
  rw[h2,shl64_one (by omega) (by omega),Int.toNat_natCast]
  exact or64_nat hF (Nat.lt_of_lt_of_le (Nat.pow_lt_pow_right (by decide) hi) (by decide))
 |false =>
  have h2:IntKind.wrap .i64 ((false.toNat:Nat):Int)=0:=by decide
  have h3:shl64 0 (i:Nat)=((0:Nat):Int):=by rw[shl64,Int.zero_mul];decide
  rw[h2,h3]
  have:=or64_nat (b:=0) hF (by decide)
  rw[Nat.or_zero] at this
  exact this
theorem md_Facts (m:Mo) (n w:Nat) (hf:FitM m) (hM:OkM m n) (hw:w<n):PureFn Tryz.prog 164 [m.pv,.int .i64 (w:Nat)] (.int .i64 (facN m w m.val.length:Nat)):=by
 refine PureFn.introC [3] mixed (fn:=Tryz.f164) rfl rfl rfl fun M w0 => ?_
 have hC:=md_Check m hf
 rw[ok_moI hM] at hC
 have hnn:=hM.nn
 have hfa:=hM.fa
 try conv=>whnf
 refine⟨Unit,fun _=>[(1,.pv (.int .i64 (w:Nat))),(2,.ref 0 0)],fun _=>1,fun _=>[(0,.var (cellsM m))],?_,?_⟩
 ·(try conv=>whnf);repeat' (first|(apply And.intro<;>try conv=>whnf)|(intro h;try conv=>whnf)|apply True.intro|(apply WhenQ.mk;(try conv=>whnf);rotate_left;(try conv=>whnf);rotate_right)|with_reducible assumption|(apply not_of;with_reducible assumption)|(refine PureFn.dy hC rfl ?_;try conv=>whnf)|fail)
  ·exfalso
   rw[show decide ((w:Int)<0)=false from decide_eq_false (by omega),show decide ((w:Int)≥m.n)=false from decide_eq_false (by omega)] at h
   exact absurd (show false=true from h) (by decide)
  ·exact⟨(),(by exact Wk.sm rfl rfl rfl rfl rfl)⟩
 rintro⟨⟩
 try conv=>whnf
 refine⟨{ i:Nat // i≤m.val.length },fun i=>[(1,.pv (.int .i64 (w:Nat))),(2,.ref 0 0),(5,.pv (i64 (facN m w i.1))),(22,.pv (.sl (m.val.map u64))),(23,.pv (i64 (m.val.map u64).length)),(24,.pv (i64 i.1))],fun _=>1,fun _=>[(0,.var (cellsM m))],fun i=>m.val.length-i.1,⟨⟨0,Nat.zero_le _⟩,(by exact Wk.sm rfl rfl rfl rfl rfl)⟩,?_⟩
 intro i
 have hi:=i.2
 (try conv=>whnf);repeat' (first|(apply And.intro<;>try conv=>whnf)|(intro h;try conv=>whnf)|(apply infoT;rfl)|fail)
 ·have hi':i.1<m.val.length:=by simpa using lt_dec h
  have hm:m.val[i.1]? = some m.val[i.1]:=List.getElem?_eq_getElem hi'
  refine⟨_,_,rfl,idx_map hm,rfl,?_⟩
  (try conv=>whnf);repeat' (first|(apply And.intro<;>try conv=>whnf)|fail)
  ·exact Int.natCast_nonneg _
  ·exact Int.natCast_nonneg _
  ·refine⟨⟨i.1+1,hi'⟩,by show m.val.length-(i.1+1)<m.val.length-i.1;omega,?_⟩
   (refine Wk.of ?_ ?_ rfl rfl rfl<;>repeat' (first|exact trivial|exact WkD.same _|exact WkO.same _ _ rfl|refine WkD.int ?_|refine⟨?_,?_⟩|(refine wrapA ?_ ?_ ?_;(focus simp;done);(focus (try dsimp only);omega);(focus (try dsimp only);omega))|fail))
   have hx:m.val[i.1]<2^64:=hf.1 _ (List.getElem_mem hi')
   have hg:m.val.getD i.1 0=m.val[i.1]:=by rw[List.getD_eq_getElem?_getD,hm];rfl
   have hF:facN m w i.1<2^62:=Nat.lt_of_lt_of_le (maskOf_lt _ _) (Nat.pow_le_pow_right (by decide) (by omega))
   exact fac_step (by have:=hM.n64;omega) (by omega) hx hF hg
 ·have hi':i.1=m.val.length:=by have:=ge_dec (m:=(m.val.map u64).length) h (by simpa using hi);simpa using this
  rw[hi']
  exact .refl _
theorem updI_ok {m:Mo} {a:Act} (h:(updI m a).2.2=0):moaI m a=0∧(updI m a).2.1=pairsL m a∧(updI m a).1=prodM m a (pairsL m a)∧1≤(pairsL m a).length∧(pairsL m a).length≤64:=by
 unfold updI at h ⊢
 cases h1:((worldsI m a).2 != 0) with
 |true=>rw[h1] at h;simp only[cond_true] at h;rw[h] at h1;cases h1
 |false =>
  rw[h1] at h
  obtain⟨k1,k2,k3⟩:=worldsI_ok (m:=m) (a:=a) (by simpa using h1)
  cases h2:decide (((worldsI m a).1.length:Int)>64) with
  |true=>rw[h2] at h;cases h
  |false =>
   have:=of_decide_eq_false h2
   rw[k2] at this
   refine⟨k1,?_,?_,k3,by omega⟩
   ·rw[k2];rfl
   ·rw[k2];rfl
theorem getD_map_range {β:Type} {f:Nat→β} {n i:Nat} {d:β} (h:i<n):((List.range n).map f).getD i d=f i:=by
 rw[List.getD_eq_getElem?_getD,List.getElem?_map,List.getElem?_range h];rfl
theorem filter_more {s n:Nat} (hs:s<2^n):∀ d,(List.range (n+d)).filter s.testBit=(List.range n).filter s.testBit
 |0=>rfl
 |d+1=>by
  rw[show n+(d+1)=n+d+1 by omega,List.range_succ,List.filter_append,filter_more hs d,List.filter_cons,List.filter_nil,Nat.testBit_lt_two_pow (Nat.lt_of_lt_of_le hs (Nat.pow_le_pow_right (by decide) (by omega)))]
  simp
theorem memL_range {s n:Nat} (hs:s<2^n) (hn:n≤64):memL s=(List.range n).filter s.testBit:=by
 have:=filter_more hs (64-n)
 rw[show n+(64-n)=64 by omega] at this
 exact this
def pubA (A:Nat) (f:List Nd):Act:=⟨[comp f],[[]],onesL A⟩
theorem getD_past {α:Type} {l:List α} {i:Nat} {d:α} (h:l.length≤i):l.getD i d=d:=by
 rw[List.getD_eq_getElem?_getD,List.getElem?_eq_none h];rfl
section
variable {s n:Nat} (hs:s<2^n)
end
section
variable {m:Mo} {n s:Nat} (hM:OkM m n) (hs:s<2^n) (h0:s≠0)
end
theorem valI_fit {m:Mo} {a:Act} (h:moaI m a=0) {e i:Nat} (he:e<a.pre.length) (hi:i<m.val.length):statI m.rel.length m.val.length (valI a e i).1=0:=by
 obtain⟨⟨n,hM⟩,hA⟩:=moaI_ok h
 have h1:=(act_alone hM.fa hA).1
 have hF:=hM.fa
 have h2:badEv a (e:Int)=false:=by
  unfold badEv
  rw[decide_eq_false (by omega),decide_eq_false (by omega)];rfl
 have h3:badF (i:Int)=false:=by
  unfold badF
  rw[decide_eq_false (by omega),decide_eq_false (by omega)];rfl
 rw[valI,h1,h2,h3]
 show statI _ _ (valL (i:Int) (a.post.getD (e:Int).toNat []))=0
 rw[Int.toNat_natCast]
 exact valL_fit hi hF (chgs_stat ((evs_all (actI_ok hA).ev).2 e he))
section
variable {m:Mo} {n:Nat} {a:Act} {l:List (Nat×Nat)}
structure Pr (m:Mo) (n:Nat) (a:Act) (l:List (Nat×Nat)):Prop where
 okm:OkM m n
 act:actI a m.rel.length m.val.length=0
 mem:∀ w e,(w,e)∈l↔w<n∧e<a.pre.length∧(possP m a e).testBit w=true
 pos:1≤l.length
 len:l.length≤64
theorem Pr.okp (h:Pr m n a l):OkM (prodM m a l) l.length:=prod_ok h.okm h.pos h.len
theorem pr_at (h:Pr m n a l) {k w e:Nat} (hk:l[k]? = some (w,e)):k<l.length∧w<n∧e<a.pre.length∧(possP m a e).testBit w=true :=
 ⟨(List.getElem?_eq_some_iff.1 hk).1,(h.mem w e).1 (List.mem_iff_getElem?.2 ⟨k,hk⟩)⟩
def RowG (l:List (Nat×Nat)) (R r q:List Nat):Prop:=∀ k w e,l[k]? = some (w,e)→∀ j,(R.getD k 0).testBit j=true↔∃ v d,l[j]? = some (v,d)∧(r.getD w 0).testBit v=true∧(q.getD e 0).testBit d=true
theorem prod_rel {i:Nat} (hi:i<m.rel.length):(prodM m a l).rel.getD i []=l.map (rowP (m.rel.getD i []) (a.rel.getD i []) l):=by
 rw[prodM]
 exact getD_map_range hi
theorem getD_ofX {α:Type} {l:List α} {k:Nat} {d x:α} (h:l[k]? = some x):l.getD k d=x:=by rw[List.getD_eq_getElem?_getD,h];rfl
theorem pr_row (h:Pr m n a l) (i:Nat):RowG l ((prodM m a l).rel.getD i []) (m.rel.getD i []) (a.rel.getD i []):=fun k w e hk j=>by
 by_cases hi:i<m.rel.length
 ·rw[prod_rel hi,prow_bit (pr_at h hk).1,seesP_iff,getD_ofX hk]
  constructor
  ·rintro⟨h1,h2,h3⟩
   exact⟨(l.getD j (0,0)).1,(l.getD j (0,0)).2,getD_mem h1,h2,h3⟩
  ·rintro⟨v,d,h1,h2,h3⟩
   rw[getD_ofX h1]
   exact⟨(List.getElem?_eq_some_iff.1 h1).1,h2,h3⟩
 ·have el:(prodM m a l).rel.length=m.rel.length:=by simp[prodM]
  rw[getD_past (l:=m.rel) (i:=i) (by omega),getD_past (l:=(prodM m a l).rel) (i:=i) (by omega)]
  simp
end
theorem holds_of {m:Mo} {n:Nat} {x:List Nd} {s:Nat} (hM:OkM m n) (hs:statI m.rel.length m.val.length x=0) (hv:vlT m n (root x)=s):holdsI m x=(s,0):=by
 have hr:reqI m x=0:=by rw[reqI,ok_moI hM];exact hs
 rw[holdsI,hr,hM.nn,Int.toNat_natCast,hv];rfl
def isF (f:List Nd) (op:Int):Bool:=match f with
 | [x]=>x.op==op
 |_=>false
theorem le_fpv {a b:List Nd} (h:a=b):PLe (.sl (a.map Nd.pv)) (fpv b):=by rw[h];exact .refl _
theorem le_ct {α:Type} {c:Bool} {X a b:α} (h:c=true) (g:X=a):X=bif c then a else b:=by rw[g,h];rfl
theorem le_cf {α:Type} {c:Bool} {X a b:α} (h:c=false) (g:X=b):X=bif c then a else b:=by rw[g,h];rfl
def strI (f:List Nd):List Nd×Bool:=match f[f.length-1]? with
 |some x=>bif x.op != 4 then ([],false) else (sub f x.x,true)
 |none=>([],false)
def strPV (x:List Nd×Bool):PV:=.tup [fpv x.1,.bool x.2]
def negI (f:List Nd):List Nd:=bif (strI f).2 then (strI f).1 else buildL (n0 4) [f]
def oppI (a b:List Nd):Bool:=bif (bif (strI a).2 then decide ((strI a).1=b) else false) then true else bif (strI b).2 then decide ((strI b).1=a) else false
theorem str_len {f:List Nd}:(strI f).1.length≤200:=by
 unfold strI
 cases f[f.length-1]? with
 |none=>simp
 |some x =>
  simp only
  cases (x.op != 4) with
  |true=>simp
  |false=>exact sub_len f x.x
def jntI (x:Nd) (a b:List Nd) (nt dm:Int):List Nd :=
 bif (bif (bif isF a dm then true else isF b dm) then true else (bif (bif oppI a b then !isF a nt else false) then !isF b nt else false)) then apN (n0 dm) [] []
 else bif isF a nt then b else bif (bif isF b nt then true else decide (a=b)) then a else apN x a b
def cndI (a b:List Nd):List Nd:=bif (bif (bif isF a 2 then true else isF b 1) then true else decide (a=b)) then buildL (n0 1) [] else bif isF a 1 then b else bif isF b 2 then negI a else buildL (n0 7) [a,b]
def eqvI (a b:List Nd):List Nd:=bif decide (a=b) then buildL (n0 1) [] else bif oppI a b then buildL (n0 2) [] else bif isF a 1 then b else bif isF b 1 then a else bif isF a 2 then negI b else bif isF b 2 then negI a else buildL (n0 8) [a,b]
def smpI (x:Nd) (a b:List Nd):List Nd :=
 bif x.op==4 then (bif isF a 1 then buildL (n0 2) [] else bif isF a 2 then buildL (n0 1) [] else negI a)
 else bif x.op==5 then jntI x a b 1 2 else bif x.op==6 then jntI x a b 2 1 else bif x.op==7 then cndI a b else bif x.op==8 then eqvI a b
 else bif (bif x.op==10 then isF a 2 else false) then buildL (n0 2) []
 else bif (bif x.op==13 then (bif isF a 2 then true else isF b 1) else false) then buildL (n0 1) []
 else bif (bif (bif (bif x.op==9 then true else x.op==11) then true else x.op==12) then isF a 1 else false) then buildL (n0 1) [] else apN x a b
def binB (op:Int):Bool:=bif op==5 then true else bif op==6 then true else bif op==7 then true else bif op==8 then true else bif op==13 then true else bif op==14 then true else bif op==16 then true else bif op==19 then true else op==21
theorem rw_is (f:List Nd) (op:Int):PureFn Tryz.prog 178 [fpv f,.int .i64 op] (.bool (isF f op)):=by
 refine PureFn.intro mixed (fn:=Tryz.f178) rfl rfl rfl fun M w0 => ?_
 match f with
 | [] =>
  have f1:(((([]:List Nd).map Nd.pv).length:Int)==1)=false:=rfl
  (try conv=>whnf);repeat' (first|(apply And.intro<;>try conv=>whnf)|(intro h;first|with_reducible exact tf h (by assumption)|try conv=>whnf)|(apply whenOff;(focus with_reducible assumption);try conv=>whnf)|fail)
  exact le_bool rfl
 | [x] =>
  (try conv=>whnf);repeat' (first|(apply And.intro<;>try conv=>whnf)|(intro h;try conv=>whnf)|apply True.intro|(apply infoT;rfl)|(apply WhenQ.mk;(try conv=>whnf);rotate_left;(try conv=>whnf);rotate_right)|with_reducible assumption|(refine⟨0,_,rfl,rfl,rfl,?_⟩;try conv=>whnf)|fail)
  exact le_bool rfl
 |x::y::r =>
  have f1:((((x::y::r).map Nd.pv).length:Int)==1)=false:=by simp;omega
  (try conv=>whnf);repeat' (first|(apply And.intro<;>try conv=>whnf)|(intro h;first|with_reducible exact tf h (by assumption)|try conv=>whnf)|(apply whenOff;(focus with_reducible assumption);try conv=>whnf)|fail)
  refine le_bool ?_
  rw[f1];rfl
theorem rw_stripped (f:List Nd) (h0:f≠[]) (hl:f.length≤1000000):PureFn Tryz.prog 206 [fpv f] (strPV (strI f)):=by
 have hpos:0<f.length:=List.length_pos_iff.2 h0
 obtain⟨x,hx⟩:∃ x,f[f.length-1]? = some x:=⟨_,List.getElem?_eq_getElem (by omega)⟩
 have hS:=fm_Sub f x.x
 have hI:strI f=bif x.op != 4 then ([],false) else (sub f x.x,true):=by rw[strI,hx]
 rw[hI]
 have hix:=idx_map (g:=Nd.pv) hx
 have hw:IntKind.wrap .i64 (((f.map Nd.pv).length:Int)-1)=((f.length-1:Nat):Int):=by
  rw[List.length_map,Go.Dv.wrap_small (by omega) (by omega)];omega
 refine PureFn.intro mixed (fn:=Tryz.f206) rfl rfl rfl fun M w0 => ?_
 (try conv=>whnf);repeat' (first|(apply And.intro<;>try conv=>whnf)|(apply infoT;rfl)|fail)
 refine⟨_,_,hw,hix,rfl,?_⟩
 (try conv=>whnf);repeat' (first|(apply And.intro<;>try conv=>whnf)|(intro h;try conv=>whnf)|(refine PureFn.dy hS rfl ?_;try conv=>whnf)|fail)
 ·rw[show (x.op != 4)=true from h]
  exact PLe.tups ⟨.nil,.refl _,trivial⟩
 ·rw[show (x.op != 4)=false from h]
  exact .refl _
theorem rw_negate (f:List Nd) (h0:f≠[]) (hl:f.length≤1000000):PureFn Tryz.prog 179 [fpv f] (fpv (negI f)):=by
 have hS:=rw_stripped f h0 hl
 have hN:=fm_Not f
 unfold negI
 generalize strI f=X at hS
 obtain⟨g,b⟩:=X
 refine PureFn.intro mixed (fn:=Tryz.f179) rfl rfl rfl fun M w0 => ?_
 (try conv=>whnf);repeat' (first|(apply And.intro<;>try conv=>whnf)|(intro h;try conv=>whnf)|(refine PureFn.dy hS rfl ?_;try conv=>whnf)|(refine PureFn.dy hN rfl ?_;try conv=>whnf)|fail)
 ·rw[show b=true from h];exact .refl _
 ·rw[show b=false from h];exact .refl _
theorem rw_build (x:Nd) (X Y:List Nd) (hx:1≤x.op∧x.op≤13):PureFn Tryz.prog 183 [x.pv,fpv X,fpv Y] (fpv (apN x X Y)):=by
 obtain⟨z,hz⟩:∃ z,apN x X Y=z:=⟨_,rfl⟩
 rw[hz]
 unfold apN at hz
 have e1:x.op=1→buildL (n0 1) []=z:=fun e=>by rw[← hz,e];exact build_one _
 have e2:x.op=2→buildL (n0 2) []=z:=fun e=>by rw[← hz,e];exact build_one _
 have e3:x.op=3→buildL (nI 3 x.i) []=z:=fun e=>by rw[← hz,e];exact build_one _
 have e4:x.op=4→buildL (n0 4) [X]=z:=fun e=>by rw[← hz,e];exact build_un _ _ rfl rfl rfl
 have e5:x.op=5→buildL (n0 5) [X,Y]=z:=fun e=>by rw[← hz,e];exact build_bin _ _ _ rfl rfl
 have e6:x.op=6→buildL (n0 6) [X,Y]=z:=fun e=>by rw[← hz,e];exact build_bin _ _ _ rfl rfl
 have e7:x.op=7→buildL (n0 7) [X,Y]=z:=fun e=>by rw[← hz,e];exact build_bin _ _ _ rfl rfl
 have e8:x.op=8→buildL (n0 8) [X,Y]=z:=fun e=>by rw[← hz,e];exact build_bin _ _ _ rfl rfl
 have e9:x.op=9→buildL (nI 9 x.i) [X]=z:=fun e=>by rw[← hz,e];exact build_un _ _ rfl rfl rfl
 have e10:x.op=10→buildL (nI 10 x.i) [X]=z:=fun e=>by rw[← hz,e];exact build_un _ _ rfl rfl rfl
 have e11:x.op=11→buildL (nG 11 x.g) [X]=z:=fun e=>by rw[← hz,e];exact build_un _ _ rfl rfl rfl
 have e12:x.op=12→buildL (nG 12 x.g) [X]=z:=fun e=>by rw[← hz,e];exact build_un _ _ rfl rfl rfl
 have e13:x.op=13→buildL (nG 13 x.g) [X,Y]=z:=fun e=>by rw[← hz,e];exact build_bin _ _ _ rfl rfl
 have d1:=fun e=>e1 e▸fm_True
 have d2:=fun e=>e2 e▸fm_False
 have d3:=fun e=>e3 e▸fm_Fact x.i
 have d4:=fun e=>e4 e▸fm_Not X
 have d5:=fun e=>e5 e▸fm_And X Y
 have d6:=fun e=>e6 e▸fm_Or X Y
 have d7:=fun e=>e7 e▸fm_Imp X Y
 have d8:=fun e=>e8 e▸fm_Iff X Y
 have d9:=fun e=>e9 e▸fm_Know x.i X
 have d10:=fun e=>e10 e▸fm_Poss x.i X
 have d11:=fun e=>e11 e▸fm_Every x.g X
 have d12:=fun e=>e12 e▸fm_Dist x.g X
 have d13:=fun e=>e13 e▸fm_Common x.g X Y
 clear e1 e2 e3 e4 e5 e6 e7 e8 e9 e10 e11 e12 e13 hz
 have no:∀ k:Int,13<k→(x.op==k)=false:=fun k hk=>by simp;omega
 have n14:=no 14 (by decide)
 have n15:=no 15 (by decide)
 have n16:=no 16 (by decide)
 have n17:=no 17 (by decide)
 have n18:=no 18 (by decide)
 have n19:=no 19 (by decide)
 have n20:=no 20 (by decide)
 have n21:=no 21 (by decide)
 refine PureFn.intro mixed (fn:=Tryz.f183) rfl rfl rfl fun M w0 => ?_
 (try conv=>whnf);repeat' (first|(apply And.intro<;>try conv=>whnf)|(intro h;first|with_reducible exact tf h (by assumption)|try conv=>whnf)|(refine PureFn.dcq (f:=36) rfl ?_;try conv=>whnf)|(refine PureFn.dcq (f:=53) rfl ?_;try conv=>whnf)|(refine PureFn.dcq (f:=83) rfl ?_;try conv=>whnf)|(refine PureFn.dcq (f:=37) rfl ?_;try conv=>whnf)|(refine PureFn.dcq (f:=32) rfl ?_;try conv=>whnf)|(refine PureFn.dcq (f:=186) rfl ?_;try conv=>whnf)|(refine PureFn.dcq (f:=34) rfl ?_;try conv=>whnf)|(refine PureFn.dcq (f:=187) rfl ?_;try conv=>whnf)|(refine PureFn.dcq (f:=188) rfl ?_;try conv=>whnf)|(refine PureFn.dcq (f:=153) rfl ?_;try conv=>whnf)|(refine PureFn.dcq (f:=189) rfl ?_;try conv=>whnf)|(refine PureFn.dcq (f:=190) rfl ?_;try conv=>whnf)|(refine PureFn.dcq (f:=154) rfl ?_;try conv=>whnf)|(refine⟨_,_,d1 ?_,?_,?_⟩;rotate_left 1;(focus first|(refine⟨trivial⟩<;>first|exact PLe.refl _|exact PLe.nil)|exact trivial);try conv=>whnf)|(refine⟨_,_,d2 ?_,?_,?_⟩;rotate_left 1;(focus first|(refine⟨trivial⟩<;>first|exact PLe.refl _|exact PLe.nil)|exact trivial);try conv=>whnf)|(refine⟨_,_,d3 ?_,?_,?_⟩;rotate_left 1;(focus first|(refine⟨?_,trivial⟩<;>first|exact PLe.refl _|exact PLe.nil)|exact trivial);try conv=>whnf)|(refine⟨_,_,d4 ?_,?_,?_⟩;rotate_left 1;(focus first|(refine⟨?_,trivial⟩<;>first|exact PLe.refl _|exact PLe.nil)|exact trivial);try conv=>whnf)|(refine⟨_,_,d5 ?_,?_,?_⟩;rotate_left 1;(focus first|(refine⟨?_,?_,trivial⟩<;>first|exact PLe.refl _|exact PLe.nil)|exact trivial);try conv=>whnf)|(refine⟨_,_,d6 ?_,?_,?_⟩;rotate_left 1;(focus first|(refine⟨?_,?_,trivial⟩<;>first|exact PLe.refl _|exact PLe.nil)|exact trivial);try conv=>whnf)|(refine⟨_,_,d7 ?_,?_,?_⟩;rotate_left 1;(focus first|(refine⟨?_,?_,trivial⟩<;>first|exact PLe.refl _|exact PLe.nil)|exact trivial);try conv=>whnf)|(refine⟨_,_,d8 ?_,?_,?_⟩;rotate_left 1;(focus first|(refine⟨?_,?_,trivial⟩<;>first|exact PLe.refl _|exact PLe.nil)|exact trivial);try conv=>whnf)|(refine⟨_,_,d9 ?_,?_,?_⟩;rotate_left 1;(focus first|(refine⟨?_,?_,trivial⟩<;>first|exact PLe.refl _|exact PLe.nil)|exact trivial);try conv=>whnf)|(refine⟨_,_,d10 ?_,?_,?_⟩;rotate_left 1;(focus first|(refine⟨?_,?_,trivial⟩<;>first|exact PLe.refl _|exact PLe.nil)|exact trivial);try conv=>whnf)|(refine⟨_,_,d11 ?_,?_,?_⟩;rotate_left 1;(focus first|(refine⟨?_,?_,trivial⟩<;>first|exact PLe.refl _|exact PLe.nil)|exact trivial);try conv=>whnf)|(refine⟨_,_,d12 ?_,?_,?_⟩;rotate_left 1;(focus first|(refine⟨?_,?_,trivial⟩<;>first|exact PLe.refl _|exact PLe.nil)|exact trivial);try conv=>whnf)|(refine⟨_,_,d13 ?_,?_,?_⟩;rotate_left 1;(focus first|(refine⟨?_,?_,?_,trivial⟩<;>first|exact PLe.refl _|exact PLe.nil)|exact trivial);try conv=>whnf)|fail)
 all_goals first
  |exact .refl _
  |exact eq_of_beq (by with_reducible assumption)
  |(simp only[beq_eq_false_iff_ne,ne_eq] at *;omega)
theorem rw_binary (op:Int):PureFn Tryz.prog 177 [.int .i64 op] (.bool (binB op)):=by
 unfold binB
 refine PureFn.intro mixed (fn:=Tryz.f177) rfl rfl rfl fun M w0 => ?_
 (try conv=>whnf);repeat' (first|(apply And.intro<;>try conv=>whnf)|(intro h;first|with_reducible exact tf (by assumption) h|try conv=>whnf)|fail)
 all_goals (refine le_bool ?_;simp only[*,cond_true,cond_false])
theorem rw_opposite (a b:List Nd) (ha:a≠[]) (hb:b≠[]) (la:a.length≤1000000) (lb:b.length≤1000000):PureFn Tryz.prog 207 [fpv a,fpv b] (.bool (oppI a b)):=by
 have hA:=rw_stripped a ha la
 have hB:=rw_stripped b hb lb
 have hE1:=sl_Equal (strI a).1 b (by have:=str_len (f:=a);omega)
 have hE2:=sl_Equal (strI b).1 a (by have:=str_len (f:=b);omega)
 unfold oppI
 generalize strI a=X at hA hE1
 generalize strI b=Y at hB hE2
 obtain⟨g,p⟩:=X
 obtain⟨h',q⟩:=Y
 refine PureFn.intro mixed (fn:=Tryz.f207) rfl rfl rfl fun M w0 => ?_
 (try conv=>whnf);repeat' (first|(apply And.intro<;>try conv=>whnf)|(intro h;try conv=>whnf)|apply True.intro|(apply WhenQ.mk;(try conv=>whnf);rotate_left;(try conv=>whnf);rotate_right)|with_reducible assumption|(refine PureFn.dy hA rfl ?_;try conv=>whnf)|(refine PureFn.dy hE1 rfl ?_;try conv=>whnf)|(refine PureFn.dy hB rfl ?_;try conv=>whnf)|(refine PureFn.dy hE2 rfl ?_;try conv=>whnf)|fail)
 all_goals (refine le_bool ?_;simp only[*,cond_true,cond_false])
theorem rw_joint (x:Nd) (a b:List Nd) (nt dm:Int) (hx:1≤x.op∧x.op≤13) (hd:1≤dm∧dm≤13) (ha:a≠[]) (hb:b≠[]) (la:a.length≤1000000) (lb:b.length≤1000000):PureFn Tryz.prog 180 [x.pv,fpv a,fpv b,.int .i64 nt,.int .i64 dm] (fpv (jntI x a b nt dm)):=by
 have hO:=rw_opposite a b ha hb la lb
 have hE:=sl_Equal a b la
 have hB:=rw_build x a b hx
 have hD:=rw_build (n0 dm) [] [] hd
 unfold jntI
 refine PureFn.intro mixed (fn:=Tryz.f180) rfl rfl rfl fun M w0 => ?_
 (try conv=>whnf);repeat' (first|(apply And.intro<;>try conv=>whnf)|(intro h;try conv=>whnf)|apply True.intro|(apply WhenQ.mk;(try conv=>whnf);rotate_left;(try conv=>whnf);rotate_right)|with_reducible assumption|(apply not_of;with_reducible assumption)|(apply and_of<;>first|with_reducible assumption|(apply not_of;with_reducible assumption))|(refine PureFn.dy hO rfl ?_;try conv=>whnf)|(refine PureFn.dy hE rfl ?_;try conv=>whnf)|(refine PureFn.dy hB rfl ?_;try conv=>whnf)|(refine PureFn.dcq (f:=178) rfl ?_;try conv=>whnf)|(refine PureFn.dcq (f:=183) rfl ?_;try conv=>whnf)|(refine⟨_,_,rw_is ?_ ?_,?_,?_⟩;rotate_left 2;(focus first|(refine⟨?_,?_,trivial⟩<;>first|exact PLe.refl _|exact PLe.nil)|exact trivial);try conv=>whnf)|(refine⟨_,_,hD,?_,?_⟩;(focus first|(refine⟨?_,?_,?_,trivial⟩<;>first|exact PLe.refl _|exact PLe.nil)|exact trivial);try conv=>whnf)|fail)
 all_goals (refine le_fpv ?_;repeat (first|(refine le_ct ?_ ?_;focus (with_reducible assumption))|(refine le_cf ?_ ?_;focus (with_reducible assumption))|rfl|fail))
theorem rw_conditional (a b:List Nd) (ha:a≠[]) (la:a.length≤1000000):PureFn Tryz.prog 181 [fpv a,fpv b] (fpv (cndI a b)):=by
 have hE:=sl_Equal a b la
 have hN:=rw_negate a ha la
 have hI:=fm_Imp a b
 unfold cndI
 refine PureFn.intro mixed (fn:=Tryz.f181) rfl rfl rfl fun M w0 => ?_
 (try conv=>whnf);repeat' (first|(apply And.intro<;>try conv=>whnf)|(intro h;try conv=>whnf)|apply True.intro|(apply WhenQ.mk;(try conv=>whnf);rotate_left;(try conv=>whnf);rotate_right)|with_reducible assumption|(apply not_of;with_reducible assumption)|(refine PureFn.dy hE rfl ?_;try conv=>whnf)|(refine PureFn.dy hN rfl ?_;try conv=>whnf)|(refine PureFn.dy hI rfl ?_;try conv=>whnf)|(refine PureFn.dy fm_True rfl ?_;try conv=>whnf)|(refine PureFn.dcq (f:=178) rfl ?_;try conv=>whnf)|(refine⟨_,_,rw_is ?_ ?_,?_,?_⟩;rotate_left 2;(focus first|(refine⟨?_,?_,trivial⟩<;>first|exact PLe.refl _|exact PLe.nil)|exact trivial);try conv=>whnf)|fail)
 all_goals (refine le_fpv ?_;simp only[*,cond_true,cond_false,Bool.not_true,Bool.not_false])
theorem rw_equivalence (a b:List Nd) (ha:a≠[]) (hb:b≠[]) (la:a.length≤1000000) (lb:b.length≤1000000):PureFn Tryz.prog 182 [fpv a,fpv b] (fpv (eqvI a b)):=by
 have hE:=sl_Equal a b la
 have hO:=rw_opposite a b ha hb la lb
 have hN:=rw_negate a ha la
 have hN2:=rw_negate b hb lb
 have hI:=fm_Iff a b
 unfold eqvI
 refine PureFn.intro mixed (fn:=Tryz.f182) rfl rfl rfl fun M w0 => ?_
 (try conv=>whnf);repeat' (first|(apply And.intro<;>try conv=>whnf)|(intro h;try conv=>whnf)|(refine PureFn.dy hE rfl ?_;try conv=>whnf)|(refine PureFn.dy hO rfl ?_;try conv=>whnf)|(refine PureFn.dy hN rfl ?_;try conv=>whnf)|(refine PureFn.dy hN2 rfl ?_;try conv=>whnf)|(refine PureFn.dy hI rfl ?_;try conv=>whnf)|(refine PureFn.dy fm_True rfl ?_;try conv=>whnf)|(refine PureFn.dy fm_False rfl ?_;try conv=>whnf)|(refine PureFn.dcq (f:=178) rfl ?_;try conv=>whnf)|(refine⟨_,_,rw_is ?_ ?_,?_,?_⟩;rotate_left 2;(focus first|(refine⟨?_,?_,trivial⟩<;>first|exact PLe.refl _|exact PLe.nil)|exact trivial);try conv=>whnf)|fail)
 all_goals (refine le_fpv ?_;simp only[*,cond_true,cond_false,Bool.not_true,Bool.not_false])
theorem op_all {o:Int} {k:Nat} (h:o=(k:Int)):(o==4)=decide (k=4)∧(o==5)=decide (k=5)∧(o==6)=decide (k=6)∧(o==7)=decide (k=7)∧(o==8)=decide (k=8)∧(o==9)=decide (k=9)∧(o==10)=decide (k=10)∧(o==11)=decide (k=11)∧(o==12)=decide (k=12)∧(o==13)=decide (k=13)∧(o==14)=decide (k=14)∧(o==15)=decide (k=15)∧(o==16)=decide (k=16)∧(o==17)=decide (k=17):=by
 have key:∀ j:Nat,(o==(j:Int))=decide (k=j):=fun j=>by
  rw[h,Bool.eq_iff_iff];simp;omega
 exact⟨key 4,key 5,key 6,key 7,key 8,key 9,key 10,key 11,key 12,key 13,key 14,key 15,key 16,key 17⟩
theorem rw_simple_1 (x:Nd) (a b:List Nd) (hx:x.op=1) (_ha:usesX 1=true→a≠[]) (_hb:usesY 1=true→b≠[]) (_la:a.length≤1000000) (_lb:b.length≤1000000):PureFn Tryz.prog 142 [x.pv,fpv a,fpv b] (fpv (smpI x a b)):=by
 have hB:=rw_build x a b (by rw[hx];decide)
 skip
 obtain⟨q4,q5,q6,q7,q8,q9,q10,q11,q12,q13,q14,q15,q16,q17⟩:=op_all (k:=1) hx
 simp only[Nat.reduceEqDiff,decide_true,decide_false] at q4 q5 q6 q7 q8 q9 q10 q11 q12 q13 q14 q15 q16 q17
 clear hx _ha _hb _la _lb
 refine PureFn.intro mixed (fn:=Tryz.f142) rfl rfl rfl fun M w0 => ?_
 (try conv=>whnf);repeat' (first|(apply And.intro<;>try conv=>whnf)|(intro h;first|with_reducible exact tf h (by assumption)|try conv=>whnf)|(refine PureFn.dy hB rfl ?_;try conv=>whnf)|fail)
 all_goals (refine le_fpv ?_;simp only[smpI, *,cond_true,cond_false])
theorem rw_simple_2 (x:Nd) (a b:List Nd) (hx:x.op=2) (_ha:usesX 2=true→a≠[]) (_hb:usesY 2=true→b≠[]) (_la:a.length≤1000000) (_lb:b.length≤1000000):PureFn Tryz.prog 142 [x.pv,fpv a,fpv b] (fpv (smpI x a b)):=by
 have hB:=rw_build x a b (by rw[hx];decide)
 skip
 obtain⟨q4,q5,q6,q7,q8,q9,q10,q11,q12,q13,q14,q15,q16,q17⟩:=op_all (k:=2) hx
 simp only[Nat.reduceEqDiff,decide_true,decide_false] at q4 q5 q6 q7 q8 q9 q10 q11 q12 q13 q14 q15 q16 q17
 clear hx _ha _hb _la _lb
 refine PureFn.intro mixed (fn:=Tryz.f142) rfl rfl rfl fun M w0 => ?_
 (try conv=>whnf);repeat' (first|(apply And.intro<;>try conv=>whnf)|(intro h;first|with_reducible exact tf h (by assumption)|try conv=>whnf)|(refine PureFn.dy hB rfl ?_;try conv=>whnf)|fail)
 all_goals (refine le_fpv ?_;simp only[smpI, *,cond_true,cond_false])
theorem rw_simple_3 (x:Nd) (a b:List Nd) (hx:x.op=3) (_ha:usesX 3=true→a≠[]) (_hb:usesY 3=true→b≠[]) (_la:a.length≤1000000) (_lb:b.length≤1000000):PureFn Tryz.prog 142 [x.pv,fpv a,fpv b] (fpv (smpI x a b)):=by
 have hB:=rw_build x a b (by rw[hx];decide)
 skip
 obtain⟨q4,q5,q6,q7,q8,q9,q10,q11,q12,q13,q14,q15,q16,q17⟩:=op_all (k:=3) hx
 simp only[Nat.reduceEqDiff,decide_true,decide_false] at q4 q5 q6 q7 q8 q9 q10 q11 q12 q13 q14 q15 q16 q17
 clear hx _ha _hb _la _lb
 refine PureFn.intro mixed (fn:=Tryz.f142) rfl rfl rfl fun M w0 => ?_
 (try conv=>whnf);repeat' (first|(apply And.intro<;>try conv=>whnf)|(intro h;first|with_reducible exact tf h (by assumption)|try conv=>whnf)|(refine PureFn.dy hB rfl ?_;try conv=>whnf)|fail)
 all_goals (refine le_fpv ?_;simp only[smpI, *,cond_true,cond_false])
theorem rw_simple_4 (x:Nd) (a b:List Nd) (hx:x.op=4) (_ha:usesX 4=true→a≠[]) (_hb:usesY 4=true→b≠[]) (_la:a.length≤1000000) (_lb:b.length≤1000000):PureFn Tryz.prog 142 [x.pv,fpv a,fpv b] (fpv (smpI x a b)):=by
 have hB:=rw_build x a b (by rw[hx];decide)
 have hN:=rw_negate a (_ha rfl) _la
 obtain⟨q4,q5,q6,q7,q8,q9,q10,q11,q12,q13,q14,q15,q16,q17⟩:=op_all (k:=4) hx
 simp only[Nat.reduceEqDiff,decide_true,decide_false] at q4 q5 q6 q7 q8 q9 q10 q11 q12 q13 q14 q15 q16 q17
 clear hx _ha _hb _la _lb
 refine PureFn.intro mixed (fn:=Tryz.f142) rfl rfl rfl fun M w0 => ?_
 (try conv=>whnf);repeat' (first|(apply And.intro<;>try conv=>whnf)|(intro h;first|with_reducible exact tf (by assumption) h|try conv=>whnf)|(refine PureFn.dy hN rfl ?_;try conv=>whnf)|(refine PureFn.dy fm_True rfl ?_;try conv=>whnf)|(refine PureFn.dy fm_False rfl ?_;try conv=>whnf)|(refine PureFn.dcq (f:=178) rfl ?_;try conv=>whnf)|(refine⟨_,_,rw_is ?_ ?_,?_,?_⟩;rotate_left 2;(focus first|(refine⟨?_,?_,trivial⟩<;>first|exact PLe.refl _|exact PLe.nil)|exact trivial);try conv=>whnf)|fail)
 all_goals (refine le_fpv ?_;simp only[smpI, *,cond_true,cond_false])
theorem rw_simple_5 (x:Nd) (a b:List Nd) (hx:x.op=5) (_ha:usesX 5=true→a≠[]) (_hb:usesY 5=true→b≠[]) (_la:a.length≤1000000) (_lb:b.length≤1000000):PureFn Tryz.prog 142 [x.pv,fpv a,fpv b] (fpv (smpI x a b)):=by
 have hB:=rw_build x a b (by rw[hx];decide)
 have hJ:=rw_joint x a b 1 2 (by omega) (by decide) (_ha rfl) (_hb rfl) _la _lb
 obtain⟨q4,q5,q6,q7,q8,q9,q10,q11,q12,q13,q14,q15,q16,q17⟩:=op_all (k:=5) hx
 simp only[Nat.reduceEqDiff,decide_true,decide_false] at q4 q5 q6 q7 q8 q9 q10 q11 q12 q13 q14 q15 q16 q17
 clear hx _ha _hb _la _lb
 refine PureFn.intro mixed (fn:=Tryz.f142) rfl rfl rfl fun M w0 => ?_
 (try conv=>whnf);repeat' (first|(apply And.intro<;>try conv=>whnf)|(intro h;first|with_reducible exact tf h (by assumption)|with_reducible exact tf (by assumption) h|try conv=>whnf)|(refine PureFn.dy hJ rfl ?_;try conv=>whnf)|fail)
 all_goals (refine le_fpv ?_;simp only[smpI, *,cond_true,cond_false])
theorem rw_simple_6 (x:Nd) (a b:List Nd) (hx:x.op=6) (_ha:usesX 6=true→a≠[]) (_hb:usesY 6=true→b≠[]) (_la:a.length≤1000000) (_lb:b.length≤1000000):PureFn Tryz.prog 142 [x.pv,fpv a,fpv b] (fpv (smpI x a b)):=by
 have hB:=rw_build x a b (by rw[hx];decide)
 have hJ:=rw_joint x a b 2 1 (by omega) (by decide) (_ha rfl) (_hb rfl) _la _lb
 obtain⟨q4,q5,q6,q7,q8,q9,q10,q11,q12,q13,q14,q15,q16,q17⟩:=op_all (k:=6) hx
 simp only[Nat.reduceEqDiff,decide_true,decide_false] at q4 q5 q6 q7 q8 q9 q10 q11 q12 q13 q14 q15 q16 q17
 clear hx _ha _hb _la _lb
 refine PureFn.intro mixed (fn:=Tryz.f142) rfl rfl rfl fun M w0 => ?_
 (try conv=>whnf);repeat' (first|(apply And.intro<;>try conv=>whnf)|(intro h;first|with_reducible exact tf h (by assumption)|with_reducible exact tf (by assumption) h|try conv=>whnf)|(refine PureFn.dy hJ rfl ?_;try conv=>whnf)|fail)
 all_goals (refine le_fpv ?_;simp only[smpI, *,cond_true,cond_false])
theorem rw_simple_7 (x:Nd) (a b:List Nd) (hx:x.op=7) (_ha:usesX 7=true→a≠[]) (_hb:usesY 7=true→b≠[]) (_la:a.length≤1000000) (_lb:b.length≤1000000):PureFn Tryz.prog 142 [x.pv,fpv a,fpv b] (fpv (smpI x a b)):=by
 have hB:=rw_build x a b (by rw[hx];decide)
 have hC:=rw_conditional a b (_ha rfl) _la
 obtain⟨q4,q5,q6,q7,q8,q9,q10,q11,q12,q13,q14,q15,q16,q17⟩:=op_all (k:=7) hx
 simp only[Nat.reduceEqDiff,decide_true,decide_false] at q4 q5 q6 q7 q8 q9 q10 q11 q12 q13 q14 q15 q16 q17
 clear hx _ha _hb _la _lb
 refine PureFn.intro mixed (fn:=Tryz.f142) rfl rfl rfl fun M w0 => ?_
 (try conv=>whnf);repeat' (first|(apply And.intro<;>try conv=>whnf)|(intro h;first|with_reducible exact tf h (by assumption)|with_reducible exact tf (by assumption) h|try conv=>whnf)|(refine PureFn.dy hC rfl ?_;try conv=>whnf)|fail)
 all_goals (refine le_fpv ?_;simp only[smpI, *,cond_true,cond_false])
theorem rw_simple_8 (x:Nd) (a b:List Nd) (hx:x.op=8) (_ha:usesX 8=true→a≠[]) (_hb:usesY 8=true→b≠[]) (_la:a.length≤1000000) (_lb:b.length≤1000000):PureFn Tryz.prog 142 [x.pv,fpv a,fpv b] (fpv (smpI x a b)):=by
 have hB:=rw_build x a b (by rw[hx];decide)
 have hV:=rw_equivalence a b (_ha rfl) (_hb rfl) _la _lb
 obtain⟨q4,q5,q6,q7,q8,q9,q10,q11,q12,q13,q14,q15,q16,q17⟩:=op_all (k:=8) hx
 simp only[Nat.reduceEqDiff,decide_true,decide_false] at q4 q5 q6 q7 q8 q9 q10 q11 q12 q13 q14 q15 q16 q17
 clear hx _ha _hb _la _lb
 refine PureFn.intro mixed (fn:=Tryz.f142) rfl rfl rfl fun M w0 => ?_
 (try conv=>whnf);repeat' (first|(apply And.intro<;>try conv=>whnf)|(intro h;first|with_reducible exact tf h (by assumption)|with_reducible exact tf (by assumption) h|try conv=>whnf)|(refine PureFn.dy hV rfl ?_;try conv=>whnf)|fail)
 all_goals (refine le_fpv ?_;simp only[smpI, *,cond_true,cond_false])
theorem rw_simple_9 (x:Nd) (a b:List Nd) (hx:x.op=9) (_ha:usesX 9=true→a≠[]) (_hb:usesY 9=true→b≠[]) (_la:a.length≤1000000) (_lb:b.length≤1000000):PureFn Tryz.prog 142 [x.pv,fpv a,fpv b] (fpv (smpI x a b)):=by
 have hB:=rw_build x a b (by rw[hx];decide)
 skip
 obtain⟨q4,q5,q6,q7,q8,q9,q10,q11,q12,q13,q14,q15,q16,q17⟩:=op_all (k:=9) hx
 simp only[Nat.reduceEqDiff,decide_true,decide_false] at q4 q5 q6 q7 q8 q9 q10 q11 q12 q13 q14 q15 q16 q17
 clear hx _ha _hb _la _lb
 refine PureFn.intro mixed (fn:=Tryz.f142) rfl rfl rfl fun M w0 => ?_
 (try conv=>whnf);repeat' (first|(apply And.intro<;>try conv=>whnf)|(intro h;first|with_reducible exact tf h (by assumption)|with_reducible exact tf (by assumption) h|try conv=>whnf)|(refine PureFn.dy hB rfl ?_;try conv=>whnf)|(refine PureFn.dy fm_True rfl ?_;try conv=>whnf)|(refine PureFn.dcq (f:=178) rfl ?_;try conv=>whnf)|(refine⟨_,_,rw_is ?_ ?_,?_,?_⟩;rotate_left 2;(focus first|(refine⟨?_,?_,trivial⟩<;>first|exact PLe.refl _|exact PLe.nil)|exact trivial);try conv=>whnf)|fail)
 all_goals (refine le_fpv ?_;simp only[smpI, *,cond_true,cond_false])
theorem rw_simple_10 (x:Nd) (a b:List Nd) (hx:x.op=10) (_ha:usesX 10=true→a≠[]) (_hb:usesY 10=true→b≠[]) (_la:a.length≤1000000) (_lb:b.length≤1000000):PureFn Tryz.prog 142 [x.pv,fpv a,fpv b] (fpv (smpI x a b)):=by
 have hB:=rw_build x a b (by rw[hx];decide)
 skip
 obtain⟨q4,q5,q6,q7,q8,q9,q10,q11,q12,q13,q14,q15,q16,q17⟩:=op_all (k:=10) hx
 simp only[Nat.reduceEqDiff,decide_true,decide_false] at q4 q5 q6 q7 q8 q9 q10 q11 q12 q13 q14 q15 q16 q17
 clear hx _ha _hb _la _lb
 refine PureFn.intro mixed (fn:=Tryz.f142) rfl rfl rfl fun M w0 => ?_
 (try conv=>whnf);repeat' (first|(apply And.intro<;>try conv=>whnf)|(intro h;first|with_reducible exact tf h (by assumption)|with_reducible exact tf (by assumption) h|try conv=>whnf)|(refine PureFn.dy hB rfl ?_;try conv=>whnf)|(refine PureFn.dy fm_False rfl ?_;try conv=>whnf)|(refine PureFn.dcq (f:=178) rfl ?_;try conv=>whnf)|(refine⟨_,_,rw_is ?_ ?_,?_,?_⟩;rotate_left 2;(focus first|(refine⟨?_,?_,trivial⟩<;>first|exact PLe.refl _|exact PLe.nil)|exact trivial);try conv=>whnf)|fail)
 all_goals (refine le_fpv ?_;simp only[smpI, *,cond_true,cond_false])
theorem rw_simple_11 (x:Nd) (a b:List Nd) (hx:x.op=11) (_ha:usesX 11=true→a≠[]) (_hb:usesY 11=true→b≠[]) (_la:a.length≤1000000) (_lb:b.length≤1000000):PureFn Tryz.prog 142 [x.pv,fpv a,fpv b] (fpv (smpI x a b)):=by
 have hB:=rw_build x a b (by rw[hx];decide)
 skip
 obtain⟨q4,q5,q6,q7,q8,q9,q10,q11,q12,q13,q14,q15,q16,q17⟩:=op_all (k:=11) hx
 simp only[Nat.reduceEqDiff,decide_true,decide_false] at q4 q5 q6 q7 q8 q9 q10 q11 q12 q13 q14 q15 q16 q17
 clear hx _ha _hb _la _lb
 refine PureFn.intro mixed (fn:=Tryz.f142) rfl rfl rfl fun M w0 => ?_
 (try conv=>whnf);repeat' (first|(apply And.intro<;>try conv=>whnf)|(intro h;first|with_reducible exact tf h (by assumption)|with_reducible exact tf (by assumption) h|try conv=>whnf)|(refine PureFn.dy hB rfl ?_;try conv=>whnf)|(refine PureFn.dy fm_True rfl ?_;try conv=>whnf)|(refine PureFn.dcq (f:=178) rfl ?_;try conv=>whnf)|(refine⟨_,_,rw_is ?_ ?_,?_,?_⟩;rotate_left 2;(focus first|(refine⟨?_,?_,trivial⟩<;>first|exact PLe.refl _|exact PLe.nil)|exact trivial);try conv=>whnf)|fail)
 all_goals (refine le_fpv ?_;simp only[smpI, *,cond_true,cond_false])
theorem rw_simple_12 (x:Nd) (a b:List Nd) (hx:x.op=12) (_ha:usesX 12=true→a≠[]) (_hb:usesY 12=true→b≠[]) (_la:a.length≤1000000) (_lb:b.length≤1000000):PureFn Tryz.prog 142 [x.pv,fpv a,fpv b] (fpv (smpI x a b)):=by
 have hB:=rw_build x a b (by rw[hx];decide)
 skip
 obtain⟨q4,q5,q6,q7,q8,q9,q10,q11,q12,q13,q14,q15,q16,q17⟩:=op_all (k:=12) hx
 simp only[Nat.reduceEqDiff,decide_true,decide_false] at q4 q5 q6 q7 q8 q9 q10 q11 q12 q13 q14 q15 q16 q17
 clear hx _ha _hb _la _lb
 refine PureFn.intro mixed (fn:=Tryz.f142) rfl rfl rfl fun M w0 => ?_
 (try conv=>whnf);repeat' (first|(apply And.intro<;>try conv=>whnf)|(intro h;first|with_reducible exact tf h (by assumption)|with_reducible exact tf (by assumption) h|try conv=>whnf)|(refine PureFn.dy hB rfl ?_;try conv=>whnf)|(refine PureFn.dy fm_True rfl ?_;try conv=>whnf)|(refine PureFn.dcq (f:=178) rfl ?_;try conv=>whnf)|(refine⟨_,_,rw_is ?_ ?_,?_,?_⟩;rotate_left 2;(focus first|(refine⟨?_,?_,trivial⟩<;>first|exact PLe.refl _|exact PLe.nil)|exact trivial);try conv=>whnf)|fail)
 all_goals (refine le_fpv ?_;simp only[smpI, *,cond_true,cond_false])
theorem rw_simple_13 (x:Nd) (a b:List Nd) (hx:x.op=13) (_ha:usesX 13=true→a≠[]) (_hb:usesY 13=true→b≠[]) (_la:a.length≤1000000) (_lb:b.length≤1000000):PureFn Tryz.prog 142 [x.pv,fpv a,fpv b] (fpv (smpI x a b)):=by
 have hB:=rw_build x a b (by rw[hx];decide)
 skip
 obtain⟨q4,q5,q6,q7,q8,q9,q10,q11,q12,q13,q14,q15,q16,q17⟩:=op_all (k:=13) hx
 simp only[Nat.reduceEqDiff,decide_true,decide_false] at q4 q5 q6 q7 q8 q9 q10 q11 q12 q13 q14 q15 q16 q17
 clear hx _ha _hb _la _lb
 refine PureFn.intro mixed (fn:=Tryz.f142) rfl rfl rfl fun M w0 => ?_
 (try conv=>whnf);repeat' (first|(apply And.intro<;>try conv=>whnf)|(intro h;first|with_reducible exact tf h (by assumption)|with_reducible exact tf (by assumption) h|try conv=>whnf)|apply True.intro|(apply WhenQ.mk;(try conv=>whnf);rotate_left;(try conv=>whnf);rotate_right)|with_reducible assumption|(apply not_of;with_reducible assumption)|(refine PureFn.dy hB rfl ?_;try conv=>whnf)|(refine PureFn.dy fm_True rfl ?_;try conv=>whnf)|(refine PureFn.dcq (f:=178) rfl ?_;try conv=>whnf)|(refine⟨_,_,rw_is ?_ ?_,?_,?_⟩;rotate_left 2;(focus first|(refine⟨?_,?_,trivial⟩<;>first|exact PLe.refl _|exact PLe.nil)|exact trivial);try conv=>whnf)|fail)
 all_goals (refine le_fpv ?_;simp only[smpI, *,cond_true,cond_false])
theorem rw_simple (x:Nd) (a b:List Nd) (hx:1≤x.op∧x.op≤13) (ha:usesX x.op=true→a≠[]) (hb:usesY x.op=true→b≠[]) (la:a.length≤1000000) (lb:b.length≤1000000):PureFn Tryz.prog 142 [x.pv,fpv a,fpv b] (fpv (smpI x a b)):=by
 have h:x.op=1∨x.op=2∨x.op=3∨x.op=4∨x.op=5∨x.op=6∨x.op=7∨x.op=8∨x.op=9∨x.op=10∨x.op=11∨x.op=12∨x.op=13:=by omega
 rcases h with h|h|h|h|h|h|h|h|h|h|h|h|h<;>rw[h] at ha hb
 ·exact rw_simple_1 x a b h ha hb la lb
 ·exact rw_simple_2 x a b h ha hb la lb
 ·exact rw_simple_3 x a b h ha hb la lb
 ·exact rw_simple_4 x a b h ha hb la lb
 ·exact rw_simple_5 x a b h ha hb la lb
 ·exact rw_simple_6 x a b h ha hb la lb
 ·exact rw_simple_7 x a b h ha hb la lb
 ·exact rw_simple_8 x a b h ha hb la lb
 ·exact rw_simple_9 x a b h ha hb la lb
 ·exact rw_simple_10 x a b h ha hb la lb
 ·exact rw_simple_11 x a b h ha hb la lb
 ·exact rw_simple_12 x a b h ha hb la lb
 ·exact rw_simple_13 x a b h ha hb la lb
def opX (x:Nd) (X:List Nd):List Nd:=bif decide (x.op≥4) then X else []
def opY (x:Nd) (Y:List Nd):List Nd:=bif binB x.op then Y else []
def smpH (x:Nd) (X Y:List Nd):List Nd×Int:=nz (smpI x (opX x X) (opY x Y))
def simF (c:List Nd):List Nd×Int:=lastF (redE [] smpH c [])
def simI (f:List Nd):List Nd×Int:=bif check f != 0 then ([],check f) else simF (comp f)
theorem apN_len (x:Nd) (a b:List Nd):(apN x a b).length≤200:=by
 unfold apN
 exact wantL_len _ _ _ _ _ _
theorem negI_len (a:List Nd):(negI a).length≤200:=by
 unfold negI
 cases (strI a).2 with
 |true=>exact str_len
 |false=>exact buildL_len _ _
theorem bif_len {c:Bool} {a b:List Nd} (h1:a.length≤200) (h2:b.length≤200):(bif c then a else b).length≤200:=by cases c<;>assumption
theorem smp_len (x:Nd) (a b:List Nd) (ha:a.length≤200) (hb:b.length≤200):(smpI x a b).length≤200:=by
 unfold smpI jntI cndI eqvI
 repeat' (first|exact ha|exact hb|exact apN_len _ _ _|exact buildL_len _ _|exact negI_len _|apply bif_len)
theorem opX_len {x:Nd} {X:List Nd} (h:X.length≤200):(opX x X).length≤200:=bif_len h (by decide)
theorem opY_len {x:Nd} {X:List Nd} (h:X.length≤200):(opY x X).length≤200:=bif_len h (by decide)
def Done (l:List (List Nd)):Prop:=∀ z,z∈l→z≠[]∧z.length≤200
theorem Done.get {l:List (List Nd)} (h:Done l) (k:Nat):(l.getD k []).length≤200∧(k<l.length→l.getD k []≠[]):=by
 by_cases hk:k<l.length
 ·have:=h _ (by rw[List.getD_eq_getElem?_getD,List.getElem?_eq_getElem hk];exact List.getElem_mem hk:l.getD k []∈l)
  exact⟨this.2,fun _=>this.1⟩
 ·rw[List.getD_eq_getElem?_getD,List.getElem?_eq_none (by omega)]
  exact⟨Nat.zero_le _,fun h=>absurd h hk⟩
theorem Done.add {l:List (List Nd)} (h:Done l) {z:List Nd} (h0:z≠[]) (hz:z.length≤200):Done (l++[z]):=fun y hy=>by
 rcases List.mem_append.1 hy with hy|hy
 ·exact h y hy
 ·rw[List.mem_singleton.1 hy];exact⟨h0,hz⟩
theorem bin_uses {x:Nd} (h:x.op≤13):binB x.op=usesY x.op:=by
 by_cases h0:x.op<0
 ·have:∀ k:Int,0≤k→(x.op==k)=false:=fun k hk=>by simp;omega
  simp[binB,usesY,this]
  omega
 ·obtain⟨k,hk⟩:∃ k:Nat,x.op=k:=⟨x.op.toNat,by omega⟩
  have key:∀ k:Nat,k<14→binB (k:Int)=usesY (k:Int):=by decide
  rw[hk]
  exact key k (by omega)
theorem rw_upward (f:List Nd) (hc:check f=0) (hs:∀ x,x∈comp f→x.op≤13) (M:Nat→Prop) (w0:W0) :
  DC Tryz.prog M w0 141 [.pv (fpv f),.clo 142 [] []] noHeap fun d L'=>frz d L' fun q _=>PLe q (pairF (simF (comp f))):=by
 have hc0:(check f != 0)=false:=by rw[hc];rfl
 refine DC.weaken (DC.introC [9,11,13] mixed (fn:=Tryz.f141) rfl rfl rfl ?_)
 have hlen:=comp_len f
 have hpos:=comp_pos hc
 have hokl:=comp_okl f
 (try conv=>whnf);repeat' (first|(apply And.intro<;>try conv=>whnf)|(intro h;first|with_reducible exact tf h (by assumption)|try conv=>whnf)|(refine PureFn.dcq (f:=86) rfl ?_;try conv=>whnf)|(refine PureFn.dcq (f:=68) rfl ?_;try conv=>whnf)|(refine⟨_,_,fm_Check ?_,?_,?_⟩;rotate_left 1;(focus first|(refine⟨?_,trivial⟩<;>first|exact PLe.refl _|exact PLe.nil)|exact trivial);try conv=>whnf)|(refine⟨_,_,fm_Compact ?_,?_,?_⟩;rotate_left 1;(focus first|(refine⟨?_,trivial⟩<;>first|exact PLe.refl _|exact PLe.nil)|exact trivial);try conv=>whnf)|fail)
 unfold simF
 generalize comp f=c at *
 refine⟨{ q:Nat×List (List Nd) // q.1≤c.length∧q.2.length=q.1∧Done q.2∧redE [] smpH c []=redE [] smpH (c.drop q.1) q.2 },
  fun q=>[(1,.clo 142 [] []),(7,.buf 0 (q.1.2.map fpv).length),(19,.pv (fpv c)),(20,.pv (.int .i64 (c.map Nd.pv).length)),(21,.pv (.int .i64 (q.1.1:Nat)))],fun _=>1,fun q=>[(0,.arr 1 (q.1.2.map fpv))],fun q=>c.length-q.1.1,
  ⟨⟨(0,[]),Nat.zero_le _,rfl,fun z hz=>by simp at hz,rfl⟩,(by refine Wk.of ?_ ?_ rfl rfl rfl<;>repeat' (first|exact trivial|exact WkD.same _|exact WkD.new' rfl rfl rfl|exact WkO.new _ _ rfl|exact rfl|refine⟨?_,?_⟩|fail))⟩,?_⟩
 rintro⟨⟨i,l⟩,hi,hl,hD,he⟩
 simp only at hi hl hD he
 have hlm:(l.map fpv).length=i:=by rw[List.length_map];exact hl
 (try conv=>whnf);repeat' (first|(apply And.intro<;>try conv=>whnf)|(intro h;try conv=>whnf)|(apply infoT;rfl)|fail)
 ·have hi':i<c.length:=by simpa using lt_dec h
  obtain⟨x,hx⟩:∃ x,c[i]? = some x:=⟨_,List.getElem?_eq_getElem hi'⟩
  have ok:=hokl i x hx
  have hox:=hs x (List.mem_iff_getElem?.2 ⟨i,hx⟩)
  have h1:=ok.op
  obtain⟨X,hX⟩:∃ X,opX x (l.getD x.x.toNat [])=X:=⟨_,rfl⟩
  obtain⟨Y,hY⟩:∃ Y,opY x (l.getD x.y.toNat [])=Y:=⟨_,rfl⟩
  refine⟨_,_,rfl,idx_map hx,rfl,?_⟩
  try conv=>whnf
  refine⟨Unit,fun _=>[(1,.clo 142 [] []),(7,.buf 0 (l.map fpv).length),(19,.pv (fpv c)),(20,.pv (.int .i64 (c.map Nd.pv).length)),(21,.pv (.int .i64 (i:Nat))),(9,.ref 1 0),(10,.pv .nil),(11,.pv .nil)],fun _=>2,fun _=>[(0,.arr 1 (l.map fpv)),(1,.var x.dvs)],?_,?_⟩
  ·try conv=>whnf
   exact⟨(),(by exact Wk.sm rfl rfl rfl rfl rfl)⟩
  rintro⟨⟩
  refine⟨Unit,fun _=>[(1,.clo 142 [] []),(7,.buf 0 (l.map fpv).length),(19,.pv (fpv c)),(20,.pv (.int .i64 (c.map Nd.pv).length)),(21,.pv (.int .i64 (i:Nat))),(9,.ref 1 0),(10,.pv (fpv X)),(11,.pv .nil)],fun _=>2,fun _=>[(0,.arr 1 (l.map fpv)),(1,.var x.dvs)],?_,?_⟩
  ·(try conv=>whnf);repeat' (first|(apply And.intro<;>try conv=>whnf)|(intro h;try conv=>whnf)|fail)
   ·have hg:decide (x.op≥4)=true:=h
    have hu:usesX x.op=true:=by
     have:=of_decide_eq_true hg
     simp only[usesX,Bool.and_eq_true,decide_eq_true_eq];omega
    obtain⟨u1,u2⟩:=ok.x hu
    obtain⟨k,hk⟩:∃ k:Nat,x.x=k:=⟨x.x.toNat,by omega⟩
    have hkl:k<l.length:=by omega
    refine⟨k,hk,by omega,?_⟩
    (try conv=>whnf);repeat' (first|(apply And.intro<;>try conv=>whnf)|fail)
    refine⟨_,fget hkl,?_⟩
    try conv=>whnf
    have hXk:l.getD k []=X:=by rw[← hX,opX,hg,hk];rfl
    rw[hXk]
    exact⟨(),(by exact Wk.sm rfl rfl rfl rfl rfl)⟩
   ·have hXn:X=[]:=by rw[← hX,opX,show decide (x.op≥4)=false from h];rfl
    rw[hXn]
    exact⟨(),(by refine Wk.of ?_ ?_ rfl rfl rfl<;>repeat' (first|exact trivial|exact WkD.same _|exact WkO.same _ _ rfl|exact WkD.nil _ (Or.inl rfl)|refine⟨?_,?_⟩|fail))⟩
  rintro⟨⟩
  refine⟨Unit,fun _=>[(1,.clo 142 [] []),(7,.buf 0 (l.map fpv).length),(19,.pv (fpv c)),(20,.pv (.int .i64 (c.map Nd.pv).length)),(21,.pv (.int .i64 (i:Nat))),(9,.ref 1 0),(10,.pv (fpv X)),(11,.pv (fpv Y))],fun _=>2,fun _=>[(0,.arr 1 (l.map fpv)),(1,.var x.dvs)],?_,?_⟩
  ·(try conv=>whnf);repeat' (first|(apply And.intro<;>try conv=>whnf)|(intro h;try conv=>whnf)|(refine PureFn.dcq (f:=177) rfl ?_;try conv=>whnf)|(refine⟨_,_,rw_binary ?_,?_,?_⟩;rotate_left 1;(focus first|(refine⟨?_,trivial⟩<;>first|exact PLe.refl _|exact PLe.nil)|exact trivial);try conv=>whnf)|fail)
   ·have hg:binB x.op=true:=h
    have hu:usesY x.op=true:=by rw[← bin_uses hox];exact hg
    obtain⟨u1,u2⟩:=ok.y hu
    obtain⟨k,hk⟩:∃ k:Nat,x.y=k:=⟨x.y.toNat,by omega⟩
    have hkl:k<l.length:=by omega
    refine⟨k,hk,by omega,?_⟩
    (try conv=>whnf);repeat' (first|(apply And.intro<;>try conv=>whnf)|fail)
    refine⟨_,fget hkl,?_⟩
    try conv=>whnf
    have hYk:l.getD k []=Y:=by rw[← hY,opY,hg,hk];rfl
    rw[hYk]
    exact⟨(),(by exact Wk.sm rfl rfl rfl rfl rfl)⟩
   ·have hYn:Y=[]:=by rw[← hY,opY,show binB x.op=false from h];rfl
    rw[hYn]
    exact⟨(),(by refine Wk.of ?_ ?_ rfl rfl rfl<;>repeat' (first|exact trivial|exact WkD.same _|exact WkO.same _ _ rfl|exact WkD.nil _ (Or.inl rfl)|refine⟨?_,?_⟩|fail))⟩
  rintro⟨⟩
  have lX:X.length≤200:=hX▸opX_len (hD.get _).1
  have lY:Y.length≤200:=hY▸opY_len (hD.get _).1
  have nX:usesX x.op=true→X≠[]:=fun hu=>by
   obtain⟨u1,u2⟩:=ok.x hu
   have hg:decide (x.op≥4)=true:=by
    simp only[usesX,Bool.and_eq_true,decide_eq_true_eq] at hu
    exact decide_eq_true (by omega)
   rw[← hX,opX,hg]
   exact (hD.get _).2 (by omega)
  have nY:usesY x.op=true→Y≠[]:=fun hu=>by
   obtain⟨u1,u2⟩:=ok.y hu
   rw[← hY,opY,bin_uses hox,hu]
   exact (hD.get _).2 (by omega)
  have hA:=rw_simple x X Y ⟨h1.1,hox⟩ nX nY (by omega) (by omega)
  have hsl:=smp_len x X Y lX lY
  obtain⟨z,hz⟩:∃ z,smpI x X Y=z:=⟨_,rfl⟩
  have hh:smpH x (l.getD x.x.toNat []) (l.getD x.y.toNat [])=nz z:=by rw[smpH,hX,hY,hz]
  rw[hz] at hA hsl
  cases z with
  |nil =>
   have f0:(((([]:List Nd).map Nd.pv).length:Int)==0)=true:=rfl
   have hno:=redE_no (e:=8) hx hh rfl
   have hF:lastF (redE [] smpH c [])=([],8):=by rw[he,hno];rfl
   rw[hF]
   (try conv=>whnf);repeat' (first|(apply And.intro<;>try conv=>whnf)|(intro h;first|with_reducible exact tf (by assumption) h|try conv=>whnf)|(refine PureFn.dy hA rfl ?_;try conv=>whnf)|fail)
   exact⟨.tup [.pv .nil,.pv (.int .i64 8)],0,[],(by exact Wk.sm rfl rfl rfl rfl rfl),le_nilF 8⟩
  |cons a r =>
   have f0:(((((a::r):List Nd).map Nd.pv).length:Int)==0)=false:=by simp;omega
   (try conv=>whnf);repeat' (first|(apply And.intro<;>try conv=>whnf)|(intro h;first|with_reducible exact tf h (by assumption)|try conv=>whnf)|(apply cellsI;rfl)|(apply szI;rfl)|(refine PureFn.dy hA rfl ?_;try conv=>whnf)|fail)
   ·show (l.map fpv).length+1≤4294967296
    omega
   ·have hyes:=redE_yes (z:=a::r) (e:=0) hx hh rfl
    have hm:=map_snoc (l:=l) (z:=a::r)
    refine⟨⟨(i+1,l++[a::r]),hi',by simp[hl],hD.add (by simp) hsl,by rw[he,hyes]⟩,by show c.length-(i+1)<c.length-i;omega,?_⟩
    (refine Wk.of ?_ ?_ rfl rfl rfl<;>repeat' (first|exact trivial|exact WkD.same _|exact WkD.eq (congrArg (fun z:List PV=>DV.buf _ z.length) hm)|exact WkO.same _ _ (congrArg (fun z=>some (DObj.arr _ z)) hm)|refine WkD.int ?_|refine⟨?_,?_⟩|(refine wrapA ?_ ?_ ?_;(focus simp;done);(focus (try dsimp only);omega);(focus (try dsimp only);omega))|fail))
 ·have hi':i=c.length:=by have:=ge_dec (m:=(c.map Nd.pv).length) h (by simpa using hi);simpa using this
  subst hi'
  rw[redE_end] at he
  have hw:IntKind.wrap .i64 (((l.map fpv).length:Int)-1)=((l.length-1:Nat):Int):=by
   rw[List.length_map];exact wrapA (by omega) (by omega) (by omega)
  have hll:l.length=c.length:=hl
  refine⟨l.length-1,hw,(show l.length-1<(l.map fpv).length by rw[List.length_map];omega),?_⟩
  (try conv=>whnf);repeat' (first|(apply And.intro<;>try conv=>whnf)|fail)
  refine⟨_,fget (show l.length-1<l.length by omega),?_⟩
  try conv=>whnf
  exact⟨.tup [.pv (fpv (l.getD (l.length-1) [])),.pv (.int .i64 0)],0,[],(by exact Wk.sm rfl rfl rfl rfl rfl),le_pairF (a:=(l.getD (l.length-1) [],0)) (b:=lastF (redE [] smpH c [])) (by rw[he];rfl)⟩
theorem chgs_cons {A F:Int} {x:Asg} {r:List Asg} {lo:Int}:chgs A F (x::r) lo=0↔(0≤x.fact∧x.fact<F)∧lo<x.fact∧statI A F x.to=0∧chgs A F r x.fact=0:=by
 rw[chgs]
 by_cases h1:x.fact<0
 ·rw[decide_eq_true h1]
  refine⟨fun h=>absurd (show (2:Int)=0 from h) (by decide),fun h => ?_⟩
  have:=h.1.1;omega
 by_cases h2:x.fact≥F
 ·rw[decide_eq_false h1,decide_eq_true h2]
  refine⟨fun h=>absurd (show (2:Int)=0 from h) (by decide),fun h => ?_⟩
  have:=h.1.2;omega
 rw[decide_eq_false h1,decide_eq_false h2]
 by_cases h3:x.fact≤lo
 ·rw[decide_eq_true h3]
  refine⟨fun h=>absurd (show (9:Int)=0 from h) (by decide),fun h => ?_⟩
  have:=h.2.1;omega
 rw[decide_eq_false h3]
 by_cases h4:statI A F x.to=0
 ·rw[h4]
  exact⟨fun h=>⟨⟨by omega,by omega⟩,by omega,rfl,h⟩,fun h=>h.2.2.2⟩
 ·rw[show (statI A F x.to != 0)=true by simpa using h4]
  exact⟨fun h=>absurd h h4,fun h=>absurd h.2.2.1 h4⟩
theorem chgs_asc {A F:Int}:∀ {l:List Asg} {lo:Int},chgs A F l lo=0→l.Pairwise (fun x y=>x.fact<y.fact)∧∀ x,x∈l→lo<x.fact∧0≤x.fact∧x.fact<F∧statI A F x.to=0
 | [],_,_=>⟨.nil,fun x hx=>by cases hx⟩
 |y::r,lo,h=>by
  obtain⟨⟨h1,h2⟩,h3,h4,h5⟩:=chgs_cons.1 h
  obtain⟨g1,g2⟩:=chgs_asc h5
  refine⟨List.pairwise_cons.2 ⟨fun z hz=>(g2 z hz).1,g1⟩,fun x hx => ?_⟩
  rcases List.mem_cons.1 hx with rfl|hx
  ·exact⟨h3,h1,h2,h4⟩
  ·obtain⟨q1,q2⟩:=g2 x hx
   exact⟨by omega,q2⟩
structure Cmp (a b c:Act):Prop where
 a0:aloneI a=0
 b0:aloneI b=0
 rl:a.rel.length=b.rel.length
 n8:a.pre.length*b.pre.length≤8
 len:c.pre.length=a.pre.length*b.pre.length
 plen:c.post.length=a.pre.length*b.pre.length
 rel:c.rel=relsC a b
 cell:∀ e f,e<a.pre.length→f<b.pre.length→∃ g,aftE a e (b.pre.getD f [])=.ok g∧c.pre.getD (e*b.pre.length+f) []=buildL (n0 5) [a.pre.getD e [],g]∧buildL (n0 5) [a.pre.getD e [],g]≠[]∧asgE a e (b.post.getD f [])=.ok (c.post.getD (e*b.pre.length+f) [])
theorem act_ag {a:Act} {A F:Nat} (h:actI a A F=0):a.rel.length=A∧A≤4:=by
 have h1:=(actI_ok h).ags
 have h2:=(actI_ok h).agn
 omega
theorem pre_stat {a:Act} {A F e:Nat} (h:actI a A F=0) (he:e<a.pre.length):statI A F (a.pre.getD e [])=0 :=
 (evs_all (actI_ok h).ev).1 _ (List.mem_iff_getElem?.2 ⟨e,getD_mem he (d:=[])⟩)
theorem post_chgs {a:Act} {A F e:Nat} (h:actI a A F=0) (he:e<a.pre.length):chgs A F (a.post.getD e []) (-1)=0:=(evs_all (actI_ok h).ev).2 e he
section
variable {a b c:Act}
variable {m:Mo} {n:Nat}
theorem valI_eq {e i:Nat} (h:moaI m a=0) (he:e<a.pre.length) (hi:i<m.val.length):(valI a e i).1=valL i (a.post.getD e []):=by
 obtain⟨⟨k,hM⟩,hA⟩:=moaI_ok h
 have h1:=(act_alone hM.fa hA).1
 have hF:=hM.fa
 have h2:badEv a (e:Int)=false:=by
  unfold badEv
  rw[decide_eq_false (by omega),decide_eq_false (by omega)];rfl
 have h3:badF (i:Int)=false:=by
  unfold badF
  rw[decide_eq_false (by omega),decide_eq_false (by omega)];rfl
 rw[valI,h1,h2,h3];rfl
theorem poss_vl (hM:OkM m n) (hA:actI a m.rel.length m.val.length=0) {e:Nat} (he:e<a.pre.length):possP m a e=vlT m n (root (a.pre.getD e [])):=by
 rw[possP,holds_of hM (pre_stat hA he) rfl]
theorem valu_vl (hM:OkM m n) (hA:actI a m.rel.length m.val.length=0) {e i:Nat} (he:e<a.pre.length) (hi:i<m.val.length):valuP m a e i=vlT m n (root (valL i (a.post.getD e []))):=by
 have hmo:moaI m a=0:=by rw[moaI,ok_moI hM];exact hA
 have hs:=valI_fit hmo he hi
 rw[valI_eq hmo he hi] at hs
 rw[valuP,valI_eq hmo he hi,holds_of hM hs rfl]
theorem pairs_mem (hM:OkM m n) {w e:Nat}:(w,e)∈pairsL m a↔w<n∧e<a.pre.length∧(possP m a e).testBit w=true:=by
 rw[pairsL,hM.nn,Int.toNat_natCast]
 exact pairsW_mem
theorem pr_of (hM:OkM m n) (hA:actI a m.rel.length m.val.length=0) (h1:1≤(pairsL m a).length) (h64:(pairsL m a).length≤64):Pr m n a (pairsL m a):=⟨hM,hA,fun _ _=>pairs_mem hM,h1,h64⟩
section
variable (h:Cmp a b c) (hA:actI a m.rel.length m.val.length=0) (hB:actI b m.rel.length m.val.length=0)
variable (hP:Pr m n a (pairsL m a))
theorem prod_lens:(prodM m a (pairsL m a)).rel.length=m.rel.length∧(prodM m a (pairsL m a)).val.length=m.val.length:=by simp[prodM]
end
end
structure AscA (l:List Asg):Prop where
 asc:l.Pairwise (fun x y=>x.fact<y.fact)
 lo:∀ x,x∈l→0≤x.fact∧x.fact<8
theorem asc_len:∀ {l:List Asg} {lo:Int},l.Pairwise (fun x y=>x.fact<y.fact)→(∀ x,x∈l→lo≤x.fact∧x.fact<8)→lo≤8→(l.length:Int)≤8-lo
 | [],lo,_,_,h=>by simp;omega
 |y::r,lo,hp,hb,h=>by
  obtain⟨h1,h2⟩:=List.pairwise_cons.1 hp
  obtain⟨b1,b2⟩:=hb y (by simp)
  have:=asc_len (l:=r) (lo:=y.fact+1) h2 (fun x hx=>⟨by have:=h1 x hx;omega,(hb x (List.mem_cons_of_mem _ hx)).2⟩) (by omega)
  rw[List.length_cons]
  omega
theorem AscA.len {l:List Asg} (h:AscA l):l.length≤8:=by
 have:=asc_len (lo:=0) h.asc h.lo (by decide)
 omega
set_option maxHeartbeats 8000000
theorem smx_alone {a:Act} (h:aloneI a=0):SmX a:=by
 have hO:=actI_ok h
 refine⟨fun r hr s hs => ?_,by have:=hO.agn;omega,fun l hl => ?_⟩
 ·exact Nat.lt_of_lt_of_le (hO.bits r hr s hs) (Nat.pow_le_pow_right (by decide) (by have:=hO.n8;omega))
 ·obtain⟨e,he,rfl⟩:=List.mem_iff_getElem.1 hl
  have h1:=chgs_asc ((evs_all hO.ev).2 e (by rw[← hO.post];exact he))
  rw[List.getD_eq_getElem?_getD,List.getElem?_eq_getElem he] at h1
  have h2:AscA a.post[e]:=⟨h1.1,fun x hx=>⟨(h1.2 x hx).2.1,(h1.2 x hx).2.2.1⟩⟩
  have:=h2.len
  omega
set_option maxHeartbeats 4000000
def smA1 (x:Asg):Asg:=⟨x.fact,(simI x.to).1⟩
def keepB (x:Asg):Bool:=!same x.to (buildL (nI 3 x.fact) [])
def smpL (l:List Asg):List Asg:=(l.map smA1).filter keepB
def smpA (a:Act):Act:=⟨a.pre.map (fun f=>(simI f).1),a.post.map smpL,a.rel⟩
theorem smpL_snoc {l:List Asg} {i:Nat} {x:Asg} (h:l[i]? = some x):smpL (l.take (i+1))=bif keepB (smA1 x) then smpL (l.take i)++[smA1 x] else smpL (l.take i):=by
 unfold smpL
 rw[List.take_add_one,h]
 simp only[Option.toList,List.map_append,List.map_cons,List.map_nil,List.filter_append]
 cases hk:keepB (smA1 x) with
 |true=>simp[hk]
 |false=>simp[hk]
theorem stat_ops {A F:Int} {f:List Nd} (h:statI A F f=0):check f=0∧∀ x,x∈comp f→x.op≤13:=by
 obtain⟨h1,h2,_⟩:=statI_ok h
 exact⟨h1,stB_ops (by rw[stB,h2];rfl)⟩
theorem rw_Simplify (f:List Nd) (hc:check f=0) (hs:∀ x,x∈comp f→x.op≤13):PureFn Tryz.prog 106 [fpv f] (pairF (simI f)):=by
 have hI:simI f=simF (comp f):=by rw[simI,hc];rfl
 rw[hI]
 have hU:=rw_upward f hc hs
 generalize simF (comp f)=z at *
 refine PureFn.intro mixed (fn:=Tryz.f106) rfl rfl rfl fun M w0 => ?_
 try conv=>whnf
 refine DC.alone (p:=pairF z) rfl (fun M w0=>hU M w0) ?_
 try conv=>whnf
 exact .refl _
theorem alone_pre {a:Act} (h:aloneI a=0) {p:List Nd} (hp:p∈a.pre):statI a.rel.length 8 p=0:=(evs_all (actI_ok h).ev).1 p hp
theorem alone_asg {a:Act} (h:aloneI a=0) {q:List Asg} (hq:q∈a.post) {x:Asg} (hx:x∈q):(0≤x.fact∧x.fact<8)∧statI a.rel.length 8 x.to=0:=by
 have hO:=actI_ok h
 obtain⟨e,he,rfl⟩:=List.mem_iff_getElem.1 hq
 have h1:=chgs_asc ((evs_all hO.ev).2 e (by rw[← hO.post];exact he))
 rw[List.getD_eq_getElem?_getD,List.getElem?_eq_getElem he] at h1
 have h2:=h1.2 x hx
 exact⟨⟨h2.2.1,h2.2.2.1⟩,h2.2.2.2⟩
theorem cp_simple (a:Act) (ha:aloneI a=0):PureFn Tryz.prog 52 [a.pv] (smpA a).pv:=by
 have hO:=actI_ok ha
 have hS:=smx_alone ha
 have n8:=hO.n8
 have hpl:=hO.post
 have e1:((a.pre.map fpv).length:Int)=(a.pre.length:Int):=by simp
 refine PureFn.introC [11,14] mixed (fn:=Tryz.f52) rfl rfl rfl fun M w0 => ?_
 try conv=>whnf
 refine⟨{ i:Nat // i≤a.pre.length },fun i=>[(1,.ref 0 0),(2,.ref 1 0),(3,.ref 2 0),(17,.pv (.sl (a.pre.map fpv))),(18,.pv (i64 (a.pre.map fpv).length)),(19,.pv (i64 i.1))],fun _=>5,fun i=>[(0,.var (cellsA a)),(1,.var cellsZ),(2,.var [.buf 3 (((a.pre.take i.1).map fun f=>(simI f).1).map fpv).length,.buf 4 (((a.post.take i.1).map smpL).map postPV).length,.pv (.sl (a.rel.map rowPV))]),(3,.arr 1 (((a.pre.take i.1).map fun f=>(simI f).1).map fpv)),(4,.arr 1 (((a.post.take i.1).map smpL).map postPV))],fun i=>a.pre.length-i.1,⟨⟨0,Nat.zero_le _⟩,(by refine Wk.of ?_ ?_ rfl rfl rfl<;>repeat' (first|exact trivial|exact WkD.same _|exact WkO.same _ _ rfl|exact WkD.new' rfl rfl rfl|exact WkO.new _ _ rfl|refine WkO.vars rfl ?_|exact rfl|refine⟨?_,?_⟩|fail))⟩,?_⟩
 rintro⟨i,hi⟩
 (try conv=>whnf);repeat' (first|(apply And.intro<;>try conv=>whnf)|(intro h;try conv=>whnf)|(apply infoT;rfl)|(apply bleI;rfl)|fail)
 ·have hi':i<a.pre.length:=by simpa using lt_dec h
  obtain⟨p,hp⟩:∃ y,a.pre[i]? = some y:=⟨_,List.getElem?_eq_getElem hi'⟩
  obtain⟨q,hq⟩:∃ y,a.post[i]? = some y:=⟨_,List.getElem?_eq_getElem (by rw[hpl];exact hi')⟩
  have hSp:=stat_ops (alone_pre ha (List.mem_iff_getElem?.2 ⟨_,hp⟩))
  have hFp:=rw_Simplify p hSp.1 hSp.2
  have hixq:=idx_map (g:=postPV) hq
  have hqm:=List.mem_iff_getElem?.2 ⟨_,hq⟩
  refine⟨_,_,rfl,idx_map hp,rfl,?_⟩
  (try conv=>whnf);repeat' (first|(refine PureFn.dy hFp rfl ?_;try conv=>whnf)|fail)
  refine⟨Unit,fun _=>[(1,.ref 0 0),(2,.ref 1 0),(3,.ref 2 0),(17,.pv (.sl (a.pre.map fpv))),(18,.pv (i64 (a.pre.map fpv).length)),(19,.pv (i64 i)),(6,.pv (fpv (simI p).1)),(8,.pv (postPV (smpL (q.take q.length))))],fun _=>5,fun _=>[(0,.var (cellsA a)),(1,.var cellsZ),(2,.var [.buf 3 (((a.pre.take i).map fun f=>(simI f).1).map fpv).length,.buf 4 (((a.post.take i).map smpL).map postPV).length,.pv (.sl (a.rel.map rowPV))]),(3,.arr 1 (((a.pre.take i).map fun f=>(simI f).1).map fpv)),(4,.arr 1 (((a.post.take i).map smpL).map postPV))],?_,?_⟩
  ·(try conv=>whnf);repeat' (first|(apply And.intro<;>try conv=>whnf)|(apply infoT;rfl)|(refine⟨_,_,rfl,idx_map (by with_reducible assumption),rfl,?_⟩;try conv=>whnf)|fail)
   refine⟨{ j:Nat // j≤q.length },fun j=>[(1,.ref 0 0),(2,.ref 1 0),(3,.ref 2 0),(17,.pv (.sl (a.pre.map fpv))),(18,.pv (i64 (a.pre.map fpv).length)),(19,.pv (i64 i)),(6,.pv (fpv (simI p).1)),(33,.pv (postPV q)),(34,.pv (i64 (q.map Asg.pv).length)),(35,.pv (i64 j.1)),(8,.buf 5 ((smpL (q.take j.1)).map Asg.pv).length)],fun _=>6,fun j=>[(0,.var (cellsA a)),(1,.var cellsZ),(2,.var [.buf 3 (((a.pre.take i).map fun f=>(simI f).1).map fpv).length,.buf 4 (((a.post.take i).map smpL).map postPV).length,.pv (.sl (a.rel.map rowPV))]),(3,.arr 1 (((a.pre.take i).map fun f=>(simI f).1).map fpv)),(4,.arr 1 (((a.post.take i).map smpL).map postPV)),(5,.arr 2 ((smpL (q.take j.1)).map Asg.pv))],fun j=>q.length-j.1,⟨⟨0,Nat.zero_le _⟩,(by refine Wk.of ?_ ?_ rfl rfl rfl<;>repeat' (first|exact trivial|exact WkD.same _|exact WkO.same _ _ rfl|exact WkD.new' rfl rfl rfl|exact WkO.new _ _ rfl|exact rfl|refine⟨?_,?_⟩|fail))⟩,?_⟩
   rintro⟨j,hj⟩
   (try conv=>whnf);repeat' (first|(apply And.intro<;>try conv=>whnf)|(intro h;try conv=>whnf)|(apply infoT;rfl)|fail)
   ·have hj':j<q.length:=by simpa using lt_dec h
    obtain⟨x,hx⟩:∃ y,q[j]? = some y:=⟨_,List.getElem?_eq_getElem hj'⟩
    have hxm:=List.mem_iff_getElem?.2 ⟨_,hx⟩
    have hSx:=stat_ops (alone_asg ha hqm hxm).2
    have hFx:=rw_Simplify x.to hSx.1 hSx.2
    have hxf:=(alone_asg ha hqm hxm).1
    have hFa:=fm_Fact x.fact
    have hSa:=fm_Same (simI x.to).1 (buildL (nI 3 x.fact) [])
    have hsn:=smpL_snoc hx
    refine⟨_,_,rfl,idx_map hx,rfl,?_⟩
    try conv=>whnf
    refine⟨Unit,fun _=>[(1,.ref 0 0),(2,.ref 1 0),(3,.ref 2 0),(17,.pv (.sl (a.pre.map fpv))),(18,.pv (i64 (a.pre.map fpv).length)),(19,.pv (i64 i)),(6,.pv (fpv (simI p).1)),(33,.pv (postPV q)),(34,.pv (i64 (q.map Asg.pv).length)),(35,.pv (i64 j)),(8,.buf 5 ((smpL (q.take j)).map Asg.pv).length),(10,.ref 6 0),(11,.pv (fpv (simI x.to).1))],fun _=>7,fun _=>[(0,.var (cellsA a)),(1,.var cellsZ),(2,.var [.buf 3 (((a.pre.take i).map fun f=>(simI f).1).map fpv).length,.buf 4 (((a.post.take i).map smpL).map postPV).length,.pv (.sl (a.rel.map rowPV))]),(3,.arr 1 (((a.pre.take i).map fun f=>(simI f).1).map fpv)),(4,.arr 1 (((a.post.take i).map smpL).map postPV)),(5,.arr 2 ((smpL (q.take j)).map Asg.pv)),(6,.var [.pv (.int .i64 x.fact),.pv (fpv x.to)])],?_,?_⟩
    ·(try conv=>whnf);repeat' (first|(refine PureFn.dy hFx rfl ?_;try conv=>whnf)|fail)
     exact⟨(),(by exact Wk.sm rfl rfl rfl rfl rfl)⟩
    rintro⟨⟩
    have hlq:=hS.post q hqm
    have hlf:(smpL (q.take j)).length≤1000:=by
     refine Nat.le_trans (List.length_filter_le _ _) ?_
     rw[List.length_map,List.length_take];omega
    (try conv=>whnf);repeat' (first|(apply And.intro<;>try conv=>whnf)|(intro h;try conv=>whnf)|(apply cellsI;rfl)|(apply szI;rfl)|(refine PureFn.dy hFa rfl ?_;try conv=>whnf)|(refine PureFn.dy hSa rfl ?_;try conv=>whnf)|fail)
    ·show ((smpL (q.take j)).map Asg.pv).length+1≤4294967296
     rw[List.length_map];omega
    ·rw[show keepB (smA1 x)=true from h] at hsn
     have hm:(smpL (q.take j)).map Asg.pv++[Asg.pv (smA1 x)]=(smpL (q.take (j+1))).map Asg.pv:=by rw[hsn,cond_true,List.map_append];rfl
     refine⟨⟨j+1,hj'⟩,by show q.length-(j+1)<q.length-j;omega,?_⟩
     (refine Wk.of ?_ ?_ rfl rfl rfl<;>repeat' (first|exact trivial|exact WkD.same _|exact WkO.same _ _ rfl|exact WkD.eq (congrArg (fun z:List PV=>DV.buf _ z.length) hm)|exact WkO.same _ _ (congrArg (fun z=>some (DObj.arr _ z)) hm)|refine WkD.int ?_|refine⟨?_,?_⟩|(refine wrapA ?_ ?_ ?_;(focus simp;done);(focus (try dsimp only);omega);(focus (try dsimp only);omega))|fail))
    ·rw[show keepB (smA1 x)=false from h] at hsn
     have hm:(smpL (q.take j)).map Asg.pv=(smpL (q.take (j+1))).map Asg.pv:=by rw[hsn,cond_false]
     refine⟨⟨j+1,hj'⟩,by show q.length-(j+1)<q.length-j;omega,?_⟩
     (refine Wk.of ?_ ?_ rfl rfl rfl<;>repeat' (first|exact trivial|exact WkD.same _|exact WkO.same _ _ rfl|exact WkD.eq (congrArg (fun z:List PV=>DV.buf _ z.length) hm)|exact WkO.same _ _ (congrArg (fun z=>some (DObj.arr _ z)) hm)|refine WkD.int ?_|refine⟨?_,?_⟩|(refine wrapA ?_ ?_ ?_;(focus simp;done);(focus (try dsimp only);omega);(focus (try dsimp only);omega))|fail))
   ·have hj':j=q.length:=by have:=ge_dec (m:=(q.map Asg.pv).length) h (by simpa using hj);simpa using this
    subst hj'
    exact⟨(),(by refine Wk.of ?_ ?_ rfl rfl rfl<;>repeat' (first|exact trivial|exact WkD.same _|exact WkO.same _ _ rfl|exact WkD.fz _ _ _ rfl (Or.inl ⟨_,rfl⟩) rfl|refine⟨?_,?_⟩|fail))⟩
  rintro⟨⟩
  rw[show q.take q.length=q from List.take_length]
  have hs1:(((a.pre.take i).map fun f=>(simI f).1).map fpv).length≤1000:=by simp;omega
  have hs2:(((a.post.take i).map smpL).map postPV).length≤1000:=by simp;omega
  have e5:((a.pre.take i).map fun f=>(simI f).1).map fpv++[fpv (simI p).1]=((a.pre.take (i+1)).map fun f=>(simI f).1).map fpv:=by
   rw[List.take_add_one,hp,List.map_append,List.map_append];rfl
  have e6:((a.post.take i).map smpL).map postPV++[postPV (smpL q)]=((a.post.take (i+1)).map smpL).map postPV:=by
   rw[List.take_add_one,hq,List.map_append,List.map_append];rfl
  try conv=>whnf
  refine⟨Plan.ofL [0,1,2,3,5,6,7,8,4,10,9,11,12,13],[11,13,1004,1009,2005,2006,2010],by kernel_rfl,?_⟩
  (try conv=>whnf);repeat' (first|(apply And.intro<;>try conv=>whnf)|(intro h;try conv=>whnf)|(apply cellsI;rfl)|(apply szI;rfl)|fail)
  ·exact app_big (n:=1000) hs1 (by decide)
  ·exact ExtV.put (k:=3) (fun cs h=>by cases h) _ _ h
  ·exact app_big (n:=1000) hs2 (by decide)
  ·exact ExtV.put (k:=4) (fun cs h=>by cases h) _ _ h
  ·refine⟨⟨i+1,hi'⟩,by show a.pre.length-(i+1)<a.pre.length-i;omega,?_⟩
   (refine Wk.of ?_ ?_ rfl rfl rfl<;>repeat' (first|exact trivial|exact WkD.same _|exact WkO.same _ _ rfl|exact WkD.eq (congrArg (fun z:List PV=>DV.buf _ z.length) e5)|exact WkO.same _ _ (congrArg (fun z=>some (DObj.arr _ z)) e5)|exact WkD.eq (congrArg (fun z:List PV=>DV.buf _ z.length) e6)|exact WkO.same _ _ (congrArg (fun z=>some (DObj.arr _ z)) e6)|refine WkD.int ?_|refine WkO.vars rfl ?_|refine⟨?_,?_⟩|(refine wrapA ?_ ?_ ?_;(focus simp;done);(focus (try dsimp only);omega);(focus (try dsimp only);omega))|fail))
 ·have hi':i=a.pre.length:=by have:=ge_dec (m:=(a.pre.map fpv).length) h (by simpa using hi);simpa using this
  subst hi'
  rw[show a.pre.take a.pre.length=a.pre from List.take_length,show a.post.take a.pre.length=a.post by rw[← hpl,List.take_length]]
  exact .refl _
def keepA (a:Act) (ws:List Nat):Act:=⟨ws.map fun w=>a.pre.getD w [],ws.map fun w=>a.post.getD w [],a.rel.map fun r=>ws.map fun w=>pullN (r.getD w 0) ws⟩
structure Shp (a:Act) (n:Nat):Prop where
 pre:a.pre.length=n
 post:a.post.length=n
 n8:n≤8
 ag:a.rel.length≤1000
 rows:∀ r,r∈a.rel→r.length=n
 bits:∀ r,r∈a.rel→∀ s,s∈r→s<2^n
theorem cp_keep (a:Act) (n:Nat) (hA:Shp a n) (ws:List Nat) (hw:∀ w,w∈ws→w<n) (hl:ws.length≤8):PureFn Tryz.prog 54 [a.pv,intsPV ws] (keepA a ws).pv:=by
 have n8:=hA.n8
 have hw64:∀ w,w∈ws→w<64:=fun w h=>by have:=hw w h;omega
 obtain⟨ro,qro⟩:∃ ro:List Nat→List Nat,ro=fun r=>ws.map fun w=>pullN (r.getD w 0) ws:=⟨_,rfl⟩
 have har:(keepA a ws).pv=.agg [.sl (((ws.take ws.length).map fun w=>a.pre.getD w []).map fpv),.sl (((ws.take ws.length).map fun w=>a.post.getD w []).map postPV),.sl (((a.rel.take a.rel.length).map ro).map rowPV)]:=by rw[qro,List.take_length,List.take_length];rfl
 rw[har]
 refine PureFn.introC [7,20,22] mixed (fn:=Tryz.f54) rfl rfl rfl fun M w0 => ?_
 try conv=>whnf
 refine⟨Unit,fun _=>[(1,.pv (intsPV ws)),(2,.ref 0 0),(4,.ref 1 0),(5,.ref 2 0)],fun _=>3,fun _=>[(0,.var (cellsA a)),(1,.var cellsZ),(2,.var [.pv (.sl (((ws.take ws.length).map fun w=>a.pre.getD w []).map fpv)),.pv (.sl (((ws.take ws.length).map fun w=>a.post.getD w []).map postPV)),.pv .nil])],?_,?_⟩
 ·try conv=>whnf
  refine⟨{ i:Nat // i≤ws.length },fun i=>[(1,.pv (intsPV ws)),(2,.ref 0 0),(4,.ref 1 0),(5,.ref 2 0),(16,.pv (intsPV ws)),(17,.pv (i64 (ws.map i64).length)),(18,.pv (i64 i.1))],fun _=>5,fun i=>[(0,.var (cellsA a)),(1,.var cellsZ),(2,.var [.buf 3 (((ws.take i.1).map fun w=>a.pre.getD w []).map fpv).length,.buf 4 (((ws.take i.1).map fun w=>a.post.getD w []).map postPV).length,.pv .nil]),(3,.arr 1 (((ws.take i.1).map fun w=>a.pre.getD w []).map fpv)),(4,.arr 1 (((ws.take i.1).map fun w=>a.post.getD w []).map postPV))],fun i=>ws.length-i.1,⟨⟨0,Nat.zero_le _⟩,(by refine Wk.of ?_ ?_ rfl rfl rfl<;>repeat' (first|exact trivial|exact WkD.same _|exact WkO.same _ _ rfl|exact WkD.new' rfl rfl rfl|exact WkO.new _ _ rfl|refine WkO.vars rfl ?_|exact rfl|refine⟨?_,?_⟩|fail))⟩,?_⟩
  rintro⟨i,hi⟩
  (try conv=>whnf);repeat' (first|(apply And.intro<;>try conv=>whnf)|(intro h;try conv=>whnf)|(apply infoT;rfl)|fail)
  ·have hi':i<ws.length:=by simpa using lt_dec h
   obtain⟨w,hx⟩:∃ y,ws[i]? = some y:=⟨_,List.getElem?_eq_getElem hi'⟩
   have hwn:=hw w (List.mem_iff_getElem?.2 ⟨_,hx⟩)
   obtain⟨p,hp⟩:∃ p,a.pre[w]? = some p:=⟨_,List.getElem?_eq_getElem (by rw[hA.pre];exact hwn)⟩
   obtain⟨q,hq⟩:∃ q,a.post[w]? = some q:=⟨_,List.getElem?_eq_getElem (by rw[hA.post];exact hwn)⟩
   have hpd:a.pre.getD w []=p:=by rw[List.getD_eq_getElem?_getD,hp];rfl
   have hqd:a.post.getD w []=q:=by rw[List.getD_eq_getElem?_getD,hq];rfl
   have hixq:=idx_map (g:=postPV) hq
   have hixp:=idx_map (g:=fpv) hp
   have hs1:(((ws.take i).map fun w=>a.pre.getD w []).map fpv).length≤1000:=by simp;omega
   have hs2:(((ws.take i).map fun w=>a.post.getD w []).map postPV).length≤1000:=by simp;omega
   have e5:((ws.take i).map fun w=>a.pre.getD w []).map fpv++[fpv p]=((ws.take (i+1)).map fun w=>a.pre.getD w []).map fpv:=by
    rw[List.take_add_one,hx,List.map_append,List.map_append,← hpd];rfl
   have e6:((ws.take i).map fun w=>a.post.getD w []).map postPV++[postPV q]=((ws.take (i+1)).map fun w=>a.post.getD w []).map postPV:=by
    rw[List.take_add_one,hx,List.map_append,List.map_append,← hqd];rfl
   refine⟨_,_,rfl,idx_map hx,rfl,?_⟩
   try conv=>whnf
   refine⟨Plan.ofL [0,1,2,3,4,5,6,7,9,10,11,12,13,14,15,16,8,18,17,19,20,21],[19,21,1008,1017,2009,2010,2011,2012,2014,2015,2018],by kernel_rfl,?_⟩
   (try conv=>whnf);repeat' (first|(apply And.intro<;>try conv=>whnf)|(intro h;try conv=>whnf)|(apply infoT;rfl)|(apply cellsI;rfl)|(apply szI;rfl)|(refine⟨_,_,rfl,idx_map (by with_reducible assumption),rfl,?_⟩;try conv=>whnf)|fail)
   ·exact app_big (n:=1000) hs1 (by decide)
   ·exact ExtV.put (k:=3) (fun cs h=>by cases h) _ _ h
   ·exact app_big (n:=1000) hs2 (by decide)
   ·exact ExtV.put (k:=4) (fun cs h=>by cases h) _ _ h
   ·refine⟨⟨i+1,hi'⟩,by show ws.length-(i+1)<ws.length-i;omega,?_⟩
    (refine Wk.of ?_ ?_ rfl rfl rfl<;>repeat' (first|exact trivial|exact WkD.same _|exact WkO.same _ _ rfl|exact WkD.eq (congrArg (fun z:List PV=>DV.buf _ z.length) e5)|exact WkO.same _ _ (congrArg (fun z=>some (DObj.arr _ z)) e5)|exact WkD.eq (congrArg (fun z:List PV=>DV.buf _ z.length) e6)|exact WkO.same _ _ (congrArg (fun z=>some (DObj.arr _ z)) e6)|refine WkD.int ?_|refine WkO.vars rfl ?_|refine⟨?_,?_⟩|(refine wrapA ?_ ?_ ?_;(focus simp;done);(focus (try dsimp only);omega);(focus (try dsimp only);omega))|fail))
  ·have hi':i=ws.length:=by have:=ge_dec (m:=(ws.map i64).length) h (by simpa using hi);simpa using this
   subst hi'
   exact⟨(),(by refine Wk.of ?_ ?_ rfl rfl rfl<;>repeat' (first|exact trivial|exact WkD.same _|exact WkO.same _ _ rfl|exact WkD.fz _ _ _ rfl (Or.inl ⟨_,rfl⟩) rfl|refine WkO.vars rfl ?_|refine⟨?_,?_⟩|fail))⟩
 rintro⟨⟩
 generalize ((ws.take ws.length).map fun w=>a.pre.getD w []).map fpv=V
 generalize ((ws.take ws.length).map fun w=>a.post.getD w []).map postPV=W
 try conv=>whnf
 refine⟨{ i:Nat // i≤a.rel.length },fun i=>[(1,.pv (intsPV ws)),(2,.ref 0 0),(4,.ref 1 0),(5,.ref 2 0),(44,.pv (.sl (a.rel.map rowPV))),(45,.pv (i64 (a.rel.map rowPV).length)),(46,.pv (i64 i.1))],fun _=>4,fun i=>[(0,.var (cellsA a)),(1,.var cellsZ),(2,.var [.pv (.sl V),.pv (.sl W),.buf 3 (((a.rel.take i.1).map ro).map rowPV).length]),(3,.arr 1 (((a.rel.take i.1).map ro).map rowPV))],fun i=>a.rel.length-i.1,⟨⟨0,Nat.zero_le _⟩,(by refine Wk.of ?_ ?_ rfl rfl rfl<;>repeat' (first|exact trivial|exact WkD.same _|exact WkO.same _ _ rfl|exact WkD.new' rfl rfl rfl|exact WkO.new _ _ rfl|refine WkO.vars rfl ?_|exact rfl|refine⟨?_,?_⟩|fail))⟩,?_⟩
 rintro⟨i,hi⟩
 (try conv=>whnf);repeat' (first|(apply And.intro<;>try conv=>whnf)|(intro h;try conv=>whnf)|(apply infoT;rfl)|(apply bleI;rfl)|fail)
 ·have hi':i<a.rel.length:=by simpa using lt_dec h
  obtain⟨r,hx⟩:∃ y,a.rel[i]? = some y:=⟨_,List.getElem?_eq_getElem hi'⟩
  have hrm:=List.mem_iff_getElem?.2 ⟨_,hx⟩
  have hrl:=hA.rows r hrm
  have hr64:∀ s,s∈r→s<2^64:=fun s hs=>Nat.lt_of_lt_of_le (hA.bits r hrm s hs) (Nat.pow_le_pow_right (by decide) (by omega))
  have hag:=hA.ag
  have ht:=take_map (f:=ro) hx
  have hvsl:(((a.rel.take i).map ro).map rowPV).length≤1000:=by simp;omega
  have er:((a.rel.take i).map ro).map rowPV++[rowPV (ro r)]=((a.rel.take (i+1)).map ro).map rowPV:=by rw[ht,List.map_append];rfl
  refine⟨_,_,rfl,idx_map hx,rfl,?_⟩
  try conv=>whnf
  refine⟨Unit,fun _=>[(1,.pv (intsPV ws)),(2,.ref 0 0),(4,.ref 1 0),(5,.ref 2 0),(10,.pv (rowPV ((ws.take ws.length).map fun w=>pullN (r.getD w 0) ws))),(44,.pv (.sl (a.rel.map rowPV))),(45,.pv (i64 (a.rel.map rowPV).length)),(46,.pv (i64 i))],fun _=>4,fun _=>[(0,.var (cellsA a)),(1,.var cellsZ),(2,.var [.pv (.sl V),.pv (.sl W),.buf 3 (((a.rel.take i).map ro).map rowPV).length]),(3,.arr 1 (((a.rel.take i).map ro).map rowPV))],?_,?_⟩
  ·try conv=>whnf
   refine⟨{ j:Nat // j≤ws.length },fun j=>[(1,.pv (intsPV ws)),(2,.ref 0 0),(4,.ref 1 0),(5,.ref 2 0),(9,.pv (rowPV r)),(10,.buf 4 (((ws.take j.1).map fun w=>pullN (r.getD w 0) ws).map u64).length),(44,.pv (.sl (a.rel.map rowPV))),(45,.pv (i64 (a.rel.map rowPV).length)),(46,.pv (i64 i)),(50,.pv (intsPV ws)),(51,.pv (i64 (ws.map i64).length)),(52,.pv (i64 j.1))],fun _=>5,fun j=>[(0,.var (cellsA a)),(1,.var cellsZ),(2,.var [.pv (.sl V),.pv (.sl W),.buf 3 (((a.rel.take i).map ro).map rowPV).length]),(3,.arr 1 (((a.rel.take i).map ro).map rowPV)),(4,.arr 1 (((ws.take j.1).map fun w=>pullN (r.getD w 0) ws).map u64))],fun j=>ws.length-j.1,⟨⟨0,Nat.zero_le _⟩,(by refine Wk.of ?_ ?_ rfl rfl rfl<;>repeat' (first|exact trivial|exact WkD.same _|exact WkO.same _ _ rfl|exact WkD.new' rfl rfl rfl|exact WkO.new _ _ rfl|exact rfl|refine⟨?_,?_⟩|fail))⟩,?_⟩
   rintro⟨j,hj⟩
   (try conv=>whnf);repeat' (first|(apply And.intro<;>try conv=>whnf)|(intro h;try conv=>whnf)|(apply infoT;rfl)|fail)
   ·have hj':j<ws.length:=by simpa using lt_dec h
    obtain⟨w,hx2⟩:∃ y,ws[j]? = some y:=⟨_,List.getElem?_eq_getElem hj'⟩
    have hwn:=hw w (List.mem_iff_getElem?.2 ⟨_,hx2⟩)
    have hx3:r[w]? = some (r.getD w 0):=getD_mem (by omega)
    have hs64:=hr64 _ (List.mem_iff_getElem?.2 ⟨_,hx3⟩)
    have ht2:=take_map (f:=fun w=>pullN (r.getD w 0) ws) hx2
    have hvsl2:(((ws.take j).map fun w=>pullN (r.getD w 0) ws).map u64).length≤1000:=by simp;omega
    have er2:((ws.take j).map fun w=>pullN (r.getD w 0) ws).map u64++[PV.int .u64 ((pullN (r.getD w 0) ws:Nat):Int)]=((ws.take (j+1)).map fun w=>pullN (r.getD w 0) ws).map u64:=by rw[ht2,List.map_append];rfl
    generalize hgz:r.getD w 0=z at hx3 er2 hs64
    have hixr:=idx_map (g:=u64) hx3
    refine⟨_,_,rfl,idx_map hx2,rfl,?_⟩
    try conv=>whnf
    refine⟨Unit,fun _=>[(1,.pv (intsPV ws)),(2,.ref 0 0),(4,.ref 1 0),(5,.ref 2 0),(9,.pv (rowPV r)),(10,.buf 4 (((ws.take j).map fun w=>pullN (r.getD w 0) ws).map u64).length),(44,.pv (.sl (a.rel.map rowPV))),(45,.pv (i64 (a.rel.map rowPV).length)),(46,.pv (i64 i)),(50,.pv (intsPV ws)),(51,.pv (i64 (ws.map i64).length)),(52,.pv (i64 j)),(13,.pv (u64 (pullN z ws)))],fun _=>5,fun _=>[(0,.var (cellsA a)),(1,.var cellsZ),(2,.var [.pv (.sl V),.pv (.sl W),.buf 3 (((a.rel.take i).map ro).map rowPV).length]),(3,.arr 1 (((a.rel.take i).map ro).map rowPV)),(4,.arr 1 (((ws.take j).map fun w=>pullN (r.getD w 0) ws).map u64))],?_,?_⟩
    ·try conv=>whnf
     refine⟨{ k:Nat // k≤ws.length },fun k=>[(1,.pv (intsPV ws)),(2,.ref 0 0),(4,.ref 1 0),(5,.ref 2 0),(9,.pv (rowPV r)),(10,.buf 4 (((ws.take j).map fun w=>pullN (r.getD w 0) ws).map u64).length),(44,.pv (.sl (a.rel.map rowPV))),(45,.pv (i64 (a.rel.map rowPV).length)),(46,.pv (i64 i)),(50,.pv (intsPV ws)),(51,.pv (i64 (ws.map i64).length)),(52,.pv (i64 j)),(12,.pv (i64 w)),(13,.pv (u64 (maskOf (fun i=>z.testBit (ws.getD i 0)) k.1))),(56,.pv (intsPV ws)),(57,.pv (i64 (ws.map i64).length)),(58,.pv (i64 k.1))],fun _=>5,fun _=>[(0,.var (cellsA a)),(1,.var cellsZ),(2,.var [.pv (.sl V),.pv (.sl W),.buf 3 (((a.rel.take i).map ro).map rowPV).length]),(3,.arr 1 (((a.rel.take i).map ro).map rowPV)),(4,.arr 1 (((ws.take j).map fun w=>pullN (r.getD w 0) ws).map u64))],fun k=>ws.length-k.1,⟨⟨0,Nat.zero_le _⟩,(by exact Wk.sm rfl rfl rfl rfl rfl)⟩,?_⟩
     rintro⟨k,hk⟩
     (try conv=>whnf);repeat' (first|(apply And.intro<;>try conv=>whnf)|(intro h;try conv=>whnf)|(apply infoT;rfl)|fail)
     ·have hk':k<ws.length:=by simpa using lt_dec h
      obtain⟨v,hv,hvv⟩:∃ y,ws[k]? = some y∧ws.getD k 0=y:=⟨_,getD_mem hk',rfl⟩
      have hv64:=hw64 v (List.mem_iff_getElem?.2 ⟨_,hv⟩)
      have hst:=pull_step (q:=fun i=>z.testBit (ws.getD i 0)) hs64 hv64 (show k<64 by omega) (by show z.testBit (ws.getD k 0)=_;rw[hvv])
      refine⟨_,_,rfl,idx_map hv,rfl,?_⟩
      (try conv=>whnf);repeat' (first|(apply And.intro<;>try conv=>whnf)|(apply infoT;rfl)|(refine⟨_,_,rfl,idx_map (by with_reducible assumption),rfl,?_⟩;try conv=>whnf)|fail)
      ·exact Int.natCast_nonneg _
      ·exact Int.natCast_nonneg _
      ·refine⟨⟨k+1,hk'⟩,by show ws.length-(k+1)<ws.length-k;omega,?_⟩
       (refine Wk.of ?_ ?_ rfl rfl rfl<;>repeat' (first|exact trivial|exact WkD.same _|exact WkO.same _ _ rfl|refine WkD.int ?_|refine⟨?_,?_⟩|(refine wrapA ?_ ?_ ?_;(focus simp;done);(focus (try dsimp only);omega);(focus (try dsimp only);omega))|fail))
       exact hst
     ·have hk':k=ws.length:=by have:=ge_dec (m:=(ws.map i64).length) h (by simpa using hk);simpa using this
      subst hk'
      exact⟨(),(by exact Wk.sm rfl rfl rfl rfl rfl)⟩
    rintro⟨⟩
    (try conv=>whnf);repeat' (first|(apply And.intro<;>try conv=>whnf)|(apply cellsI;rfl)|(apply szI;rfl)|fail)
    ·exact app_big (n:=1000) hvsl2 (by decide)
    ·refine⟨⟨j+1,hj'⟩,by show ws.length-(j+1)<ws.length-j;omega,?_⟩
     (refine Wk.of ?_ ?_ rfl rfl rfl<;>repeat' (first|exact trivial|exact WkD.same _|exact WkO.same _ _ rfl|exact WkD.eq (congrArg (fun z:List PV=>DV.buf _ z.length) er2)|exact WkO.same _ _ (congrArg (fun z=>some (DObj.arr _ z)) er2)|refine WkD.int ?_|refine⟨?_,?_⟩|(refine wrapA ?_ ?_ ?_;(focus simp;done);(focus (try dsimp only);omega);(focus (try dsimp only);omega))|fail))
   ·have hj':j=ws.length:=by have:=ge_dec (m:=(ws.map i64).length) h (by simpa using hj);simpa using this
    subst hj'
    exact⟨(),(by refine Wk.of ?_ ?_ rfl rfl rfl<;>repeat' (first|exact trivial|exact WkD.same _|exact WkO.same _ _ rfl|exact WkD.fz _ _ _ rfl (Or.inl ⟨_,rfl⟩) rfl|refine⟨?_,?_⟩|fail))⟩
  rintro⟨⟩
  have hR:(ws.take ws.length).map (fun w=>pullN (r.getD w 0) ws)=ro r:=by rw[List.take_length,qro]
  generalize (ws.take ws.length).map (fun w=>pullN (r.getD w 0) ws)=R at hR
  rw[← hR] at er
  (try conv=>whnf);repeat' (first|(apply And.intro<;>try conv=>whnf)|(apply cellsI;rfl)|(apply szI;rfl)|fail)
  ·exact app_big (n:=1000) hvsl (by decide)
  ·refine⟨⟨i+1,hi'⟩,by show a.rel.length-(i+1)<a.rel.length-i;omega,?_⟩
   (refine Wk.of ?_ ?_ rfl rfl rfl<;>repeat' (first|exact trivial|exact WkD.same _|exact WkO.same _ _ rfl|exact WkD.eq (congrArg (fun z:List PV=>DV.buf _ z.length) er)|exact WkO.same _ _ (congrArg (fun z=>some (DObj.arr _ z)) er)|refine WkD.int ?_|refine WkO.vars rfl ?_|refine⟨?_,?_⟩|(refine wrapA ?_ ?_ ?_;(focus simp;done);(focus (try dsimp only);omega);(focus (try dsimp only);omega))|fail))
 ·have hi':i=a.rel.length:=by have:=ge_dec (m:=(a.rel.map rowPV).length) h (by simpa using hi);simpa using this
  subst hi'
  exact .refl _
def rowB (r:List Bool):PV:=.sl (r.map .bool)
def tabPV (z:List (List Bool)):PV:=.sl (z.map rowB)
def zAt (z:List (List Bool)) (g h:Nat):Bool:=(z.getD g []).getD h false
def HAl (a b:Act) (z:List (List Bool)) (g:Nat):List (Nat×DObj):=[(0,.var (cellsA a)),(1,.var (cellsA b)),(2,.var [.pv (tabPV z)]),(3,.var [.pv (i64 g)])]
def anyN (p:Nat→Bool):Nat→Bool
 |0=>false
 |n+1=>bif anyN p n then true else p n
theorem anyN_of {p:Nat→Bool} {k:Nat} (h:p k=true):∀ {n:Nat},k<n→anyN p n=true
 |n+1,hk=>by
  rw[anyN]
  by_cases e:k<n
  ·rw[anyN_of h e];rfl
  ·have:k=n:=by omega
   subst this
   rw[h];cases anyN p k<;>rfl
theorem anyN_no {p:Nat→Bool} {n:Nat} (h1:anyN p n=false) (h2:p n=false):anyN p (n+1)=false:=by rw[anyN,h1,h2];rfl
def someN (s:Nat) (p:Nat→Bool) (n:Nat):Bool:=anyN (fun e=>bif s.testBit e then p e else false) n
structure Tab (z:List (List Bool)) (n m:Nat):Prop where
 len:z.length=n
 row:∀ r,r∈z→r.length=m
theorem Tab.at {z:List (List Bool)} {n m g h:Nat} (hz:Tab z n m) (hg:g<n) (hh:h<m):z[g]? = some (z.getD g [])∧(z.getD g [])[h]? = some (zAt z g h):=by
 have h1:z[g]? = some (z.getD g []):=getD_mem (by rw[hz.len];exact hg)
 refine⟨h1,getD_mem ?_⟩
 rw[hz.row _ (List.mem_iff_getElem?.2 ⟨_,h1⟩)];exact hh
theorem clo_m1 {M:Nat→Prop} {w0:W0} (a b:Act) (z:List (List Bool)) {n m:Nat} (hz:Tab z n m) (g h:Nat) (hg:g<n) (hh:h<m) (base:Nat) (K:DV→DH→Prop) (hK:K (.pv (.bool (zAt z g h))) ⟨4,0,base,objsOf (HAl a b z g)⟩) :
  DC Tryz.prog M w0 144 [.pv (i64 h),.ref 2 0,.ref 3 0] ⟨4,0,base,objsOf (HAl a b z g)⟩ K:=by
 obtain⟨h1,h2⟩:=hz.at hg hh
 generalize zAt z g h=v at h2 hK
 generalize hr:z.getD g []=r at h1 h2
 have i1:=idx_map (g:=rowB) h1
 have i2:=idx_map (g:=PV.bool) h2
 refine DC.weaken (DC.intro mixed (fn:=Tryz.f144) rfl rfl rfl ?_)
 (try conv=>whnf);repeat' (first|(apply And.intro<;>try conv=>whnf)|(apply infoT;rfl)|(refine⟨_,_,rfl,idx_map (by with_reducible assumption),rfl,?_⟩;try conv=>whnf)|fail)
 exact⟨.pv (.bool v),4,HAl a b z g,(by exact Wk.sm rfl rfl rfl rfl rfl),hK⟩
theorem clo_m2 {M:Nat→Prop} {w0:W0} (a b:Act) (z:List (List Bool)) {n m:Nat} (hz:Tab z n m) (g h:Nat) (hg:g<n) (hh:h<m) (base:Nat) (K:DV→DH→Prop) (hK:K (.pv (.bool (zAt z g h))) ⟨4,0,base,objsOf (HAl a b z h)⟩) :
  DC Tryz.prog M w0 145 [.pv (i64 g),.ref 2 0,.ref 3 0] ⟨4,0,base,objsOf (HAl a b z h)⟩ K:=by
 obtain⟨h1,h2⟩:=hz.at hg hh
 generalize zAt z g h=v at h2 hK
 generalize hr:z.getD g []=r at h1 h2
 have i1:=idx_map (g:=rowB) h1
 have i2:=idx_map (g:=PV.bool) h2
 refine DC.weaken (DC.intro mixed (fn:=Tryz.f145) rfl rfl rfl ?_)
 (try conv=>whnf);repeat' (first|(apply And.intro<;>try conv=>whnf)|(apply infoT;rfl)|(refine lin_plan (by kernel_rfl) ?_;try conv=>whnf)|(refine⟨_,_,rfl,idx_map (by with_reducible assumption),rfl,?_⟩;try conv=>whnf)|fail)
 exact⟨.pv (.bool v),4,HAl a b z h,(by exact Wk.sm rfl rfl rfl rfl rfl),hK⟩
theorem cp_some {M:Nat→Prop} {w0:W0} (a b:Act) (z:List (List Bool)) (k:Nat) (s:Nat) (hs:s<2^8) (p:Nat→Bool) (fid:Nat)
  (hc:∀ e,e<8→s.testBit e=true→∀ (M:Nat→Prop) (w0:W0) (base:Nat) (K:DV→DH→Prop),K (.pv (.bool (p e))) ⟨4,0,base,objsOf (HAl a b z k)⟩→DC Tryz.prog M w0 fid [.pv (i64 e),.ref 2 0,.ref 3 0] ⟨4,0,base,objsOf (HAl a b z k)⟩ K)
  (base:Nat) (K:DV→DH→Prop) (hK:K (.pv (.bool (someN s p 8))) ⟨4,0,base,objsOf (HAl a b z k)⟩) :
  DC Tryz.prog M w0 143 [.pv (u64 s),.clo fid [] [.ref 2 0,.ref 3 0]] ⟨4,0,base,objsOf (HAl a b z k)⟩ K:=by
 refine DC.weaken (DC.intro mixed (fn:=Tryz.f143) rfl rfl rfl ?_)
 try conv=>whnf
 refine⟨{ i:Nat // i≤8∧someN s p i=false },fun i=>[(0,.pv (u64 s)),(1,.clo fid [] [.ref 2 0,.ref 3 0]),(6,.pv (i64 i.1))],fun _=>4,fun _=>HAl a b z k,fun i=>8-i.1,⟨⟨0,Nat.zero_le _,rfl⟩,(by exact Wk.sm rfl rfl rfl rfl rfl)⟩,?_⟩
 rintro⟨i,hi,hn⟩
 have hs64:s<2^64:=Nat.lt_of_lt_of_le hs (by decide)
 (try conv=>whnf);repeat' (first|(apply And.intro<;>try conv=>whnf)|(intro h;try conv=>whnf)|apply True.intro|(apply WhenQ.mk;(try conv=>whnf);rotate_left;(try conv=>whnf);rotate_right)|with_reducible assumption|fail)
 ·exact Int.natCast_nonneg _
 ·rename_i h8
  have hi':i<8:=by have:=of_decide_eq_true (show decide ((i:Int)<8)=true from h8);omega
  have hb:s.testBit i=true:=by
   have h2:(andU (shrU s i) 1==1)=true:=h
   rwa [bit_one hs64 (by omega)] at h2
  refine hc i hi' hb _ _ _ _ ?_
  exact⟨rfl,rfl⟩
 ·have hi':i<8:=by have:=of_decide_eq_true (show decide ((i:Int)<8)=true from h);omega
  have hbit:(andU (shrU s i) 1==1)=s.testBit i:=bit_one hs64 (by omega)
  (try conv=>whnf);repeat' (first|(apply And.intro<;>try conv=>whnf)|(intro h;try conv=>whnf)|with_reducible assumption|fail)
  ·have h2:(bif (andU (shrU s i) 1==1) then p i else false)=true:=h
   rw[hbit] at h2
   have:someN s p 8=true:=anyN_of (p:=fun e=>bif s.testBit e then p e else false) h2 hi'
   rw[this] at hK
   exact⟨.pv (.bool true),4,HAl a b z k,(by exact Wk.sm rfl rfl rfl rfl rfl),hK⟩
  ·have h2:(bif (andU (shrU s i) 1==1) then p i else false)=false:=h
   rw[hbit] at h2
   exact⟨⟨i+1,hi',anyN_no hn h2⟩,by show 8-(i+1)<8-i;omega,(by refine Wk.of ?_ ?_ rfl rfl rfl<;>repeat' (first|exact trivial|exact WkD.same _|exact WkO.same _ _ rfl|refine WkD.int ?_|refine⟨?_,?_⟩|(refine wrapA ?_ ?_ ?_;(focus simp;done);(focus (try dsimp only);omega);(focus (try dsimp only);omega))|fail))⟩
 ·have hi':i=8:=by have:=of_decide_eq_false (show decide ((i:Int)<8)=false from h);omega
  subst hi'
  rw[hn] at hK
  exact⟨.pv (.bool false),4,HAl a b z k,(by exact Wk.sm rfl rfl rfl rfl rfl),hK⟩
theorem DC.callA {P:Program} {M:Nat→Prop} {w0:W0} {f:FuncId} {args:List DV} {L:DH} {K:DV→DH→Prop} {q:DV} (n:Nat) (Hl:List (Nat×DObj)) (hag:agr (objsOf Hl) L.get n) (hu:wkU n [] Hl=true) (hnx:Nat.ble n L.next=true) (hlo:Nat.ble L.lo n=true) (hargs:DV.unders n args=true)
  (h:∀ M (K':DV→DH→Prop),K' q ⟨n,L.lo,n,objsOf Hl⟩→DC P M w0.no f args ⟨n,L.lo,n,objsOf Hl⟩ K') (hK:K q L):DC P M w0 f args L K:=by
 simp only[wkU,List.all_nil,Bool.true_and,List.all_eq_true,Bool.and_eq_true] at hu
 exact DC.callS n Hl (fun k hk=>agr_lt hag k hk) (fun q hq=>⟨by have:=(hu q hq).1;rwa [Nat.blt_eq] at this,(hu q hq).2⟩) hnx hlo hargs h hK
def relA (a:Act) (i e:Nat):Nat:=(a.rel.getD i []).getD e 0
def misF (a b:Act) (z:List (List Bool)) (e f i g:Nat):Bool:=bif (relA a i e).testBit g then !someN (relA b i f) (fun h=>zAt z g h) 8 else false
def misB (a b:Act) (z:List (List Bool)) (e f i h:Nat):Bool:=bif (relA b i f).testBit h then !someN (relA a i e) (fun g=>zAt z g h) 8 else false
def misR (a b:Act) (z:List (List Bool)) (e f i:Nat):Bool:=bif anyN (misF a b z e f i) a.pre.length then true else anyN (misB a b z e f i) b.pre.length
def mtI (a b:Act) (z:List (List Bool)) (e f:Nat):Bool:=!anyN (misR a b z e f) a.rel.length
theorem Shp.at {a:Act} {n i e:Nat} (hA:Shp a n) (hi:i<a.rel.length) (he:e<n):(a.rel.map rowPV)[i]? = some (rowPV (a.rel.getD i []))∧((a.rel.getD i []).map u64)[e]? = some (u64 (relA a i e))∧relA a i e<2^n:=by
 have h1:a.rel[i]? = some (a.rel.getD i []):=getD_mem hi
 have hm:=List.mem_iff_getElem?.2 ⟨_,h1⟩
 have h2:(a.rel.getD i [])[e]? = some (relA a i e):=getD_mem (by rw[hA.rows _ hm];exact he)
 exact⟨idx_map h1,idx_map h2,hA.bits _ hm _ (List.mem_iff_getElem?.2 ⟨_,h2⟩)⟩
theorem bitLtN {s n k:Nat} (hs:s<2^n) (h:s.testBit k=true):k<n:=by
 by_cases q:k<n
 ·exact q
 ·have:=Nat.testBit_lt_two_pow (Nat.lt_of_lt_of_le hs (Nat.pow_le_pow_right (by decide) (by omega:n≤k)))
  rw[this] at h;cases h
theorem cp_matched (a b:Act) (n m:Nat) (hA:Shp a n) (hB:Shp b m) (hr:a.rel.length=b.rel.length) (z:List (List Bool)) (hz:Tab z n m) (e f:Nat) (he:e<n) (hf:f<m):PureFn Tryz.prog 108 [a.pv,b.pv,tabPV z,i64 e,i64 f] (.bool (mtI a b z e f)):=by
 have n8:=hA.n8
 have m8:=hB.n8
 have hpa:=hA.pre
 have hpb:=hB.pre
 refine PureFn.intro mixed (fn:=Tryz.f108) rfl rfl rfl fun M w0 => ?_
 try conv=>whnf
 refine⟨{ i:Nat // i≤a.rel.length∧anyN (misR a b z e f) i=false },fun i=>[(3,.pv (i64 e)),(4,.pv (i64 f)),(5,.ref 0 0),(6,.ref 1 0),(7,.ref 2 0),(16,.pv (i64 (a.rel.map rowPV).length)),(17,.pv (i64 i.1))],fun _=>3,fun _=>[(0,.var (cellsA a)),(1,.var (cellsA b)),(2,.var [.pv (tabPV z)])],fun i=>a.rel.length-i.1,⟨⟨0,Nat.zero_le _,rfl⟩,(by exact Wk.sm rfl rfl rfl rfl rfl)⟩,?_⟩
 rintro⟨i,hi,hni⟩
 (try conv=>whnf);repeat' (first|(apply And.intro<;>try conv=>whnf)|(intro h;try conv=>whnf)|fail)
 ·have hi':i<a.rel.length:=by simpa using lt_dec h
  obtain⟨a1,a2,a3⟩:=hA.at hi' he
  obtain⟨b1,b2,b3⟩:=hB.at (by omega:i<b.rel.length) hf
  have hsa:relA a i e<2^8:=Nat.lt_of_lt_of_le a3 (Nat.pow_le_pow_right (by decide) n8)
  have hsb:relA b i f<2^8:=Nat.lt_of_lt_of_le b3 (Nat.pow_le_pow_right (by decide) m8)
  refine⟨{ g:Nat // g≤a.pre.length∧anyN (misF a b z e f i) g=false },fun g=>[(3,.pv (i64 e)),(4,.pv (i64 f)),(5,.ref 0 0),(6,.ref 1 0),(7,.ref 2 0),(16,.pv (i64 (a.rel.map rowPV).length)),(17,.pv (i64 i)),(11,.pv (i64 i)),(22,.pv (i64 (a.pre.map fpv).length)),(23,.pv (i64 g.1))],fun _=>3,fun _=>[(0,.var (cellsA a)),(1,.var (cellsA b)),(2,.var [.pv (tabPV z)])],fun g=>a.pre.length-g.1,⟨⟨0,Nat.zero_le _,rfl⟩,(by exact Wk.sm rfl rfl rfl rfl rfl)⟩,?_⟩
  rintro⟨g,hg,hng⟩
  (try conv=>whnf);repeat' (first|(apply And.intro<;>try conv=>whnf)|(intro h;try conv=>whnf)|fail)
  ·have hg':g<a.pre.length:=by simpa using lt_dec h
   refine⟨Plan.lin 0 25,[22],by kernel_rfl,?_⟩
   have hbit:(andU (shrU (relA a i e) g) 1==1)=(relA a i e).testBit g:=bit_one (Nat.lt_of_lt_of_le hsa (by decide)) (by omega)
   have hso:=fun (M:Nat→Prop) (w0:W0) (base:Nat) (K:DV→DH→Prop)=>cp_some (M:=M) (w0:=w0) a b z g (relA b i f) hsb (fun h=>zAt z g h) 144 (fun h _ hb M w0 base K hK=>clo_m1 a b z hz g h (by omega) (bitLtN b3 hb) base K hK) base K
   generalize hra:a.rel.getD i []=ra at a1 a2
   generalize hrb:b.rel.getD i []=rb at b1 b2
   (try conv=>whnf);repeat' (first|(apply And.intro<;>try conv=>whnf)|(intro h;try conv=>whnf)|apply True.intro|(apply infoT;rfl)|(apply WhenQ.mk;(try conv=>whnf);rotate_left;(try conv=>whnf);rotate_right)|with_reducible assumption|(refine⟨i,_,rfl,a1,rfl,?_⟩;try conv=>whnf)|(refine⟨i,_,rfl,b1,rfl,?_⟩;try conv=>whnf)|(refine⟨e,_,rfl,a2,rfl,?_⟩;try conv=>whnf)|(refine⟨f,_,rfl,b2,rfl,?_⟩;try conv=>whnf)|(refine DC.callA (q:=.pv (.bool (someN (relA b i f) (fun h=>zAt z g h) 8))) 4 (HAl a b z g) ⟨rfl,rfl,rfl,rfl,trivial⟩ rfl rfl rfl rfl (fun M' K' hK'=>hso M' _ _ K' hK') ?_;try conv=>whnf)|fail)
   ·exact Int.natCast_nonneg _
   ·have h2:(bif (andU (shrU (relA a i e) g) 1==1) then !someN (relA b i f) (fun h=>zAt z g h) 8 else false)=true:=h
    rw[hbit] at h2
    have h3:misF a b z e f i g=true:=h2
    have h4:misR a b z e f i=true:=by rw[misR,anyN_of h3 hg'];rfl
    exact le_bool (by rw[mtI,anyN_of h4 hi'];rfl)
   ·have h2:(bif (andU (shrU (relA a i e) g) 1==1) then !someN (relA b i f) (fun h=>zAt z g h) 8 else false)=false:=h
    rw[hbit] at h2
    exact⟨⟨g+1,hg',anyN_no hng h2⟩,by show a.pre.length-(g+1)<a.pre.length-g;omega,(by refine Wk.of ?_ ?_ rfl rfl rfl<;>repeat' (first|exact trivial|exact WkD.same _|exact WkO.same _ _ rfl|refine WkD.int ?_|refine⟨?_,?_⟩|(refine wrapA ?_ ?_ ?_;(focus simp;done);(focus (try dsimp only);omega);(focus (try dsimp only);omega))|fail))⟩
  ·have hg':g=a.pre.length:=by have:=ge_dec (m:=(a.pre.map fpv).length) h (by simpa using hg);simpa using this
   subst hg'
   refine⟨{ k:Nat // k≤b.pre.length∧anyN (misB a b z e f i) k=false },fun k=>[(3,.pv (i64 e)),(4,.pv (i64 f)),(5,.ref 0 0),(6,.ref 1 0),(7,.ref 2 0),(16,.pv (i64 (a.rel.map rowPV).length)),(17,.pv (i64 i)),(11,.pv (i64 i)),(54,.pv (i64 (b.pre.map fpv).length)),(55,.pv (i64 k.1))],fun _=>3,fun _=>[(0,.var (cellsA a)),(1,.var (cellsA b)),(2,.var [.pv (tabPV z)])],fun k=>b.pre.length-k.1,⟨⟨0,Nat.zero_le _,rfl⟩,(by exact Wk.sm rfl rfl rfl rfl rfl)⟩,?_⟩
   rintro⟨k,hk,hnk⟩
   (try conv=>whnf);repeat' (first|(apply And.intro<;>try conv=>whnf)|(intro h;try conv=>whnf)|fail)
   ·have hk':k<b.pre.length:=by simpa using lt_dec h
    refine⟨Plan.lin 0 25,[22],by kernel_rfl,?_⟩
    have hbit:(andU (shrU (relA b i f) k) 1==1)=(relA b i f).testBit k:=bit_one (Nat.lt_of_lt_of_le hsb (by decide)) (by omega)
    have hso:=fun (M:Nat→Prop) (w0:W0) (base:Nat) (K:DV→DH→Prop)=>cp_some (M:=M) (w0:=w0) a b z k (relA a i e) hsa (fun g=>zAt z g k) 145 (fun g _ hb M w0 base K hK=>clo_m2 a b z hz g k (bitLtN a3 hb) (by omega) base K hK) base K
    generalize hra:a.rel.getD i []=ra at a1 a2
    generalize hrb:b.rel.getD i []=rb at b1 b2
    (try conv=>whnf);repeat' (first|(apply And.intro<;>try conv=>whnf)|(intro h;try conv=>whnf)|apply True.intro|(apply infoT;rfl)|(apply WhenQ.mk;(try conv=>whnf);rotate_left;(try conv=>whnf);rotate_right)|with_reducible assumption|(refine⟨i,_,rfl,a1,rfl,?_⟩;try conv=>whnf)|(refine⟨i,_,rfl,b1,rfl,?_⟩;try conv=>whnf)|(refine⟨e,_,rfl,a2,rfl,?_⟩;try conv=>whnf)|(refine⟨f,_,rfl,b2,rfl,?_⟩;try conv=>whnf)|(refine DC.callA (q:=.pv (.bool (someN (relA a i e) (fun g=>zAt z g k) 8))) 4 (HAl a b z k) ⟨rfl,rfl,rfl,rfl,trivial⟩ rfl rfl rfl rfl (fun M' K' hK'=>hso M' _ _ K' hK') ?_;try conv=>whnf)|fail)
    ·exact Int.natCast_nonneg _
    ·have h2:(bif (andU (shrU (relA b i f) k) 1==1) then !someN (relA a i e) (fun g=>zAt z g k) 8 else false)=true:=h
     rw[hbit] at h2
     have h3:misB a b z e f i k=true:=h2
     have h4:misR a b z e f i=true:=by rw[misR,anyN_of h3 hk'];cases anyN (misF a b z e f i) a.pre.length<;>rfl
     exact le_bool (by rw[mtI,anyN_of h4 hi'];rfl)
    ·have h2:(bif (andU (shrU (relA b i f) k) 1==1) then !someN (relA a i e) (fun g=>zAt z g k) 8 else false)=false:=h
     rw[hbit] at h2
     exact⟨⟨k+1,hk',anyN_no hnk h2⟩,by show b.pre.length-(k+1)<b.pre.length-k;omega,(by refine Wk.of ?_ ?_ rfl rfl rfl<;>repeat' (first|exact trivial|exact WkD.same _|exact WkO.same _ _ rfl|refine WkD.int ?_|refine⟨?_,?_⟩|(refine wrapA ?_ ?_ ?_;(focus simp;done);(focus (try dsimp only);omega);(focus (try dsimp only);omega))|fail))⟩
   ·have hk':k=b.pre.length:=by have:=ge_dec (m:=(b.pre.map fpv).length) h (by simpa using hk);simpa using this
    subst hk'
    have hag:=hA.ag
    exact⟨⟨i+1,hi',anyN_no hni (by rw[misR,hng,hnk];rfl)⟩,by show a.rel.length-(i+1)<a.rel.length-i;omega,(by refine Wk.of ?_ ?_ rfl rfl rfl<;>repeat' (first|exact trivial|exact WkD.same _|exact WkO.same _ _ rfl|refine WkD.int ?_|refine⟨?_,?_⟩|(refine wrapA ?_ ?_ ?_;(focus simp;done);(focus (try dsimp only);omega);(focus (try dsimp only);omega))|fail))⟩
 ·have hi':i=a.rel.length:=by have:=ge_dec (m:=(a.rel.map rowPV).length) h (by simpa using hi);simpa using this
  subst hi'
  refine le_bool ?_
  rw[mtI,hni];rfl
set_option maxHeartbeats 400000
def z0B (a b:Act) (e f:Nat):Bool:=bif eqL asS (a.post.getD e []) (b.post.getD f []) then same (a.pre.getD e []) (b.pre.getD f []) else false
def row0 (a b:Act) (e:Nat):List Bool:=(List.range b.pre.length).map (z0B a b e)
def tab0 (a b:Act):List (List Bool):=(List.range a.pre.length).map (row0 a b)
def clrT (z:List (List Bool)) (e f:Nat):List (List Bool):=z.set e ((z.getD e []).set f false)
def stepZ (a b:Act) (e f:Nat) (s:List (List Bool)×Bool):List (List Bool)×Bool:=bif (bif zAt s.1 e f then !mtI a b s.1 e f else false) then (clrT s.1 e f,true) else s
def rowZ (a b:Act) (e:Nat):Nat→List (List Bool)×Bool→List (List Bool)×Bool
 |0,s=>s
 |k+1,s=>stepZ a b e k (rowZ a b e k s)
def passZ (a b:Act) (m:Nat):Nat→List (List Bool)×Bool→List (List Bool)×Bool
 |0,s=>s
 |k+1,s=>rowZ a b k m (passZ a b m k s)
def iterZ (a b:Act) (n m:Nat):Nat→List (List Bool)→List (List Bool)
 |0,z=>z
 |k+1,z=>bif (passZ a b m n (z,false)).2 then iterZ a b n m k (passZ a b m n (z,false)).1 else z
def cntR (p:Nat→Bool):Nat→Nat
 |0=>0
 |n+1=>cntR p n+(bif p n then 1 else 0)
theorem cntR_le {p q:Nat→Bool}:∀ {n:Nat},(∀ k,k<n→q k=true→p k=true)→cntR q n≤cntR p n
 |0,_=>Nat.le_refl _
 |n+1,h=>by
  have ih:=cntR_le (n:=n) fun k hk=>h k (by omega)
  have hn:=h n (by omega)
  rw[cntR,cntR]
  cases hq:q n with
  |true=>rw[hn hq];simp only[cond_true];omega
  |false=>cases p n<;>simp only[cond_true,cond_false]<;>omega
theorem cntR_lt {p q:Nat→Bool} {k:Nat} (hp:p k=true) (hq:q k=false):∀ {n:Nat},k<n→(∀ k,k<n→q k=true→p k=true)→cntR q n<cntR p n
 |n+1,hk,h=>by
  rw[cntR,cntR]
  by_cases e:k=n
  ·subst e
   have ih:=cntR_le (n:=k) fun j hj=>h j (by omega)
   rw[hp,hq];simp only[cond_true,cond_false];omega
  ·have ih:=cntR_lt hp hq (n:=n) (by omega) fun j hj=>h j (by omega)
   have hn:=h n (by omega)
   cases hqn:q n with
   |true=>rw[hn hqn];simp only[cond_true];omega
   |false=>cases p n<;>simp only[cond_true,cond_false]<;>omega
def cntZ (z:List (List Bool)) (n m:Nat):Nat:=cntR (fun k=>zAt z (k / m) (k % m)) (n*m)
theorem zAt_clr (z:List (List Bool)) (e f e' f':Nat):zAt (clrT z e f) e' f'=true→zAt z e' f'=true∧¬ (e'=e∧f'=f):=by
 unfold zAt clrT
 intro h
 simp only[List.getD_eq_getElem?_getD,List.getElem?_set] at h ⊢
 by_cases q:e=e'
 ·subst q
  by_cases q2:e<z.length
  ·rw[if_pos rfl,if_pos q2] at h
   simp only[Option.getD_some,List.getElem?_set] at h
   by_cases q3:f=f'
   ·subst q3
    rw[if_pos rfl] at h
    split at h<;>cases h
   ·rw[if_neg q3] at h
    exact⟨h,fun g=>q3 g.2.symm⟩
  ·rw[if_pos rfl,if_neg q2] at h
   cases h
 ·rw[if_neg q] at h
  exact⟨h,fun g=>q g.1.symm⟩
theorem Tab.clr {z:List (List Bool)} {n m:Nat} (hz:Tab z n m) {e:Nat} (f:Nat) (he:e<n):Tab (clrT z e f) n m:=by
 refine⟨by rw[clrT,List.length_set,hz.len],fun r hr => ?_⟩
 rcases List.mem_or_eq_of_mem_set hr with hr|hr
 ·exact hz.row r hr
 ·have he:e<z.length:=by rw[hz.len];exact he
  rw[hr,List.length_set]
  exact hz.row _ (by rw[List.getD_eq_getElem?_getD,List.getElem?_eq_getElem he];exact List.getElem_mem he)
structure OkS (n m:Nat) (z:List (List Bool)) (s:List (List Bool)×Bool):Prop where
 tab:Tab s.1 n m
 sub:∀ e f,zAt s.1 e f=true→zAt z e f=true
 yes:s.2=true→cntZ s.1 n m<cntZ z n m
 no:s.2=false→s.1=z
theorem OkS.step {a b:Act} {n m:Nat} {z:List (List Bool)} {s:List (List Bool)×Bool} (h:OkS n m z s) {e f:Nat} (he:e<n) (hf:f<m):OkS n m z (stepZ a b e f s):=by
 unfold stepZ
 cases hz:zAt s.1 e f with
 |false=>exact h
 |true =>
  cases hm:mtI a b s.1 e f with
  |true=>exact h
  |false =>
   show OkS n m z (clrT s.1 e f,true)
   refine⟨h.tab.clr f he,fun e' f' h'=>h.sub e' f' (zAt_clr _ _ _ _ _ h').1,fun _ => ?_,fun h'=>by cases h'⟩
   have hk:e*m+f<n*m:=by
    have:=Nat.mul_le_mul_right m (show e+1≤n from he)
    rw[Nat.add_mul,Nat.one_mul] at this
    omega
   have hd:(e*m+f) / m=e:=by rw[Nat.add_comm,Nat.add_mul_div_right _ _ (by omega),Nat.div_eq_of_lt hf,Nat.zero_add]
   have hr:(e*m+f) % m=f:=by rw[Nat.add_comm,Nat.add_mul_mod_self_right,Nat.mod_eq_of_lt hf]
   refine Nat.lt_of_lt_of_le (cntR_lt (k:=e*m+f) (p:=fun k=>zAt s.1 (k / m) (k % m)) (by simp only[hd,hr];exact hz) ?_ hk fun k _ hq=>(zAt_clr _ _ _ _ _ hq).1) (cntR_le fun k _ hq=>h.sub _ _ hq)
   simp only[hd,hr]
   cases hq:zAt (clrT s.1 e f) e f with
   |false=>rfl
   |true=>exact absurd ⟨rfl,rfl⟩ (zAt_clr _ _ _ _ _ hq).2
theorem OkS.row {a b:Act} {n m:Nat} {z:List (List Bool)} {e:Nat} (he:e<n):∀ {k:Nat} {s:List (List Bool)×Bool},OkS n m z s→k≤m→OkS n m z (rowZ a b e k s)
 |0,_,h,_=>h
 |k+1,_,h,hk=>(h.row he (k:=k) (by omega)).step he (by omega)
theorem OkS.pass {a b:Act} {n m:Nat} {z:List (List Bool)}:∀ {k:Nat} {s:List (List Bool)×Bool},OkS n m z s→k≤n→OkS n m z (passZ a b m k s)
 |0,_,h,_=>h
 |k+1,_,h,hk=>(h.pass (k:=k) (by omega)).row (by omega) (Nat.le_refl m)
theorem OkS.start {n m:Nat} {z:List (List Bool)} (hz:Tab z n m):OkS n m z (z,false):=⟨hz,fun _ _ h=>h,fun h=>(by cases h),fun _=>rfl⟩
def alkI (a b:Act) (z:List (List Bool)):List (List Bool):=iterZ a b a.pre.length b.pre.length (cntZ z a.pre.length b.pre.length+1) z
theorem iter_more {a b:Act} {n m:Nat}:∀ (k:Nat) (z:List (List Bool)),Tab z n m→cntZ z n m<k→iterZ a b n m k z=iterZ a b n m (cntZ z n m+1) z
 |k+1,z,hz,hk=>by
  have hO:=(OkS.start hz).pass (a:=a) (b:=b) (k:=n) (Nat.le_refl n)
  rw[iterZ,iterZ]
  cases h:(passZ a b m n (z,false)).2 with
  |false=>rfl
  |true =>
   have hc:=hO.yes h
   rw[cond_true,cond_true,iter_more k _ hO.tab (by omega)]
   by_cases e:cntZ (passZ a b m n (z,false)).1 n m+1=cntZ z n m
   ·rw[e]
   ·exact (iter_more (cntZ z n m) _ hO.tab hc).symm
theorem alk_step {a b:Act} {z:List (List Bool)} (hz:Tab z a.pre.length b.pre.length):alkI a b z=bif (passZ a b b.pre.length a.pre.length (z,false)).2 then alkI a b (passZ a b b.pre.length a.pre.length (z,false)).1 else z:=by
 have hO:=(OkS.start hz).pass (a:=a) (b:=b) (k:=a.pre.length) (Nat.le_refl _)
 rw[alkI,iterZ]
 cases h:(passZ a b b.pre.length a.pre.length (z,false)).2 with
 |false=>rfl
 |true=>exact iter_more _ _ hO.tab (hO.yes h)
theorem tab0_tab (a b:Act):Tab (tab0 a b) a.pre.length b.pre.length:=⟨by simp[tab0],fun r hr=>by
 obtain⟨e,_,rfl⟩:=List.mem_map.1 hr
 simp[row0]⟩
theorem iter_tab {a b:Act} {n m:Nat}:∀ (k:Nat) (z:List (List Bool)),Tab z n m→Tab (iterZ a b n m k z) n m
 |0,_,hz=>hz
 |k+1,z,hz=>by
  have hO:=(OkS.start hz).pass (a:=a) (b:=b) (k:=n) (Nat.le_refl n)
  rw[iterZ]
  cases (passZ a b m n (z,false)).2 with
  |false=>exact hz
  |true=>exact iter_tab k _ hO.tab
theorem alk_tab (a b:Act):Tab (alkI a b (tab0 a b)) a.pre.length b.pre.length:=iter_tab _ _ (tab0_tab a b)
end Go.Proofs.YtejbieopeicgkaaGreatDoor
