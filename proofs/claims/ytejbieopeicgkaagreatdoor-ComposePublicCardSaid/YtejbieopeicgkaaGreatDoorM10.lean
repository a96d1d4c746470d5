/- Parts of the proof, one after the other: Products: At of the program walked; the examples of the law. Models: the members of a set, and Restrict of the program walked. Models: Restrict, and announcements, of the program walked. The dynamic language: sets, static formulas, requests (plain). Reductions of announcements: where they hold (plain). Reductions of events: where they hold (plain). Reductions: a formula and its reduction hold at the same worlds (plain). Announcements: as action models, and twice (plain). Action models and announcements: the example of the laws walked. Rewriting: the rules of simplification, and a node with new operands. Rewriting: a node with new operands. Rewriting: opposite formulas, joined formulas. Rewriting: implications, equivalences. Rewriting: one node simplified. Rewriting: a formula simplified from its parts up. Action models one after the other: the product with their composition (plain). Action models one after the other: the product with their composition is the product of products (plain). Action models one after the other: the assignments of a pair of events walked. Action models one after the other: the assignments of a pair of events walked, out of the insertion's contract. -/
import Derived.Test.YtejbieopeicgkaaGreatDoorM9
set_option maxRecDepth 100000
set_option maxHeartbeats 4000000
namespace Go.Proofs.YtejbieopeicgkaaGreatDoor
open Go Go.Dv
def isP (w e:Int) (q:Nat×Nat):Bool:=bif (q.1:Int)==w then (q.2:Int)==e else false
def ixP (l:List (Nat×Nat)) (w e:Int):Int:=match l.findIdx? (isP w e) with|none => -1|some i=>(i:Int)
theorem find_at {α:Type} {p:α→Bool}:∀ {l:List α} {i:Nat} {x:α},l[i]? = some x→p x=true→(l.take i).any p=false→l.findIdx? p=some i
 | [],i,x,h,_,_=>by simp at h
 |a::r,0,x,h,hx,_=>by
  have:a=x:=by simpa using h
  subst this
  simp[List.findIdx?_cons,hx]
 |a::r,i+1,x,h,hx,hn=>by
  have h1:r[i]? = some x:=by simpa using h
  have hn2:(p a||(r.take i).any p)=false:=by simpa using hn
  rw[Bool.or_eq_false_iff] at hn2
  rw[List.findIdx?_cons,hn2.1,find_at h1 hx hn2.2];rfl
theorem find_none {α:Type} {p:α→Bool} {l:List α} (h:l.any p=false):l.findIdx? p=none:=by
 rw[List.findIdx?_eq_none_iff]
 exact fun x hx=>by simpa using List.any_eq_false.1 h x hx
theorem fit_pair (x y:Int):fitT Tryz.prog 66 (.agg [.int .i64 x,.int .i64 y])=true:=by kernel_rfl
theorem eq_pair (w e:Int) (q:Nat×Nat):eqPVs [.int .i64 w,.int .i64 e] [i64 q.1,i64 q.2]=isP w e q:=by
 show ((w==(q.1:Int)) && ((e==(q.2:Int)) && true))=bif (q.1:Int)==w then (q.2:Int)==e else false
 rw[Bool.and_true,show (w==(q.1:Int))=((q.1:Int)==w) by rw[Bool.eq_iff_iff,beq_iff_eq,beq_iff_eq];exact⟨Eq.symm,Eq.symm⟩,show (e==(q.2:Int))=((q.2:Int)==e) by rw[Bool.eq_iff_iff,beq_iff_eq,beq_iff_eq];exact⟨Eq.symm,Eq.symm⟩]
 cases ((q.1:Int)==w)<;>rfl
theorem sl_IndexP (l:List (Nat×Nat)) (w e:Int) (hl:l.length≤1000):PureFn Tryz.prog 64 [.sl (l.map pairPV),.agg [.int .i64 w,.int .i64 e]] (.int .i64 (ixP l w e)):=by
 refine PureFn.intro mixed (fn:=Tryz.f64) rfl rfl rfl fun M w0 => ?_
 try conv=>whnf
 refine⟨{ i:Nat // i≤l.length∧(l.take i).any (isP w e)=false },fun i=>[(0,.pv (.sl (l.map pairPV))),(3,.ref 0 0),(7,.pv (i64 (l.map pairPV).length)),(8,.pv (i64 i.1))],fun _=>1,fun _=>[(0,.var [.pv (.int .i64 w),.pv (.int .i64 e)])],fun i=>l.length-i.1,⟨⟨0,Nat.zero_le _,rfl⟩,(by refine Wk.of ?_ ?_ rfl rfl rfl<;>repeat' (first|exact trivial|exact WkD.same _|exact WkO.same _ _ rfl|refine⟨?_,?_⟩|fail))⟩,?_⟩
 rintro⟨i,hi,hn⟩
 (try conv=>whnf);repeat' (first|(apply And.intro<;>try conv=>whnf)|(intro h;try conv=>whnf)|(apply infoT;rfl)|(refine lin_plan (by kernel_rfl) ?_;try conv=>whnf)|fail)
 ·have hi':i<l.length:=by simpa using lt_dec h
  obtain⟨y,hy,hyw⟩:∃ y,l[i]? = some y∧l[i]=y:=⟨_,List.getElem?_eq_getElem hi',rfl⟩
  refine⟨_,_,rfl,idx_map hy,rfl,?_⟩
  (try conv=>whnf);repeat' (first|(apply And.intro<;>try conv=>whnf)|(intro h;try conv=>whnf)|(apply guardI;kernel_rfl)|fail)
  ·exact fit_pair _ _
  ·exact fit_pair _ _
  ·have hq:isP w e y=true:=by rw[← eq_pair];exact h
   rw[ixP,find_at hy hq hn]
   exact .refl _
  ·have hq:isP w e y=false:=by rw[← eq_pair];exact h
   exact⟨⟨i+1,hi',any_take hi' hn (by rw[hyw];exact hq)⟩,by show l.length-(i+1)<l.length-i;omega,(by refine Wk.of ?_ ?_ rfl rfl rfl<;>repeat' (first|exact trivial|exact WkD.same _|exact WkO.same _ _ rfl|refine WkD.int ?_|refine⟨?_,?_⟩|(refine wrapA ?_ ?_ ?_;(focus simp;done);(focus (try dsimp only);omega);(focus (try dsimp only);omega))|fail))⟩
 ·have hi':i=l.length:=by have:=ge_dec (m:=(l.map pairPV).length) h (by simpa using hi);simpa using this
  subst hi'
  rw[List.take_length] at hn
  rw[ixP,find_none hn]
  exact .refl _
theorem updI_len (m:Mo) (a:Act):(updI m a).2.1.length≤64:=by
 unfold updI
 cases ((worldsI m a).2 != 0) with
 |true=>exact Nat.zero_le _
 |false =>
  cases h:decide (((worldsI m a).1.length:Int)>64) with
  |true=>exact Nat.zero_le _
  |false =>
   have:=of_decide_eq_false h
   show (worldsI m a).1.length≤64
   omega
theorem pr_At (m:Mo) (w:Int) (a:Act) (e:Int) (hf:FitM m) (hfa:Fit a) (hl:a.rel.length≤1000) (hp:∀ l,l∈a.post→l.length≤1000):PureFn Tryz.prog 19 [m.pv,.int .i64 w,a.pv,.int .i64 e] (atPV (atI m w a e)):=by
 refine PureFn.introC [2,8,9] mixed (fn:=Tryz.f19) rfl rfl rfl fun M w0 => ?_
 have hU:=pr_Update m a hf hfa hl hp
 have hlen:=updI_len m a
 obtain⟨R,hR⟩:∃ R,R=atI m w a e:=⟨_,rfl⟩
 rw[← hR]
 rw[atI] at hR
 generalize updI m a=X at hU hlen hR
 obtain⟨p,l,c⟩:=X
 have hlen:l.length≤64:=hlen
 have hg:((p,l,c):Mo×List (Nat×Nat)×Int).2.2=c:=rfl
 rw[hg] at hR
 have e1:((a.pre.map fpv).length:Int)=(a.pre.length:Int):=by simp
 have hI:=sl_IndexP l w e (by omega)
 try conv=>whnf
 refine⟨Unit,fun _=>[(1,.pv (.int .i64 w)),(3,.pv (.int .i64 e)),(4,.ref 0 0),(6,.ref 1 0),(8,.ref 2 0),(11,.ref 3 0),(12,.pv (.sl (l.map pairPV))),(13,.pv (.int .i64 c))],fun _=>4,fun _=>[(0,.var (cellsM m)),(1,.var (cellsA a)),(2,.var cells0),(3,.var (cellsM p))],?_,?_⟩
 ·(try conv=>whnf);repeat' (first|(refine PureFn.dcq (f:=18) rfl ?_;try conv=>whnf)|(refine⟨_,_,hU,?_,?_⟩;(focus first|(refine⟨?_,?_,trivial⟩<;>first|exact PLe.refl _|exact PLe.nil)|exact trivial);try conv=>whnf)|fail)
  exact⟨(),(by refine Wk.of ?_ ?_ rfl rfl rfl<;>repeat' (first|exact trivial|exact WkD.same _|exact WkO.same _ _ rfl|refine⟨?_,?_⟩|fail))⟩
 rintro⟨⟩
 refine⟨{ _x:Unit // (c != 0)=false∧badW m w=false∧badEv a e=false },fun _=>[(1,.pv (.int .i64 w)),(3,.pv (.int .i64 e)),(8,.ref 2 0),(11,.ref 3 0),(12,.pv (.sl (l.map pairPV)))],fun _=>4,fun _=>[(2,.var cells0),(3,.var (cellsM p))],?_,?_⟩
 ·(try conv=>whnf);repeat' (first|(apply And.intro<;>try conv=>whnf)|(intro h;try conv=>whnf)|apply True.intro|(apply WhenQ.mk;(try conv=>whnf);rotate_left;(try conv=>whnf);rotate_right)|with_reducible assumption|(apply not_of;with_reducible assumption)|fail)
  ·have h0:(c != 0)=true:=h
   rw[hR,h0];exact PLe.tups ⟨le_noMo,.refl _,.refl _,trivial⟩
  ·rename_i h0
   rw[hR,show (c != 0)=false from h0,show badW m w=true from h];exact PLe.tups ⟨le_noMo,.refl _,.refl _,trivial⟩
  ·rename_i h0 h1
   have h9:badEv a e=true:=by rw[badEv,← e1];exact h
   rw[hR,show (c != 0)=false from h0,show badW m w=false from h1,h9];exact PLe.tups ⟨le_noMo,.refl _,.refl _,trivial⟩
  ·rename_i h0 h1
   have h9:badEv a e=false:=by rw[badEv,← e1];exact h
   exact⟨⟨(),h0,h1,h9⟩,(by refine Wk.of ?_ ?_ rfl rfl rfl<;>repeat' (first|exact trivial|exact WkD.same _|exact WkO.same _ _ rfl|refine⟨?_,?_⟩|fail))⟩
 rintro⟨_,h0,h1,h2⟩
 rw[h0,h1,h2] at hR
 have hR:R=match l.findIdx? (isP w e) with|none=>(noMo,0,11)|some i=>(p,(i:Int),0):=hR
 rw[ixP] at hI
 cases hx:l.findIdx? (isP w e) with
 |none =>
  rw[hx] at hI hR
  have hI:PureFn Tryz.prog 64 [.sl (l.map pairPV),.agg [.int .i64 w,.int .i64 e]] (.int .i64 (-1)):=hI
  rw[hR]
  refine⟨Unit,fun _=>[(8,.ref 2 0),(11,.ref 3 0),(14,.pv (.int .i64 (-1)))],fun _=>4,fun _=>[(2,.var cells0),(3,.var (cellsM p))],?_,?_⟩
  ·(try conv=>whnf);repeat' (first|(refine PureFn.dcq (f:=64) rfl ?_;try conv=>whnf)|(refine⟨_,_,hI,?_,?_⟩;(focus first|(refine⟨?_,?_,trivial⟩<;>first|exact PLe.refl _|exact PLe.nil)|exact trivial);try conv=>whnf)|fail)
   exact⟨(),(by refine Wk.of ?_ ?_ rfl rfl rfl<;>repeat' (first|exact trivial|exact WkD.same _|exact WkO.same _ _ rfl|refine⟨?_,?_⟩|fail))⟩
  rintro⟨⟩
  (try conv=>whnf);repeat' (first|(apply And.intro<;>try conv=>whnf)|(intro h;try conv=>whnf)|fail)
  ·exact PLe.tups ⟨le_noMo,.refl _,.refl _,trivial⟩
  ·simp at h
 |some i =>
  rw[hx] at hI hR
  have hI:PureFn Tryz.prog 64 [.sl (l.map pairPV),.agg [.int .i64 w,.int .i64 e]] (.int .i64 (i:Nat)):=hI
  rw[hR]
  refine⟨Unit,fun _=>[(8,.ref 2 0),(11,.ref 3 0),(14,.pv (i64 i))],fun _=>4,fun _=>[(2,.var cells0),(3,.var (cellsM p))],?_,?_⟩
  ·(try conv=>whnf);repeat' (first|(refine PureFn.dcq (f:=64) rfl ?_;try conv=>whnf)|(refine⟨_,_,hI,?_,?_⟩;(focus first|(refine⟨?_,?_,trivial⟩<;>first|exact PLe.refl _|exact PLe.nil)|exact trivial);try conv=>whnf)|fail)
   exact⟨(),(by refine Wk.of ?_ ?_ rfl rfl rfl<;>repeat' (first|exact trivial|exact WkD.same _|exact WkO.same _ _ rfl|refine⟨?_,?_⟩|fail))⟩
  rintro⟨⟩
  (try conv=>whnf);repeat' (first|(apply And.intro<;>try conv=>whnf)|(intro h;try conv=>whnf)|fail)
  ·have:=of_decide_eq_true h
   omega
  ·exact .refl _
open Go.RowKit (Below)
def intsPV (l:List Nat):PV:=.sl (l.map i64)
def pullN (s:Nat) (ws:List Nat):Nat:=maskOf (fun i=>s.testBit (ws.getD i 0)) ws.length
theorem pull_step {q:Nat→Bool} {s w i:Nat} (hs:s<2^64) (hw:w<64) (hi:i<64) (hq:q i=s.testBit w):orU (maskOf q i:Nat) (shlU (andU (shrU (s:Nat) (w:Nat)) 1) (i:Nat))=((maskOf q (i+1):Nat):Int):=by
 rw[bit_and s w hs hw]
 cases h:s.testBit w with
 |true=>rw[if_pos rfl];exact or_shl hi (by rw[hq,h])
 |false =>
  rw[if_neg (by decide),← mask_no (q:=q) (w:=i) (by rw[hq,h]),show shlU 0 (i:Nat)=((0:Nat):Int) by show IntKind.wrap .u64 (0*_)=0;rw[Int.zero_mul];rfl,orU_nat (mask_lt64 q (by omega)) (by decide),Nat.or_zero]
def pubA (A:Nat) (f:List Nd):Act:=⟨[comp f],[[]],onesL A⟩
theorem pubA_act {A F:Nat} {f:List Nd} (hA:A≤4) (hF:F≤8) (hs:statI A F f=0):actI (pubA A f) A F=0:=by
 have hrl:(onesL A).length=A:=by simp[onesL]
 have hrb:rowsBad (onesL A) 1=false:=by
  rw[rowsBad,List.any_eq_false]
  intro r hr
  rw[List.eq_of_mem_replicate hr];simp
 have hbb:bitsBad (onesL A) 1=false:=by
  rw[bitsBad,List.any_eq_false]
  intro r hr
  rw[List.eq_of_mem_replicate hr];decide
 have hsh:shapeI (pubA A f) A=0:=by
  unfold shapeI pubA
  simp only[List.length_singleton,hrl,hrb,hbb]
  simp
 have hc:statI A F (comp f)=0:=by
  obtain⟨h1,h2⟩:=statM_iff.1 hs
  exact statM_iff.2 ⟨comp_check h1,by rw[comp_comp h1];exact h2⟩
 rw[actI,decide_eq_false (show ¬ (A:Int)<0 by omega),decide_eq_false (show ¬ (A:Int)>4 by omega),decide_eq_false (show ¬ (F:Int)<0 by omega),decide_eq_false (show ¬ (F:Int)>8 by omega),hsh]
 show evs' A F [comp f] [[]]=0
 rw[evs',hc];rfl
theorem orN_in {m:Nd→Nat}:∀ {c:List Nd} {y:Nd},y∈c→Sub (m y) (orN m c)
 |x::r,y,h=>by
  rw[orN_cons]
  intro i hi
  rw[Nat.testBit_or,Bool.or_eq_true]
  rcases List.mem_cons.1 h with rfl|h
  ·exact .inl hi
  ·exact .inr (orN_in h i hi)
def swT:Tr→Prop
 |.none=>True
 |.nd op _ _ _ a b=>(1≤op∧op≤13)∧(usesX op=true→a≠.none)∧(usesY op=true→b≠.none)∧swT a∧swT b
section
variable {s n:Nat} (hs:s<2^n)
end
section
variable {m:Mo} {n s:Nat} (hM:OkM m n) (hs:s<2^n) (h0:s≠0)
end
def frT (A F:Nat):Tr→Prop
 |.none=>True
 |.nd op i _ g a b=>(op=3→0≤i∧i.toNat<F)∧(isGroup op=true→1≤g∧g<shl64 1 (A:Int))∧op≠13∧frT A F a∧frT A F b
section
variable {m:Mo} {n:Nat} {a:Act} {l:List (Nat×Nat)}
structure Pr (m:Mo) (n:Nat) (a:Act) (l:List (Nat×Nat)):Prop where
 okm:OkM m n
 act:actI a m.rel.length m.val.length=0
 mem:∀ w e,(w,e)∈l↔w<n∧e<a.pre.length∧(possP m a e).testBit w=true
 pos:1≤l.length
 len:l.length≤64
end
theorem stat13 {op:Nat} (h:op<22) (hf:(frag (op:Int)).toNat<16):op≤13:=by
 have key:∀ op:Nat,op<22→(frag (op:Int)).toNat<16→op≤13:=by decide
 exact key op h hf
theorem shape_at {A F:Nat} {f:List Nd} (hf:Okl f) (hs:∀ x,x∈f→stM A F x.op x.i x.e x.g=true):∀ (n i:Nat),i<n→i<f.length→tree f i≠.none∧swT (tree f i)
 |0,i,h,_=>by omega
 |n+1,i,hn,hi=>by
  have hx:f[i]? = some f[i]:=List.getElem?_eq_getElem hi
  have hm:=hs _ (List.getElem_mem hi)
  generalize f[i]=x at hx hm
  have ok:=hf i x hx
  have h13:x.op≤13:=by
   obtain⟨⟨h1,_⟩,_⟩:=stM_iff.1 hm
   have ho:=ok.op
   have:=stat13 (op:=x.op.toNat) (by omega) (by rw[show ((x.op.toNat:Nat):Int)=x.op by omega];exact h1)
   omega
  rw[tree_nd hf hx]
  refine⟨(by intro e;cases e),⟨⟨ok.op.1,h13⟩,fun u => ?_,fun u => ?_,?_,?_⟩⟩
  ·rw[u];have:=ok.x u;exact (shape_at hf hs n x.x.toNat (by omega) (by omega)).1
  ·rw[u];have:=ok.y u;exact (shape_at hf hs n x.y.toNat (by omega) (by omega)).1
  ·cases hu:usesX x.op with
   |false=>trivial
   |true=>have:=ok.x hu;exact (shape_at hf hs n x.x.toNat (by omega) (by omega)).2
  ·cases hu:usesY x.op with
   |false=>trivial
   |true=>have:=ok.y hu;exact (shape_at hf hs n x.y.toNat (by omega) (by omega)).2
theorem shape_fr {A F:Nat} (hA:A≤4) {f:List Nd} (hf:Okl f) (hs:∀ x,x∈f→stM A F x.op x.i x.e x.g=true) (hc:∀ x,x∈f→x.op≠13):∀ (n i:Nat),i<n→i<f.length→frT A F (tree f i)
 |0,i,h,_=>by omega
 |n+1,i,hn,hi=>by
  have hx:f[i]? = some f[i]:=List.getElem?_eq_getElem hi
  have hm:=hs _ (List.getElem_mem hi)
  have h13:=hc _ (List.getElem_mem hi)
  generalize f[i]=x at hx hm h13
  have ok:=hf i x hx
  obtain⟨⟨_,h2⟩,h3⟩:=stM_iff.1 hm
  rw[tree_nd hf hx]
  refine⟨fun u => ?_,fun u => ?_,h13,?_,?_⟩
  ·refine⟨(ok.fact u).1,?_⟩
   have h3:factN x<2^F:=h3
   rw[factN,show (x.op==3)=true by simpa using u,cond_true] at h3
   exact (Nat.pow_lt_pow_iff_right (by decide:1<2)).1 h3
  ·have hg:=ok.group u
   have h2:agN x<2^A:=h2
   have hna:isAgent x.op=false:=by
    have:=ok.op
    have key:∀ n:Nat,n<22→isGroup (n:Int)=true→isAgent (n:Int)=false:=by decide
    have:=key x.op.toNat (by omega)
    rw[show ((x.op.toNat:Nat):Int)=x.op by omega] at this
    exact this u
   rw[agN,hna,cond_false] at h2
   rw[shl_n hA]
   exact⟨hg.1,by omega⟩
  ·cases hu:usesX x.op with
   |false=>trivial
   |true=>have:=ok.x hu;exact shape_fr hA hf hs hc n x.x.toNat (by omega) (by omega)
  ·cases hu:usesY x.op with
   |false=>trivial
   |true=>have:=ok.y hu;exact shape_fr hA hf hs hc n x.y.toNat (by omega) (by omega)
theorem can_nodes {A F:Nat} {z:List Nd} (hz:Can z) (ha:allT (rgQ (stM A F)) (root z)=true):∀ x,x∈z→stM A F x.op x.i x.e x.g=true:=fun x hx=>by
 rw[← hz.fix] at hx
 exact (rg_iff.1 (finT_all (Q:=rgQ (stM A F)) _ _ ha (by simp) x hx)).1
theorem can_sw {A F:Nat} {z:List Nd} (hz:Can z) (ha:allT (rgQ (stM A F)) (root z)=true):root z≠.none∧swT (root z):=by
 have:=hz.pos
 exact shape_at hz.ok (can_nodes hz ha) z.length (z.length-1) (by omega) (by omega)
theorem no_common {z:List Nd} (hz:Can z) (h:(and64 (frags z:Nat) 8 != 0)=false):∀ x,x∈z→x.op≠13:=fun x hx e=>by
 have hfr:frags z<2^62:=Nat.lt_of_lt_of_le (frags_lt z) (by decide)
 have h0:and64 (frags z:Nat) ((8:Nat):Int)=0:=by simpa using h
 rw[and64_nat hfr (by decide)] at h0
 have h0:frags z&&&8=0:=by omega
 have hin:Sub (fragN x) (frags z):=by
  unfold frags
  rw[can_comp hz]
  exact orN_in hx
 have h8:fragN x=8:=by rw[fragN,e];rfl
 have:(frags z).testBit 3=true:=hin 3 (by rw[h8];rfl)
 have h3:(frags z&&&8).testBit 3=true:=by rw[Nat.testBit_and,this];rfl
 rw[h0] at h3
 exact absurd h3 (by decide)
theorem can_fr {A F:Nat} (hA:A≤4) {z:List Nd} (hz:Can z) (ha:allT (rgQ (stM A F)) (root z)=true) (h:(and64 (frags z:Nat) 8 != 0)=false):frT A F (root z):=by
 have:=hz.pos
 exact shape_fr hA hz.ok (can_nodes hz ha) (no_common hz h) z.length (z.length-1) (by omega) (by omega)
theorem pub_ok {A:Int} {f:List Nd} (h:(pubI A f).2=0):∃ n:Nat,A=n∧n≤4∧statI A 8 f=0∧pubI A f=(pubA n f,0):=by
 have h1:badAg A=false:=by
  cases q:badAg A with
  |false=>rfl
  |true=>rw[pubI,q] at h;exact absurd (show (2:Int)=0 from h) (by decide)
 obtain⟨n,rfl,hn⟩:=badAg_no h1
 have h2:statI n 8 f=0:=by
  by_cases q:statI n 8 f=0
  ·exact q
  ·rw[pubI,h1,show (statI (n:Int) 8 f != 0)=true by simpa using q] at h
   exact absurd h q
 refine⟨n,rfl,hn,h2,?_⟩
 rw[pubI,h1,h2];rfl
theorem pubA_smA {A:Nat} {f:List Nd} (hA:A≤4):Fit (pubA A f)∧(pubA A f).rel.length≤1000∧∀ l,l∈(pubA A f).post→l.length≤1000:=by
 refine⟨fun r hr s hs => ?_,by simp[pubA,onesL];omega,by simp[pubA]⟩
 rw[List.eq_of_mem_replicate (show r∈onesL A from hr)] at hs
 rw[List.mem_singleton.1 hs];decide
set_option maxHeartbeats 8000000
theorem smX_of {a:Act} (h:Fit a∧a.rel.length≤1000∧∀ l,l∈a.post→l.length≤1000):SmX a:=⟨h.1,h.2.1,h.2.2⟩
set_option maxHeartbeats 4000000
def isF (f:List Nd) (op:Int):Bool:=match f with
 | [x]=>x.op==op
 |_=>false
theorem le_fpv {a b:List Nd} (h:a=b):PLe (.sl (a.map Nd.pv)) (fpv b):=by rw[h];exact .refl _
theorem le_ct {α:Type} {c:Bool} {X a b:α} (h:c=true) (g:X=a):X=bif c then a else b:=by rw[g,h];rfl
theorem le_cf {α:Type} {c:Bool} {X a b:α} (h:c=false) (g:X=b):X=bif c then a else b:=by rw[g,h];rfl
def strI (f:List Nd):List Nd×Bool:=match f[f.length-1]? with
 |some x=>bif x.op != 4 then ([],false) else (sub f x.x,true)
 |none=>([],false)
def strPV (x:List Nd×Bool):PV:=.tup [fpv x.1,.bool x.2]
def negI (f:List Nd):List Nd:=bif (strI f).2 then (strI f).1 else buildL (n0 4) [f]
def oppI (a b:List Nd):Bool:=bif (bif (strI a).2 then decide ((strI a).1=b) else false) then true else bif (strI b).2 then decide ((strI b).1=a) else false
theorem str_len {f:List Nd}:(strI f).1.length≤200:=by
 unfold strI
 cases f[f.length-1]? with
 |none=>simp
 |some x =>
  simp only
  cases (x.op != 4) with
  |true=>simp
  |false=>exact sub_len f x.x
def jntI (x:Nd) (a b:List Nd) (nt dm:Int):List Nd :=
 bif (bif (bif isF a dm then true else isF b dm) then true else (bif (bif oppI a b then !isF a nt else false) then !isF b nt else false)) then apN (n0 dm) [] []
 else bif isF a nt then b else bif (bif isF b nt then true else decide (a=b)) then a else apN x a b
def cndI (a b:List Nd):List Nd:=bif (bif (bif isF a 2 then true else isF b 1) then true else decide (a=b)) then buildL (n0 1) [] else bif isF a 1 then b else bif isF b 2 then negI a else buildL (n0 7) [a,b]
def eqvI (a b:List Nd):List Nd:=bif decide (a=b) then buildL (n0 1) [] else bif oppI a b then buildL (n0 2) [] else bif isF a 1 then b else bif isF b 1 then a else bif isF a 2 then negI b else bif isF b 2 then negI a else buildL (n0 8) [a,b]
def smpI (x:Nd) (a b:List Nd):List Nd :=
 bif x.op==4 then (bif isF a 1 then buildL (n0 2) [] else bif isF a 2 then buildL (n0 1) [] else negI a)
 else bif x.op==5 then jntI x a b 1 2 else bif x.op==6 then jntI x a b 2 1 else bif x.op==7 then cndI a b else bif x.op==8 then eqvI a b
 else bif (bif x.op==10 then isF a 2 else false) then buildL (n0 2) []
 else bif (bif x.op==13 then (bif isF a 2 then true else isF b 1) else false) then buildL (n0 1) []
 else bif (bif (bif (bif x.op==9 then true else x.op==11) then true else x.op==12) then isF a 1 else false) then buildL (n0 1) [] else apN x a b
def binB (op:Int):Bool:=bif op==5 then true else bif op==6 then true else bif op==7 then true else bif op==8 then true else bif op==13 then true else bif op==14 then true else bif op==16 then true else bif op==19 then true else op==21
theorem rw_is (f:List Nd) (op:Int):PureFn Tryz.prog 178 [fpv f,.int .i64 op] (.bool (isF f op)):=by
 refine PureFn.intro mixed (fn:=Tryz.f178) rfl rfl rfl fun M w0 => ?_
 match f with
 | [] =>
  have f1:(((([]:List Nd).map Nd.pv).length:Int)==1)=false:=rfl
  (try conv=>whnf);repeat' (first|(apply And.intro<;>try conv=>whnf)|(intro h;first|with_reducible exact tf h (by assumption)|try conv=>whnf)|(apply whenOff;(focus with_reducible assumption);try conv=>whnf)|fail)
  exact le_bool rfl
 | [x] =>
  (try conv=>whnf);repeat' (first|(apply And.intro<;>try conv=>whnf)|(intro h;try conv=>whnf)|apply True.intro|(apply infoT;rfl)|(apply WhenQ.mk;(try conv=>whnf);rotate_left;(try conv=>whnf);rotate_right)|with_reducible assumption|(refine⟨0,_,rfl,rfl,rfl,?_⟩;try conv=>whnf)|fail)
  exact le_bool rfl
 |x::y::r =>
  have f1:((((x::y::r).map Nd.pv).length:Int)==1)=false:=by simp;omega
  (try conv=>whnf);repeat' (first|(apply And.intro<;>try conv=>whnf)|(intro h;first|with_reducible exact tf h (by assumption)|try conv=>whnf)|(apply whenOff;(focus with_reducible assumption);try conv=>whnf)|fail)
  refine le_bool ?_
  rw[f1];rfl
theorem rw_stripped (f:List Nd) (h0:f≠[]) (hl:f.length≤1000000):PureFn Tryz.prog 206 [fpv f] (strPV (strI f)):=by
 have hpos:0<f.length:=List.length_pos_iff.2 h0
 obtain⟨x,hx⟩:∃ x,f[f.length-1]? = some x:=⟨_,List.getElem?_eq_getElem (by omega)⟩
 have hS:=fm_Sub f x.x
 have hI:strI f=bif x.op != 4 then ([],false) else (sub f x.x,true):=by rw[strI,hx]
 rw[hI]
 have hix:=idx_map (g:=Nd.pv) hx
 have hw:IntKind.wrap .i64 (((f.map Nd.pv).length:Int)-1)=((f.length-1:Nat):Int):=by
  rw[List.length_map,Go.Dv.wrap_small (by omega) (by omega)];omega
 refine PureFn.intro mixed (fn:=Tryz.f206) rfl rfl rfl fun M w0 => ?_
 (try conv=>whnf);repeat' (first|(apply And.intro<;>try conv=>whnf)|(apply infoT;rfl)|fail)
 refine⟨_,_,hw,hix,rfl,?_⟩
 (try conv=>whnf);repeat' (first|(apply And.intro<;>try conv=>whnf)|(intro h;try conv=>whnf)|(refine PureFn.dcq (f:=109) rfl ?_;try conv=>whnf)|(refine⟨_,_,hS,?_,?_⟩;(focus first|(refine⟨?_,?_,trivial⟩<;>first|exact PLe.refl _|exact PLe.nil)|exact trivial);try conv=>whnf)|fail)
 ·rw[show (x.op != 4)=true from h]
  exact PLe.tups ⟨.nil,.refl _,trivial⟩
 ·rw[show (x.op != 4)=false from h]
  exact .refl _
theorem rw_negate (f:List Nd) (h0:f≠[]) (hl:f.length≤1000000):PureFn Tryz.prog 179 [fpv f] (fpv (negI f)):=by
 have hS:=rw_stripped f h0 hl
 have hN:=fm_Not f
 unfold negI
 generalize strI f=X at hS
 obtain⟨g,b⟩:=X
 refine PureFn.intro mixed (fn:=Tryz.f179) rfl rfl rfl fun M w0 => ?_
 (try conv=>whnf);repeat' (first|(apply And.intro<;>try conv=>whnf)|(intro h;try conv=>whnf)|(refine PureFn.dcq (f:=206) rfl ?_;try conv=>whnf)|(refine PureFn.dcq (f:=37) rfl ?_;try conv=>whnf)|(refine⟨_,_,hS,?_,?_⟩;(focus first|(refine⟨?_,trivial⟩<;>first|exact PLe.refl _|exact PLe.nil)|exact trivial);try conv=>whnf)|(refine⟨_,_,hN,?_,?_⟩;(focus first|(refine⟨?_,trivial⟩<;>first|exact PLe.refl _|exact PLe.nil)|exact trivial);try conv=>whnf)|fail)
 ·rw[show b=true from h];exact .refl _
 ·rw[show b=false from h];exact .refl _
theorem rw_build (x:Nd) (X Y:List Nd) (hx:1≤x.op∧x.op≤13):PureFn Tryz.prog 183 [x.pv,fpv X,fpv Y] (fpv (apN x X Y)):=by
 obtain⟨z,hz⟩:∃ z,apN x X Y=z:=⟨_,rfl⟩
 rw[hz]
 unfold apN at hz
 have e1:x.op=1→buildL (n0 1) []=z:=fun e=>by rw[← hz,e];exact build_one _
 have e2:x.op=2→buildL (n0 2) []=z:=fun e=>by rw[← hz,e];exact build_one _
 have e3:x.op=3→buildL (nI 3 x.i) []=z:=fun e=>by rw[← hz,e];exact build_one _
 have e4:x.op=4→buildL (n0 4) [X]=z:=fun e=>by rw[← hz,e];exact build_un _ _ rfl rfl rfl
 have e5:x.op=5→buildL (n0 5) [X,Y]=z:=fun e=>by rw[← hz,e];exact build_bin _ _ _ rfl rfl
 have e6:x.op=6→buildL (n0 6) [X,Y]=z:=fun e=>by rw[← hz,e];exact build_bin _ _ _ rfl rfl
 have e7:x.op=7→buildL (n0 7) [X,Y]=z:=fun e=>by rw[← hz,e];exact build_bin _ _ _ rfl rfl
 have e8:x.op=8→buildL (n0 8) [X,Y]=z:=fun e=>by rw[← hz,e];exact build_bin _ _ _ rfl rfl
 have e9:x.op=9→buildL (nI 9 x.i) [X]=z:=fun e=>by rw[← hz,e];exact build_un _ _ rfl rfl rfl
 have e10:x.op=10→buildL (nI 10 x.i) [X]=z:=fun e=>by rw[← hz,e];exact build_un _ _ rfl rfl rfl
 have e11:x.op=11→buildL (nG 11 x.g) [X]=z:=fun e=>by rw[← hz,e];exact build_un _ _ rfl rfl rfl
 have e12:x.op=12→buildL (nG 12 x.g) [X]=z:=fun e=>by rw[← hz,e];exact build_un _ _ rfl rfl rfl
 have e13:x.op=13→buildL (nG 13 x.g) [X,Y]=z:=fun e=>by rw[← hz,e];exact build_bin _ _ _ rfl rfl
 have d1:=fun e=>e1 e▸fm_True
 have d2:=fun e=>e2 e▸fm_False
 have d3:=fun e=>e3 e▸fm_Fact x.i
 have d4:=fun e=>e4 e▸fm_Not X
 have d5:=fun e=>e5 e▸fm_And X Y
 have d6:=fun e=>e6 e▸fm_Or X Y
 have d7:=fun e=>e7 e▸fm_Imp X Y
 have d8:=fun e=>e8 e▸fm_Iff X Y
 have d9:=fun e=>e9 e▸fm_Know x.i X
 have d10:=fun e=>e10 e▸fm_Poss x.i X
 have d11:=fun e=>e11 e▸fm_Every x.g X
 have d12:=fun e=>e12 e▸fm_Dist x.g X
 have d13:=fun e=>e13 e▸fm_Common x.g X Y
 clear e1 e2 e3 e4 e5 e6 e7 e8 e9 e10 e11 e12 e13 hz
 have no:∀ k:Int,13<k→(x.op==k)=false:=fun k hk=>by simp;omega
 have n14:=no 14 (by decide)
 have n15:=no 15 (by decide)
 have n16:=no 16 (by decide)
 have n17:=no 17 (by decide)
 have n18:=no 18 (by decide)
 have n19:=no 19 (by decide)
 have n20:=no 20 (by decide)
 have n21:=no 21 (by decide)
 refine PureFn.intro mixed (fn:=Tryz.f183) rfl rfl rfl fun M w0 => ?_
 (try conv=>whnf);repeat' (first|(apply And.intro<;>try conv=>whnf)|(intro h;first|with_reducible exact tf h (by assumption)|try conv=>whnf)|(refine PureFn.dcq (f:=36) rfl ?_;try conv=>whnf)|(refine PureFn.dcq (f:=53) rfl ?_;try conv=>whnf)|(refine PureFn.dcq (f:=83) rfl ?_;try conv=>whnf)|(refine PureFn.dcq (f:=37) rfl ?_;try conv=>whnf)|(refine PureFn.dcq (f:=32) rfl ?_;try conv=>whnf)|(refine PureFn.dcq (f:=186) rfl ?_;try conv=>whnf)|(refine PureFn.dcq (f:=34) rfl ?_;try conv=>whnf)|(refine PureFn.dcq (f:=187) rfl ?_;try conv=>whnf)|(refine PureFn.dcq (f:=188) rfl ?_;try conv=>whnf)|(refine PureFn.dcq (f:=153) rfl ?_;try conv=>whnf)|(refine PureFn.dcq (f:=189) rfl ?_;try conv=>whnf)|(refine PureFn.dcq (f:=190) rfl ?_;try conv=>whnf)|(refine PureFn.dcq (f:=154) rfl ?_;try conv=>whnf)|(refine⟨_,_,d1 ?_,?_,?_⟩;rotate_left 1;(focus first|(refine⟨trivial⟩<;>first|exact PLe.refl _|exact PLe.nil)|exact trivial);try conv=>whnf)|(refine⟨_,_,d2 ?_,?_,?_⟩;rotate_left 1;(focus first|(refine⟨trivial⟩<;>first|exact PLe.refl _|exact PLe.nil)|exact trivial);try conv=>whnf)|(refine⟨_,_,d3 ?_,?_,?_⟩;rotate_left 1;(focus first|(refine⟨?_,trivial⟩<;>first|exact PLe.refl _|exact PLe.nil)|exact trivial);try conv=>whnf)|(refine⟨_,_,d4 ?_,?_,?_⟩;rotate_left 1;(focus first|(refine⟨?_,trivial⟩<;>first|exact PLe.refl _|exact PLe.nil)|exact trivial);try conv=>whnf)|(refine⟨_,_,d5 ?_,?_,?_⟩;rotate_left 1;(focus first|(refine⟨?_,?_,trivial⟩<;>first|exact PLe.refl _|exact PLe.nil)|exact trivial);try conv=>whnf)|(refine⟨_,_,d6 ?_,?_,?_⟩;rotate_left 1;(focus first|(refine⟨?_,?_,trivial⟩<;>first|exact PLe.refl _|exact PLe.nil)|exact trivial);try conv=>whnf)|(refine⟨_,_,d7 ?_,?_,?_⟩;rotate_left 1;(focus first|(refine⟨?_,?_,trivial⟩<;>first|exact PLe.refl _|exact PLe.nil)|exact trivial);try conv=>whnf)|(refine⟨_,_,d8 ?_,?_,?_⟩;rotate_left 1;(focus first|(refine⟨?_,?_,trivial⟩<;>first|exact PLe.refl _|exact PLe.nil)|exact trivial);try conv=>whnf)|(refine⟨_,_,d9 ?_,?_,?_⟩;rotate_left 1;(focus first|(refine⟨?_,?_,trivial⟩<;>first|exact PLe.refl _|exact PLe.nil)|exact trivial);try conv=>whnf)|(refine⟨_,_,d10 ?_,?_,?_⟩;rotate_left 1;(focus first|(refine⟨?_,?_,trivial⟩<;>first|exact PLe.refl _|exact PLe.nil)|exact trivial);try conv=>whnf)|(refine⟨_,_,d11 ?_,?_,?_⟩;rotate_left 1;(focus first|(refine⟨?_,?_,trivial⟩<;>first|exact PLe.refl _|exact PLe.nil)|exact trivial);try conv=>whnf)|(refine⟨_,_,d12 ?_,?_,?_⟩;rotate_left 1;(focus first|(refine⟨?_,?_,trivial⟩<;>first|exact PLe.refl _|exact PLe.nil)|exact trivial);try conv=>whnf)|(refine⟨_,_,d13 ?_,?_,?_⟩;rotate_left 1;(focus first|(refine⟨?_,?_,?_,trivial⟩<;>first|exact PLe.refl _|exact PLe.nil)|exact trivial);try conv=>whnf)|fail)
 all_goals first
  |exact .refl _
  |exact eq_of_beq (by with_reducible assumption)
  |(simp only[beq_eq_false_iff_ne,ne_eq] at *;omega)
theorem rw_binary (op:Int):PureFn Tryz.prog 177 [.int .i64 op] (.bool (binB op)):=by
 unfold binB
 refine PureFn.intro mixed (fn:=Tryz.f177) rfl rfl rfl fun M w0 => ?_
 (try conv=>whnf);repeat' (first|(apply And.intro<;>try conv=>whnf)|(intro h;first|with_reducible exact tf (by assumption) h|try conv=>whnf)|fail)
 all_goals (refine le_bool ?_;simp only[*,cond_true,cond_false])
theorem rw_opposite (a b:List Nd) (ha:a≠[]) (hb:b≠[]) (la:a.length≤1000000) (lb:b.length≤1000000):PureFn Tryz.prog 207 [fpv a,fpv b] (.bool (oppI a b)):=by
 have hA:=rw_stripped a ha la
 have hB:=rw_stripped b hb lb
 have hE1:=sl_Equal (strI a).1 b (by have:=str_len (f:=a);omega)
 have hE2:=sl_Equal (strI b).1 a (by have:=str_len (f:=b);omega)
 unfold oppI
 generalize strI a=X at hA hE1
 generalize strI b=Y at hB hE2
 obtain⟨g,p⟩:=X
 obtain⟨h',q⟩:=Y
 refine PureFn.intro mixed (fn:=Tryz.f207) rfl rfl rfl fun M w0 => ?_
 (try conv=>whnf);repeat' (first|(apply And.intro<;>try conv=>whnf)|(intro h;try conv=>whnf)|apply True.intro|(apply WhenQ.mk;(try conv=>whnf);rotate_left;(try conv=>whnf);rotate_right)|with_reducible assumption|(refine PureFn.dcq (f:=206) rfl ?_;try conv=>whnf)|(refine PureFn.dcq (f:=90) rfl ?_;try conv=>whnf)|(refine⟨_,_,hA,?_,?_⟩;(focus first|(refine⟨?_,trivial⟩<;>first|exact PLe.refl _|exact PLe.nil)|exact trivial);try conv=>whnf)|(refine⟨_,_,hE1,?_,?_⟩;(focus first|(refine⟨?_,?_,trivial⟩<;>first|exact PLe.refl _|exact PLe.nil)|exact trivial);try conv=>whnf)|(refine⟨_,_,hB,?_,?_⟩;(focus first|(refine⟨?_,trivial⟩<;>first|exact PLe.refl _|exact PLe.nil)|exact trivial);try conv=>whnf)|(refine⟨_,_,hE2,?_,?_⟩;(focus first|(refine⟨?_,?_,trivial⟩<;>first|exact PLe.refl _|exact PLe.nil)|exact trivial);try conv=>whnf)|fail)
 all_goals (refine le_bool ?_;simp only[*,cond_true,cond_false])
theorem rw_joint (x:Nd) (a b:List Nd) (nt dm:Int) (hx:1≤x.op∧x.op≤13) (hd:1≤dm∧dm≤13) (ha:a≠[]) (hb:b≠[]) (la:a.length≤1000000) (lb:b.length≤1000000):PureFn Tryz.prog 180 [x.pv,fpv a,fpv b,.int .i64 nt,.int .i64 dm] (fpv (jntI x a b nt dm)):=by
 have hO:=rw_opposite a b ha hb la lb
 have hE:=sl_Equal a b la
 have hB:=rw_build x a b hx
 have hD:=rw_build (n0 dm) [] [] hd
 unfold jntI
 refine PureFn.intro mixed (fn:=Tryz.f180) rfl rfl rfl fun M w0 => ?_
 (try conv=>whnf);repeat' (first|(apply And.intro<;>try conv=>whnf)|(intro h;try conv=>whnf)|apply True.intro|(apply WhenQ.mk;(try conv=>whnf);rotate_left;(try conv=>whnf);rotate_right)|with_reducible assumption|(apply not_of;with_reducible assumption)|(apply and_of<;>first|with_reducible assumption|(apply not_of;with_reducible assumption))|(refine PureFn.dcq (f:=178) rfl ?_;try conv=>whnf)|(refine PureFn.dcq (f:=207) rfl ?_;try conv=>whnf)|(refine PureFn.dcq (f:=90) rfl ?_;try conv=>whnf)|(refine PureFn.dcq (f:=183) rfl ?_;try conv=>whnf)|(refine⟨_,_,rw_is ?_ ?_,?_,?_⟩;rotate_left 2;(focus first|(refine⟨?_,?_,trivial⟩<;>first|exact PLe.refl _|exact PLe.nil)|exact trivial);try conv=>whnf)|(refine⟨_,_,hO,?_,?_⟩;(focus first|(refine⟨?_,?_,trivial⟩<;>first|exact PLe.refl _|exact PLe.nil)|exact trivial);try conv=>whnf)|(refine⟨_,_,hE,?_,?_⟩;(focus first|(refine⟨?_,?_,trivial⟩<;>first|exact PLe.refl _|exact PLe.nil)|exact trivial);try conv=>whnf)|(refine⟨_,_,hB,?_,?_⟩;(focus first|(refine⟨?_,?_,?_,trivial⟩<;>first|exact PLe.refl _|exact PLe.nil)|exact trivial);try conv=>whnf)|(refine⟨_,_,hD,?_,?_⟩;(focus first|(refine⟨?_,?_,?_,trivial⟩<;>first|exact PLe.refl _|exact PLe.nil)|exact trivial);try conv=>whnf)|fail)
 all_goals (refine le_fpv ?_;repeat (first|(refine le_ct ?_ ?_;focus (with_reducible assumption))|(refine le_cf ?_ ?_;focus (with_reducible assumption))|rfl|fail))
theorem rw_conditional (a b:List Nd) (ha:a≠[]) (la:a.length≤1000000):PureFn Tryz.prog 181 [fpv a,fpv b] (fpv (cndI a b)):=by
 have hE:=sl_Equal a b la
 have hN:=rw_negate a ha la
 have hI:=fm_Imp a b
 unfold cndI
 refine PureFn.intro mixed (fn:=Tryz.f181) rfl rfl rfl fun M w0 => ?_
 (try conv=>whnf);repeat' (first|(apply And.intro<;>try conv=>whnf)|(intro h;try conv=>whnf)|apply True.intro|(apply WhenQ.mk;(try conv=>whnf);rotate_left;(try conv=>whnf);rotate_right)|with_reducible assumption|(apply not_of;with_reducible assumption)|(refine PureFn.dcq (f:=178) rfl ?_;try conv=>whnf)|(refine PureFn.dcq (f:=90) rfl ?_;try conv=>whnf)|(refine PureFn.dcq (f:=179) rfl ?_;try conv=>whnf)|(refine PureFn.dcq (f:=34) rfl ?_;try conv=>whnf)|(refine PureFn.dcq (f:=36) rfl ?_;try conv=>whnf)|(refine⟨_,_,rw_is ?_ ?_,?_,?_⟩;rotate_left 2;(focus first|(refine⟨?_,?_,trivial⟩<;>first|exact PLe.refl _|exact PLe.nil)|exact trivial);try conv=>whnf)|(refine⟨_,_,hE,?_,?_⟩;(focus first|(refine⟨?_,?_,trivial⟩<;>first|exact PLe.refl _|exact PLe.nil)|exact trivial);try conv=>whnf)|(refine⟨_,_,hN,?_,?_⟩;(focus first|(refine⟨?_,trivial⟩<;>first|exact PLe.refl _|exact PLe.nil)|exact trivial);try conv=>whnf)|(refine⟨_,_,hI,?_,?_⟩;(focus first|(refine⟨?_,?_,trivial⟩<;>first|exact PLe.refl _|exact PLe.nil)|exact trivial);try conv=>whnf)|(refine⟨_,_,fm_True,?_,?_⟩;(focus first|(refine⟨trivial⟩<;>first|exact PLe.refl _|exact PLe.nil)|exact trivial);try conv=>whnf)|fail)
 all_goals (refine le_fpv ?_;simp only[*,cond_true,cond_false,Bool.not_true,Bool.not_false])
theorem rw_equivalence (a b:List Nd) (ha:a≠[]) (hb:b≠[]) (la:a.length≤1000000) (lb:b.length≤1000000):PureFn Tryz.prog 182 [fpv a,fpv b] (fpv (eqvI a b)):=by
 have hE:=sl_Equal a b la
 have hO:=rw_opposite a b ha hb la lb
 have hN:=rw_negate a ha la
 have hN2:=rw_negate b hb lb
 have hI:=fm_Iff a b
 unfold eqvI
 refine PureFn.intro mixed (fn:=Tryz.f182) rfl rfl rfl fun M w0 => ?_
 (try conv=>whnf);repeat' (first|(apply And.intro<;>try conv=>whnf)|(intro h;try conv=>whnf)|(refine PureFn.dcq (f:=178) rfl ?_;try conv=>whnf)|(refine PureFn.dcq (f:=90) rfl ?_;try conv=>whnf)|(refine PureFn.dcq (f:=207) rfl ?_;try conv=>whnf)|(refine PureFn.dcq (f:=179) rfl ?_;try conv=>whnf)|(refine PureFn.dcq (f:=187) rfl ?_;try conv=>whnf)|(refine PureFn.dcq (f:=36) rfl ?_;try conv=>whnf)|(refine PureFn.dcq (f:=53) rfl ?_;try conv=>whnf)|(refine⟨_,_,rw_is ?_ ?_,?_,?_⟩;rotate_left 2;(focus first|(refine⟨?_,?_,trivial⟩<;>first|exact PLe.refl _|exact PLe.nil)|exact trivial);try conv=>whnf)|(refine⟨_,_,hE,?_,?_⟩;(focus first|(refine⟨?_,?_,trivial⟩<;>first|exact PLe.refl _|exact PLe.nil)|exact trivial);try conv=>whnf)|(refine⟨_,_,hO,?_,?_⟩;(focus first|(refine⟨?_,?_,trivial⟩<;>first|exact PLe.refl _|exact PLe.nil)|exact trivial);try conv=>whnf)|(refine⟨_,_,hN,?_,?_⟩;(focus first|(refine⟨?_,trivial⟩<;>first|exact PLe.refl _|exact PLe.nil)|exact trivial);try conv=>whnf)|(refine⟨_,_,hN2,?_,?_⟩;(focus first|(refine⟨?_,trivial⟩<;>first|exact PLe.refl _|exact PLe.nil)|exact trivial);try conv=>whnf)|(refine⟨_,_,hI,?_,?_⟩;(focus first|(refine⟨?_,?_,trivial⟩<;>first|exact PLe.refl _|exact PLe.nil)|exact trivial);try conv=>whnf)|(refine⟨_,_,fm_True,?_,?_⟩;(focus first|(refine⟨trivial⟩<;>first|exact PLe.refl _|exact PLe.nil)|exact trivial);try conv=>whnf)|(refine⟨_,_,fm_False,?_,?_⟩;(focus first|(refine⟨trivial⟩<;>first|exact PLe.refl _|exact PLe.nil)|exact trivial);try conv=>whnf)|fail)
 all_goals (refine le_fpv ?_;simp only[*,cond_true,cond_false,Bool.not_true,Bool.not_false])
theorem rw_simple_1 (x:Nd) (a b:List Nd) (hx:x.op=1) (_ha:usesX 1=true→a≠[]) (_hb:usesY 1=true→b≠[]) (_la:a.length≤1000000) (_lb:b.length≤1000000):PureFn Tryz.prog 142 [x.pv,fpv a,fpv b] (fpv (smpI x a b)):=by
 have hB:=rw_build x a b (by rw[hx];decide)
 skip
 have q4:(x.op==4)=decide (((1:Nat))=4):=by rw[hx];rfl
 have q5:(x.op==5)=decide (((1:Nat))=5):=by rw[hx];rfl
 have q6:(x.op==6)=decide (((1:Nat))=6):=by rw[hx];rfl
 have q7:(x.op==7)=decide (((1:Nat))=7):=by rw[hx];rfl
 have q8:(x.op==8)=decide (((1:Nat))=8):=by rw[hx];rfl
 have q9:(x.op==9)=decide (((1:Nat))=9):=by rw[hx];rfl
 have q10:(x.op==10)=decide (((1:Nat))=10):=by rw[hx];rfl
 have q11:(x.op==11)=decide (((1:Nat))=11):=by rw[hx];rfl
 have q12:(x.op==12)=decide (((1:Nat))=12):=by rw[hx];rfl
 have q13:(x.op==13)=decide (((1:Nat))=13):=by rw[hx];rfl
 have q14:(x.op==14)=decide (((1:Nat))=14):=by rw[hx];rfl
 have q15:(x.op==15)=decide (((1:Nat))=15):=by rw[hx];rfl
 have q16:(x.op==16)=decide (((1:Nat))=16):=by rw[hx];rfl
 have q17:(x.op==17)=decide (((1:Nat))=17):=by rw[hx];rfl
 simp only[Nat.reduceEqDiff,decide_true,decide_false] at q4 q5 q6 q7 q8 q9 q10 q11 q12 q13 q14 q15 q16 q17
 clear hx _ha _hb _la _lb
 refine PureFn.intro mixed (fn:=Tryz.f142) rfl rfl rfl fun M w0 => ?_
 (try conv=>whnf);repeat' (first|(apply And.intro<;>try conv=>whnf)|(intro h;first|with_reducible exact tf h (by assumption)|try conv=>whnf)|(refine PureFn.dcq (f:=183) rfl ?_;try conv=>whnf)|(refine⟨_,_,hB,?_,?_⟩;(focus first|(refine⟨?_,?_,?_,trivial⟩<;>first|exact PLe.refl _|exact PLe.nil)|exact trivial);try conv=>whnf)|fail)
 all_goals (refine le_fpv ?_;simp only[smpI, *,cond_true,cond_false])
theorem rw_simple_2 (x:Nd) (a b:List Nd) (hx:x.op=2) (_ha:usesX 2=true→a≠[]) (_hb:usesY 2=true→b≠[]) (_la:a.length≤1000000) (_lb:b.length≤1000000):PureFn Tryz.prog 142 [x.pv,fpv a,fpv b] (fpv (smpI x a b)):=by
 have hB:=rw_build x a b (by rw[hx];decide)
 skip
 have q4:(x.op==4)=decide (((2:Nat))=4):=by rw[hx];rfl
 have q5:(x.op==5)=decide (((2:Nat))=5):=by rw[hx];rfl
 have q6:(x.op==6)=decide (((2:Nat))=6):=by rw[hx];rfl
 have q7:(x.op==7)=decide (((2:Nat))=7):=by rw[hx];rfl
 have q8:(x.op==8)=decide (((2:Nat))=8):=by rw[hx];rfl
 have q9:(x.op==9)=decide (((2:Nat))=9):=by rw[hx];rfl
 have q10:(x.op==10)=decide (((2:Nat))=10):=by rw[hx];rfl
 have q11:(x.op==11)=decide (((2:Nat))=11):=by rw[hx];rfl
 have q12:(x.op==12)=decide (((2:Nat))=12):=by rw[hx];rfl
 have q13:(x.op==13)=decide (((2:Nat))=13):=by rw[hx];rfl
 have q14:(x.op==14)=decide (((2:Nat))=14):=by rw[hx];rfl
 have q15:(x.op==15)=decide (((2:Nat))=15):=by rw[hx];rfl
 have q16:(x.op==16)=decide (((2:Nat))=16):=by rw[hx];rfl
 have q17:(x.op==17)=decide (((2:Nat))=17):=by rw[hx];rfl
 simp only[Nat.reduceEqDiff,decide_true,decide_false] at q4 q5 q6 q7 q8 q9 q10 q11 q12 q13 q14 q15 q16 q17
 clear hx _ha _hb _la _lb
 refine PureFn.intro mixed (fn:=Tryz.f142) rfl rfl rfl fun M w0 => ?_
 (try conv=>whnf);repeat' (first|(apply And.intro<;>try conv=>whnf)|(intro h;first|with_reducible exact tf h (by assumption)|try conv=>whnf)|(refine PureFn.dcq (f:=183) rfl ?_;try conv=>whnf)|(refine⟨_,_,hB,?_,?_⟩;(focus first|(refine⟨?_,?_,?_,trivial⟩<;>first|exact PLe.refl _|exact PLe.nil)|exact trivial);try conv=>whnf)|fail)
 all_goals (refine le_fpv ?_;simp only[smpI, *,cond_true,cond_false])
theorem rw_simple_3 (x:Nd) (a b:List Nd) (hx:x.op=3) (_ha:usesX 3=true→a≠[]) (_hb:usesY 3=true→b≠[]) (_la:a.length≤1000000) (_lb:b.length≤1000000):PureFn Tryz.prog 142 [x.pv,fpv a,fpv b] (fpv (smpI x a b)):=by
 have hB:=rw_build x a b (by rw[hx];decide)
 skip
 have q4:(x.op==4)=decide (((3:Nat))=4):=by rw[hx];rfl
 have q5:(x.op==5)=decide (((3:Nat))=5):=by rw[hx];rfl
 have q6:(x.op==6)=decide (((3:Nat))=6):=by rw[hx];rfl
 have q7:(x.op==7)=decide (((3:Nat))=7):=by rw[hx];rfl
 have q8:(x.op==8)=decide (((3:Nat))=8):=by rw[hx];rfl
 have q9:(x.op==9)=decide (((3:Nat))=9):=by rw[hx];rfl
 have q10:(x.op==10)=decide (((3:Nat))=10):=by rw[hx];rfl
 have q11:(x.op==11)=decide (((3:Nat))=11):=by rw[hx];rfl
 have q12:(x.op==12)=decide (((3:Nat))=12):=by rw[hx];rfl
 have q13:(x.op==13)=decide (((3:Nat))=13):=by rw[hx];rfl
 have q14:(x.op==14)=decide (((3:Nat))=14):=by rw[hx];rfl
 have q15:(x.op==15)=decide (((3:Nat))=15):=by rw[hx];rfl
 have q16:(x.op==16)=decide (((3:Nat))=16):=by rw[hx];rfl
 have q17:(x.op==17)=decide (((3:Nat))=17):=by rw[hx];rfl
 simp only[Nat.reduceEqDiff,decide_true,decide_false] at q4 q5 q6 q7 q8 q9 q10 q11 q12 q13 q14 q15 q16 q17
 clear hx _ha _hb _la _lb
 refine PureFn.intro mixed (fn:=Tryz.f142) rfl rfl rfl fun M w0 => ?_
 (try conv=>whnf);repeat' (first|(apply And.intro<;>try conv=>whnf)|(intro h;first|with_reducible exact tf h (by assumption)|try conv=>whnf)|(refine PureFn.dcq (f:=183) rfl ?_;try conv=>whnf)|(refine⟨_,_,hB,?_,?_⟩;(focus first|(refine⟨?_,?_,?_,trivial⟩<;>first|exact PLe.refl _|exact PLe.nil)|exact trivial);try conv=>whnf)|fail)
 all_goals (refine le_fpv ?_;simp only[smpI, *,cond_true,cond_false])
theorem rw_simple_4 (x:Nd) (a b:List Nd) (hx:x.op=4) (_ha:usesX 4=true→a≠[]) (_hb:usesY 4=true→b≠[]) (_la:a.length≤1000000) (_lb:b.length≤1000000):PureFn Tryz.prog 142 [x.pv,fpv a,fpv b] (fpv (smpI x a b)):=by
 have hB:=rw_build x a b (by rw[hx];decide)
 have hN:=rw_negate a (_ha rfl) _la
 have q4:(x.op==4)=decide (((4:Nat))=4):=by rw[hx];rfl
 have q5:(x.op==5)=decide (((4:Nat))=5):=by rw[hx];rfl
 have q6:(x.op==6)=decide (((4:Nat))=6):=by rw[hx];rfl
 have q7:(x.op==7)=decide (((4:Nat))=7):=by rw[hx];rfl
 have q8:(x.op==8)=decide (((4:Nat))=8):=by rw[hx];rfl
 have q9:(x.op==9)=decide (((4:Nat))=9):=by rw[hx];rfl
 have q10:(x.op==10)=decide (((4:Nat))=10):=by rw[hx];rfl
 have q11:(x.op==11)=decide (((4:Nat))=11):=by rw[hx];rfl
 have q12:(x.op==12)=decide (((4:Nat))=12):=by rw[hx];rfl
 have q13:(x.op==13)=decide (((4:Nat))=13):=by rw[hx];rfl
 have q14:(x.op==14)=decide (((4:Nat))=14):=by rw[hx];rfl
 have q15:(x.op==15)=decide (((4:Nat))=15):=by rw[hx];rfl
 have q16:(x.op==16)=decide (((4:Nat))=16):=by rw[hx];rfl
 have q17:(x.op==17)=decide (((4:Nat))=17):=by rw[hx];rfl
 simp only[Nat.reduceEqDiff,decide_true,decide_false] at q4 q5 q6 q7 q8 q9 q10 q11 q12 q13 q14 q15 q16 q17
 clear hx _ha _hb _la _lb
 refine PureFn.intro mixed (fn:=Tryz.f142) rfl rfl rfl fun M w0 => ?_
 (try conv=>whnf);repeat' (first|(apply And.intro<;>try conv=>whnf)|(intro h;first|with_reducible exact tf (by assumption) h|try conv=>whnf)|(refine PureFn.dcq (f:=178) rfl ?_;try conv=>whnf)|(refine PureFn.dcq (f:=179) rfl ?_;try conv=>whnf)|(refine PureFn.dcq (f:=36) rfl ?_;try conv=>whnf)|(refine PureFn.dcq (f:=53) rfl ?_;try conv=>whnf)|(refine⟨_,_,rw_is ?_ ?_,?_,?_⟩;rotate_left 2;(focus first|(refine⟨?_,?_,trivial⟩<;>first|exact PLe.refl _|exact PLe.nil)|exact trivial);try conv=>whnf)|(refine⟨_,_,hN,?_,?_⟩;(focus first|(refine⟨?_,trivial⟩<;>first|exact PLe.refl _|exact PLe.nil)|exact trivial);try conv=>whnf)|(refine⟨_,_,fm_True,?_,?_⟩;(focus first|(refine⟨trivial⟩<;>first|exact PLe.refl _|exact PLe.nil)|exact trivial);try conv=>whnf)|(refine⟨_,_,fm_False,?_,?_⟩;(focus first|(refine⟨trivial⟩<;>first|exact PLe.refl _|exact PLe.nil)|exact trivial);try conv=>whnf)|fail)
 all_goals (refine le_fpv ?_;simp only[smpI, *,cond_true,cond_false])
theorem rw_simple_5 (x:Nd) (a b:List Nd) (hx:x.op=5) (_ha:usesX 5=true→a≠[]) (_hb:usesY 5=true→b≠[]) (_la:a.length≤1000000) (_lb:b.length≤1000000):PureFn Tryz.prog 142 [x.pv,fpv a,fpv b] (fpv (smpI x a b)):=by
 have hB:=rw_build x a b (by rw[hx];decide)
 have hJ:=rw_joint x a b 1 2 (by omega) (by decide) (_ha rfl) (_hb rfl) _la _lb
 have q4:(x.op==4)=decide (((5:Nat))=4):=by rw[hx];rfl
 have q5:(x.op==5)=decide (((5:Nat))=5):=by rw[hx];rfl
 have q6:(x.op==6)=decide (((5:Nat))=6):=by rw[hx];rfl
 have q7:(x.op==7)=decide (((5:Nat))=7):=by rw[hx];rfl
 have q8:(x.op==8)=decide (((5:Nat))=8):=by rw[hx];rfl
 have q9:(x.op==9)=decide (((5:Nat))=9):=by rw[hx];rfl
 have q10:(x.op==10)=decide (((5:Nat))=10):=by rw[hx];rfl
 have q11:(x.op==11)=decide (((5:Nat))=11):=by rw[hx];rfl
 have q12:(x.op==12)=decide (((5:Nat))=12):=by rw[hx];rfl
 have q13:(x.op==13)=decide (((5:Nat))=13):=by rw[hx];rfl
 have q14:(x.op==14)=decide (((5:Nat))=14):=by rw[hx];rfl
 have q15:(x.op==15)=decide (((5:Nat))=15):=by rw[hx];rfl
 have q16:(x.op==16)=decide (((5:Nat))=16):=by rw[hx];rfl
 have q17:(x.op==17)=decide (((5:Nat))=17):=by rw[hx];rfl
 simp only[Nat.reduceEqDiff,decide_true,decide_false] at q4 q5 q6 q7 q8 q9 q10 q11 q12 q13 q14 q15 q16 q17
 clear hx _ha _hb _la _lb
 refine PureFn.intro mixed (fn:=Tryz.f142) rfl rfl rfl fun M w0 => ?_
 (try conv=>whnf);repeat' (first|(apply And.intro<;>try conv=>whnf)|(intro h;first|with_reducible exact tf h (by assumption)|with_reducible exact tf (by assumption) h|try conv=>whnf)|(refine PureFn.dcq (f:=180) rfl ?_;try conv=>whnf)|(refine⟨_,_,hJ,?_,?_⟩;(focus first|(refine⟨?_,?_,?_,?_,?_,trivial⟩<;>first|exact PLe.refl _|exact PLe.nil)|exact trivial);try conv=>whnf)|fail)
 all_goals (refine le_fpv ?_;simp only[smpI, *,cond_true,cond_false])
theorem rw_simple_6 (x:Nd) (a b:List Nd) (hx:x.op=6) (_ha:usesX 6=true→a≠[]) (_hb:usesY 6=true→b≠[]) (_la:a.length≤1000000) (_lb:b.length≤1000000):PureFn Tryz.prog 142 [x.pv,fpv a,fpv b] (fpv (smpI x a b)):=by
 have hB:=rw_build x a b (by rw[hx];decide)
 have hJ:=rw_joint x a b 2 1 (by omega) (by decide) (_ha rfl) (_hb rfl) _la _lb
 have q4:(x.op==4)=decide (((6:Nat))=4):=by rw[hx];rfl
 have q5:(x.op==5)=decide (((6:Nat))=5):=by rw[hx];rfl
 have q6:(x.op==6)=decide (((6:Nat))=6):=by rw[hx];rfl
 have q7:(x.op==7)=decide (((6:Nat))=7):=by rw[hx];rfl
 have q8:(x.op==8)=decide (((6:Nat))=8):=by rw[hx];rfl
 have q9:(x.op==9)=decide (((6:Nat))=9):=by rw[hx];rfl
 have q10:(x.op==10)=decide (((6:Nat))=10):=by rw[hx];rfl
 have q11:(x.op==11)=decide (((6:Nat))=11):=by rw[hx];rfl
 have q12:(x.op==12)=decide (((6:Nat))=12):=by rw[hx];rfl
 have q13:(x.op==13)=decide (((6:Nat))=13):=by rw[hx];rfl
 have q14:(x.op==14)=decide (((6:Nat))=14):=by rw[hx];rfl
 have q15:(x.op==15)=decide (((6:Nat))=15):=by rw[hx];rfl
 have q16:(x.op==16)=decide (((6:Nat))=16):=by rw[hx];rfl
 have q17:(x.op==17)=decide (((6:Nat))=17):=by rw[hx];rfl
 simp only[Nat.reduceEqDiff,decide_true,decide_false] at q4 q5 q6 q7 q8 q9 q10 q11 q12 q13 q14 q15 q16 q17
 clear hx _ha _hb _la _lb
 refine PureFn.intro mixed (fn:=Tryz.f142) rfl rfl rfl fun M w0 => ?_
 (try conv=>whnf);repeat' (first|(apply And.intro<;>try conv=>whnf)|(intro h;first|with_reducible exact tf h (by assumption)|with_reducible exact tf (by assumption) h|try conv=>whnf)|(refine PureFn.dcq (f:=180) rfl ?_;try conv=>whnf)|(refine⟨_,_,hJ,?_,?_⟩;(focus first|(refine⟨?_,?_,?_,?_,?_,trivial⟩<;>first|exact PLe.refl _|exact PLe.nil)|exact trivial);try conv=>whnf)|fail)
 all_goals (refine le_fpv ?_;simp only[smpI, *,cond_true,cond_false])
theorem rw_simple_7 (x:Nd) (a b:List Nd) (hx:x.op=7) (_ha:usesX 7=true→a≠[]) (_hb:usesY 7=true→b≠[]) (_la:a.length≤1000000) (_lb:b.length≤1000000):PureFn Tryz.prog 142 [x.pv,fpv a,fpv b] (fpv (smpI x a b)):=by
 have hB:=rw_build x a b (by rw[hx];decide)
 have hC:=rw_conditional a b (_ha rfl) _la
 have q4:(x.op==4)=decide (((7:Nat))=4):=by rw[hx];rfl
 have q5:(x.op==5)=decide (((7:Nat))=5):=by rw[hx];rfl
 have q6:(x.op==6)=decide (((7:Nat))=6):=by rw[hx];rfl
 have q7:(x.op==7)=decide (((7:Nat))=7):=by rw[hx];rfl
 have q8:(x.op==8)=decide (((7:Nat))=8):=by rw[hx];rfl
 have q9:(x.op==9)=decide (((7:Nat))=9):=by rw[hx];rfl
 have q10:(x.op==10)=decide (((7:Nat))=10):=by rw[hx];rfl
 have q11:(x.op==11)=decide (((7:Nat))=11):=by rw[hx];rfl
 have q12:(x.op==12)=decide (((7:Nat))=12):=by rw[hx];rfl
 have q13:(x.op==13)=decide (((7:Nat))=13):=by rw[hx];rfl
 have q14:(x.op==14)=decide (((7:Nat))=14):=by rw[hx];rfl
 have q15:(x.op==15)=decide (((7:Nat))=15):=by rw[hx];rfl
 have q16:(x.op==16)=decide (((7:Nat))=16):=by rw[hx];rfl
 have q17:(x.op==17)=decide (((7:Nat))=17):=by rw[hx];rfl
 simp only[Nat.reduceEqDiff,decide_true,decide_false] at q4 q5 q6 q7 q8 q9 q10 q11 q12 q13 q14 q15 q16 q17
 clear hx _ha _hb _la _lb
 refine PureFn.intro mixed (fn:=Tryz.f142) rfl rfl rfl fun M w0 => ?_
 (try conv=>whnf);repeat' (first|(apply And.intro<;>try conv=>whnf)|(intro h;first|with_reducible exact tf h (by assumption)|with_reducible exact tf (by assumption) h|try conv=>whnf)|(refine PureFn.dcq (f:=181) rfl ?_;try conv=>whnf)|(refine⟨_,_,hC,?_,?_⟩;(focus first|(refine⟨?_,?_,trivial⟩<;>first|exact PLe.refl _|exact PLe.nil)|exact trivial);try conv=>whnf)|fail)
 all_goals (refine le_fpv ?_;simp only[smpI, *,cond_true,cond_false])
theorem rw_simple_8 (x:Nd) (a b:List Nd) (hx:x.op=8) (_ha:usesX 8=true→a≠[]) (_hb:usesY 8=true→b≠[]) (_la:a.length≤1000000) (_lb:b.length≤1000000):PureFn Tryz.prog 142 [x.pv,fpv a,fpv b] (fpv (smpI x a b)):=by
 have hB:=rw_build x a b (by rw[hx];decide)
 have hV:=rw_equivalence a b (_ha rfl) (_hb rfl) _la _lb
 have q4:(x.op==4)=decide (((8:Nat))=4):=by rw[hx];rfl
 have q5:(x.op==5)=decide (((8:Nat))=5):=by rw[hx];rfl
 have q6:(x.op==6)=decide (((8:Nat))=6):=by rw[hx];rfl
 have q7:(x.op==7)=decide (((8:Nat))=7):=by rw[hx];rfl
 have q8:(x.op==8)=decide (((8:Nat))=8):=by rw[hx];rfl
 have q9:(x.op==9)=decide (((8:Nat))=9):=by rw[hx];rfl
 have q10:(x.op==10)=decide (((8:Nat))=10):=by rw[hx];rfl
 have q11:(x.op==11)=decide (((8:Nat))=11):=by rw[hx];rfl
 have q12:(x.op==12)=decide (((8:Nat))=12):=by rw[hx];rfl
 have q13:(x.op==13)=decide (((8:Nat))=13):=by rw[hx];rfl
 have q14:(x.op==14)=decide (((8:Nat))=14):=by rw[hx];rfl
 have q15:(x.op==15)=decide (((8:Nat))=15):=by rw[hx];rfl
 have q16:(x.op==16)=decide (((8:Nat))=16):=by rw[hx];rfl
 have q17:(x.op==17)=decide (((8:Nat))=17):=by rw[hx];rfl
 simp only[Nat.reduceEqDiff,decide_true,decide_false] at q4 q5 q6 q7 q8 q9 q10 q11 q12 q13 q14 q15 q16 q17
 clear hx _ha _hb _la _lb
 refine PureFn.intro mixed (fn:=Tryz.f142) rfl rfl rfl fun M w0 => ?_
 (try conv=>whnf);repeat' (first|(apply And.intro<;>try conv=>whnf)|(intro h;first|with_reducible exact tf h (by assumption)|with_reducible exact tf (by assumption) h|try conv=>whnf)|(refine PureFn.dcq (f:=182) rfl ?_;try conv=>whnf)|(refine⟨_,_,hV,?_,?_⟩;(focus first|(refine⟨?_,?_,trivial⟩<;>first|exact PLe.refl _|exact PLe.nil)|exact trivial);try conv=>whnf)|fail)
 all_goals (refine le_fpv ?_;simp only[smpI, *,cond_true,cond_false])
theorem rw_simple_9 (x:Nd) (a b:List Nd) (hx:x.op=9) (_ha:usesX 9=true→a≠[]) (_hb:usesY 9=true→b≠[]) (_la:a.length≤1000000) (_lb:b.length≤1000000):PureFn Tryz.prog 142 [x.pv,fpv a,fpv b] (fpv (smpI x a b)):=by
 have hB:=rw_build x a b (by rw[hx];decide)
 skip
 have q4:(x.op==4)=decide (((9:Nat))=4):=by rw[hx];rfl
 have q5:(x.op==5)=decide (((9:Nat))=5):=by rw[hx];rfl
 have q6:(x.op==6)=decide (((9:Nat))=6):=by rw[hx];rfl
 have q7:(x.op==7)=decide (((9:Nat))=7):=by rw[hx];rfl
 have q8:(x.op==8)=decide (((9:Nat))=8):=by rw[hx];rfl
 have q9:(x.op==9)=decide (((9:Nat))=9):=by rw[hx];rfl
 have q10:(x.op==10)=decide (((9:Nat))=10):=by rw[hx];rfl
 have q11:(x.op==11)=decide (((9:Nat))=11):=by rw[hx];rfl
 have q12:(x.op==12)=decide (((9:Nat))=12):=by rw[hx];rfl
 have q13:(x.op==13)=decide (((9:Nat))=13):=by rw[hx];rfl
 have q14:(x.op==14)=decide (((9:Nat))=14):=by rw[hx];rfl
 have q15:(x.op==15)=decide (((9:Nat))=15):=by rw[hx];rfl
 have q16:(x.op==16)=decide (((9:Nat))=16):=by rw[hx];rfl
 have q17:(x.op==17)=decide (((9:Nat))=17):=by rw[hx];rfl
 simp only[Nat.reduceEqDiff,decide_true,decide_false] at q4 q5 q6 q7 q8 q9 q10 q11 q12 q13 q14 q15 q16 q17
 clear hx _ha _hb _la _lb
 refine PureFn.intro mixed (fn:=Tryz.f142) rfl rfl rfl fun M w0 => ?_
 (try conv=>whnf);repeat' (first|(apply And.intro<;>try conv=>whnf)|(intro h;first|with_reducible exact tf h (by assumption)|with_reducible exact tf (by assumption) h|try conv=>whnf)|(refine PureFn.dcq (f:=178) rfl ?_;try conv=>whnf)|(refine PureFn.dcq (f:=183) rfl ?_;try conv=>whnf)|(refine PureFn.dcq (f:=36) rfl ?_;try conv=>whnf)|(refine⟨_,_,rw_is ?_ ?_,?_,?_⟩;rotate_left 2;(focus first|(refine⟨?_,?_,trivial⟩<;>first|exact PLe.refl _|exact PLe.nil)|exact trivial);try conv=>whnf)|(refine⟨_,_,hB,?_,?_⟩;(focus first|(refine⟨?_,?_,?_,trivial⟩<;>first|exact PLe.refl _|exact PLe.nil)|exact trivial);try conv=>whnf)|(refine⟨_,_,fm_True,?_,?_⟩;(focus first|(refine⟨trivial⟩<;>first|exact PLe.refl _|exact PLe.nil)|exact trivial);try conv=>whnf)|fail)
 all_goals (refine le_fpv ?_;simp only[smpI, *,cond_true,cond_false])
theorem rw_simple_10 (x:Nd) (a b:List Nd) (hx:x.op=10) (_ha:usesX 10=true→a≠[]) (_hb:usesY 10=true→b≠[]) (_la:a.length≤1000000) (_lb:b.length≤1000000):PureFn Tryz.prog 142 [x.pv,fpv a,fpv b] (fpv (smpI x a b)):=by
 have hB:=rw_build x a b (by rw[hx];decide)
 skip
 have q4:(x.op==4)=decide (((10:Nat))=4):=by rw[hx];rfl
 have q5:(x.op==5)=decide (((10:Nat))=5):=by rw[hx];rfl
 have q6:(x.op==6)=decide (((10:Nat))=6):=by rw[hx];rfl
 have q7:(x.op==7)=decide (((10:Nat))=7):=by rw[hx];rfl
 have q8:(x.op==8)=decide (((10:Nat))=8):=by rw[hx];rfl
 have q9:(x.op==9)=decide (((10:Nat))=9):=by rw[hx];rfl
 have q10:(x.op==10)=decide (((10:Nat))=10):=by rw[hx];rfl
 have q11:(x.op==11)=decide (((10:Nat))=11):=by rw[hx];rfl
 have q12:(x.op==12)=decide (((10:Nat))=12):=by rw[hx];rfl
 have q13:(x.op==13)=decide (((10:Nat))=13):=by rw[hx];rfl
 have q14:(x.op==14)=decide (((10:Nat))=14):=by rw[hx];rfl
 have q15:(x.op==15)=decide (((10:Nat))=15):=by rw[hx];rfl
 have q16:(x.op==16)=decide (((10:Nat))=16):=by rw[hx];rfl
 have q17:(x.op==17)=decide (((10:Nat))=17):=by rw[hx];rfl
 simp only[Nat.reduceEqDiff,decide_true,decide_false] at q4 q5 q6 q7 q8 q9 q10 q11 q12 q13 q14 q15 q16 q17
 clear hx _ha _hb _la _lb
 refine PureFn.intro mixed (fn:=Tryz.f142) rfl rfl rfl fun M w0 => ?_
 (try conv=>whnf);repeat' (first|(apply And.intro<;>try conv=>whnf)|(intro h;first|with_reducible exact tf h (by assumption)|with_reducible exact tf (by assumption) h|try conv=>whnf)|(refine PureFn.dcq (f:=178) rfl ?_;try conv=>whnf)|(refine PureFn.dcq (f:=183) rfl ?_;try conv=>whnf)|(refine PureFn.dcq (f:=53) rfl ?_;try conv=>whnf)|(refine⟨_,_,rw_is ?_ ?_,?_,?_⟩;rotate_left 2;(focus first|(refine⟨?_,?_,trivial⟩<;>first|exact PLe.refl _|exact PLe.nil)|exact trivial);try conv=>whnf)|(refine⟨_,_,hB,?_,?_⟩;(focus first|(refine⟨?_,?_,?_,trivial⟩<;>first|exact PLe.refl _|exact PLe.nil)|exact trivial);try conv=>whnf)|(refine⟨_,_,fm_False,?_,?_⟩;(focus first|(refine⟨trivial⟩<;>first|exact PLe.refl _|exact PLe.nil)|exact trivial);try conv=>whnf)|fail)
 all_goals (refine le_fpv ?_;simp only[smpI, *,cond_true,cond_false])
theorem rw_simple_11 (x:Nd) (a b:List Nd) (hx:x.op=11) (_ha:usesX 11=true→a≠[]) (_hb:usesY 11=true→b≠[]) (_la:a.length≤1000000) (_lb:b.length≤1000000):PureFn Tryz.prog 142 [x.pv,fpv a,fpv b] (fpv (smpI x a b)):=by
 have hB:=rw_build x a b (by rw[hx];decide)
 skip
 have q4:(x.op==4)=decide (((11:Nat))=4):=by rw[hx];rfl
 have q5:(x.op==5)=decide (((11:Nat))=5):=by rw[hx];rfl
 have q6:(x.op==6)=decide (((11:Nat))=6):=by rw[hx];rfl
 have q7:(x.op==7)=decide (((11:Nat))=7):=by rw[hx];rfl
 have q8:(x.op==8)=decide (((11:Nat))=8):=by rw[hx];rfl
 have q9:(x.op==9)=decide (((11:Nat))=9):=by rw[hx];rfl
 have q10:(x.op==10)=decide (((11:Nat))=10):=by rw[hx];rfl
 have q11:(x.op==11)=decide (((11:Nat))=11):=by rw[hx];rfl
 have q12:(x.op==12)=decide (((11:Nat))=12):=by rw[hx];rfl
 have q13:(x.op==13)=decide (((11:Nat))=13):=by rw[hx];rfl
 have q14:(x.op==14)=decide (((11:Nat))=14):=by rw[hx];rfl
 have q15:(x.op==15)=decide (((11:Nat))=15):=by rw[hx];rfl
 have q16:(x.op==16)=decide (((11:Nat))=16):=by rw[hx];rfl
 have q17:(x.op==17)=decide (((11:Nat))=17):=by rw[hx];rfl
 simp only[Nat.reduceEqDiff,decide_true,decide_false] at q4 q5 q6 q7 q8 q9 q10 q11 q12 q13 q14 q15 q16 q17
 clear hx _ha _hb _la _lb
 refine PureFn.intro mixed (fn:=Tryz.f142) rfl rfl rfl fun M w0 => ?_
 (try conv=>whnf);repeat' (first|(apply And.intro<;>try conv=>whnf)|(intro h;first|with_reducible exact tf h (by assumption)|with_reducible exact tf (by assumption) h|try conv=>whnf)|(refine PureFn.dcq (f:=178) rfl ?_;try conv=>whnf)|(refine PureFn.dcq (f:=183) rfl ?_;try conv=>whnf)|(refine PureFn.dcq (f:=36) rfl ?_;try conv=>whnf)|(refine⟨_,_,rw_is ?_ ?_,?_,?_⟩;rotate_left 2;(focus first|(refine⟨?_,?_,trivial⟩<;>first|exact PLe.refl _|exact PLe.nil)|exact trivial);try conv=>whnf)|(refine⟨_,_,hB,?_,?_⟩;(focus first|(refine⟨?_,?_,?_,trivial⟩<;>first|exact PLe.refl _|exact PLe.nil)|exact trivial);try conv=>whnf)|(refine⟨_,_,fm_True,?_,?_⟩;(focus first|(refine⟨trivial⟩<;>first|exact PLe.refl _|exact PLe.nil)|exact trivial);try conv=>whnf)|fail)
 all_goals (refine le_fpv ?_;simp only[smpI, *,cond_true,cond_false])
theorem rw_simple_12 (x:Nd) (a b:List Nd) (hx:x.op=12) (_ha:usesX 12=true→a≠[]) (_hb:usesY 12=true→b≠[]) (_la:a.length≤1000000) (_lb:b.length≤1000000):PureFn Tryz.prog 142 [x.pv,fpv a,fpv b] (fpv (smpI x a b)):=by
 have hB:=rw_build x a b (by rw[hx];decide)
 skip
 have q4:(x.op==4)=decide (((12:Nat))=4):=by rw[hx];rfl
 have q5:(x.op==5)=decide (((12:Nat))=5):=by rw[hx];rfl
 have q6:(x.op==6)=decide (((12:Nat))=6):=by rw[hx];rfl
 have q7:(x.op==7)=decide (((12:Nat))=7):=by rw[hx];rfl
 have q8:(x.op==8)=decide (((12:Nat))=8):=by rw[hx];rfl
 have q9:(x.op==9)=decide (((12:Nat))=9):=by rw[hx];rfl
 have q10:(x.op==10)=decide (((12:Nat))=10):=by rw[hx];rfl
 have q11:(x.op==11)=decide (((12:Nat))=11):=by rw[hx];rfl
 have q12:(x.op==12)=decide (((12:Nat))=12):=by rw[hx];rfl
 have q13:(x.op==13)=decide (((12:Nat))=13):=by rw[hx];rfl
 have q14:(x.op==14)=decide (((12:Nat))=14):=by rw[hx];rfl
 have q15:(x.op==15)=decide (((12:Nat))=15):=by rw[hx];rfl
 have q16:(x.op==16)=decide (((12:Nat))=16):=by rw[hx];rfl
 have q17:(x.op==17)=decide (((12:Nat))=17):=by rw[hx];rfl
 simp only[Nat.reduceEqDiff,decide_true,decide_false] at q4 q5 q6 q7 q8 q9 q10 q11 q12 q13 q14 q15 q16 q17
 clear hx _ha _hb _la _lb
 refine PureFn.intro mixed (fn:=Tryz.f142) rfl rfl rfl fun M w0 => ?_
 (try conv=>whnf);repeat' (first|(apply And.intro<;>try conv=>whnf)|(intro h;first|with_reducible exact tf h (by assumption)|with_reducible exact tf (by assumption) h|try conv=>whnf)|(refine PureFn.dcq (f:=178) rfl ?_;try conv=>whnf)|(refine PureFn.dcq (f:=183) rfl ?_;try conv=>whnf)|(refine PureFn.dcq (f:=36) rfl ?_;try conv=>whnf)|(refine⟨_,_,rw_is ?_ ?_,?_,?_⟩;rotate_left 2;(focus first|(refine⟨?_,?_,trivial⟩<;>first|exact PLe.refl _|exact PLe.nil)|exact trivial);try conv=>whnf)|(refine⟨_,_,hB,?_,?_⟩;(focus first|(refine⟨?_,?_,?_,trivial⟩<;>first|exact PLe.refl _|exact PLe.nil)|exact trivial);try conv=>whnf)|(refine⟨_,_,fm_True,?_,?_⟩;(focus first|(refine⟨trivial⟩<;>first|exact PLe.refl _|exact PLe.nil)|exact trivial);try conv=>whnf)|fail)
 all_goals (refine le_fpv ?_;simp only[smpI, *,cond_true,cond_false])
theorem rw_simple_13 (x:Nd) (a b:List Nd) (hx:x.op=13) (_ha:usesX 13=true→a≠[]) (_hb:usesY 13=true→b≠[]) (_la:a.length≤1000000) (_lb:b.length≤1000000):PureFn Tryz.prog 142 [x.pv,fpv a,fpv b] (fpv (smpI x a b)):=by
 have hB:=rw_build x a b (by rw[hx];decide)
 skip
 have q4:(x.op==4)=decide (((13:Nat))=4):=by rw[hx];rfl
 have q5:(x.op==5)=decide (((13:Nat))=5):=by rw[hx];rfl
 have q6:(x.op==6)=decide (((13:Nat))=6):=by rw[hx];rfl
 have q7:(x.op==7)=decide (((13:Nat))=7):=by rw[hx];rfl
 have q8:(x.op==8)=decide (((13:Nat))=8):=by rw[hx];rfl
 have q9:(x.op==9)=decide (((13:Nat))=9):=by rw[hx];rfl
 have q10:(x.op==10)=decide (((13:Nat))=10):=by rw[hx];rfl
 have q11:(x.op==11)=decide (((13:Nat))=11):=by rw[hx];rfl
 have q12:(x.op==12)=decide (((13:Nat))=12):=by rw[hx];rfl
 have q13:(x.op==13)=decide (((13:Nat))=13):=by rw[hx];rfl
 have q14:(x.op==14)=decide (((13:Nat))=14):=by rw[hx];rfl
 have q15:(x.op==15)=decide (((13:Nat))=15):=by rw[hx];rfl
 have q16:(x.op==16)=decide (((13:Nat))=16):=by rw[hx];rfl
 have q17:(x.op==17)=decide (((13:Nat))=17):=by rw[hx];rfl
 simp only[Nat.reduceEqDiff,decide_true,decide_false] at q4 q5 q6 q7 q8 q9 q10 q11 q12 q13 q14 q15 q16 q17
 clear hx _ha _hb _la _lb
 refine PureFn.intro mixed (fn:=Tryz.f142) rfl rfl rfl fun M w0 => ?_
 (try conv=>whnf);repeat' (first|(apply And.intro<;>try conv=>whnf)|(intro h;first|with_reducible exact tf h (by assumption)|with_reducible exact tf (by assumption) h|try conv=>whnf)|apply True.intro|(apply WhenQ.mk;(try conv=>whnf);rotate_left;(try conv=>whnf);rotate_right)|with_reducible assumption|(apply not_of;with_reducible assumption)|(refine PureFn.dcq (f:=178) rfl ?_;try conv=>whnf)|(refine PureFn.dcq (f:=183) rfl ?_;try conv=>whnf)|(refine PureFn.dcq (f:=36) rfl ?_;try conv=>whnf)|(refine⟨_,_,rw_is ?_ ?_,?_,?_⟩;rotate_left 2;(focus first|(refine⟨?_,?_,trivial⟩<;>first|exact PLe.refl _|exact PLe.nil)|exact trivial);try conv=>whnf)|(refine⟨_,_,hB,?_,?_⟩;(focus first|(refine⟨?_,?_,?_,trivial⟩<;>first|exact PLe.refl _|exact PLe.nil)|exact trivial);try conv=>whnf)|(refine⟨_,_,fm_True,?_,?_⟩;(focus first|(refine⟨trivial⟩<;>first|exact PLe.refl _|exact PLe.nil)|exact trivial);try conv=>whnf)|fail)
 all_goals (refine le_fpv ?_;simp only[smpI, *,cond_true,cond_false])
theorem rw_simple (x:Nd) (a b:List Nd) (hx:1≤x.op∧x.op≤13) (ha:usesX x.op=true→a≠[]) (hb:usesY x.op=true→b≠[]) (la:a.length≤1000000) (lb:b.length≤1000000):PureFn Tryz.prog 142 [x.pv,fpv a,fpv b] (fpv (smpI x a b)):=by
 have h:x.op=1∨x.op=2∨x.op=3∨x.op=4∨x.op=5∨x.op=6∨x.op=7∨x.op=8∨x.op=9∨x.op=10∨x.op=11∨x.op=12∨x.op=13:=by omega
 rcases h with h|h|h|h|h|h|h|h|h|h|h|h|h<;>rw[h] at ha hb
 ·exact rw_simple_1 x a b h ha hb la lb
 ·exact rw_simple_2 x a b h ha hb la lb
 ·exact rw_simple_3 x a b h ha hb la lb
 ·exact rw_simple_4 x a b h ha hb la lb
 ·exact rw_simple_5 x a b h ha hb la lb
 ·exact rw_simple_6 x a b h ha hb la lb
 ·exact rw_simple_7 x a b h ha hb la lb
 ·exact rw_simple_8 x a b h ha hb la lb
 ·exact rw_simple_9 x a b h ha hb la lb
 ·exact rw_simple_10 x a b h ha hb la lb
 ·exact rw_simple_11 x a b h ha hb la lb
 ·exact rw_simple_12 x a b h ha hb la lb
 ·exact rw_simple_13 x a b h ha hb la lb
def opX (x:Nd) (X:List Nd):List Nd:=bif decide (x.op≥4) then X else []
def opY (x:Nd) (Y:List Nd):List Nd:=bif binB x.op then Y else []
def smpH (x:Nd) (X Y:List Nd):List Nd×Int:=nz (smpI x (opX x X) (opY x Y))
def simF (c:List Nd):List Nd×Int:=lastF (redE [] smpH c [])
def simI (f:List Nd):List Nd×Int:=bif check f != 0 then ([],check f) else simF (comp f)
theorem apN_len (x:Nd) (a b:List Nd):(apN x a b).length≤200:=by
 unfold apN
 exact wantL_len _ _ _ _ _ _
theorem negI_len (a:List Nd):(negI a).length≤200:=by
 unfold negI
 cases (strI a).2 with
 |true=>exact str_len
 |false=>exact buildL_len _ _
theorem bif_len {c:Bool} {a b:List Nd} (h1:a.length≤200) (h2:b.length≤200):(bif c then a else b).length≤200:=by cases c<;>assumption
theorem smp_len (x:Nd) (a b:List Nd) (ha:a.length≤200) (hb:b.length≤200):(smpI x a b).length≤200:=by
 unfold smpI jntI cndI eqvI
 repeat' (first|exact ha|exact hb|exact apN_len _ _ _|exact buildL_len _ _|exact negI_len _|apply bif_len)
theorem opX_len {x:Nd} {X:List Nd} (h:X.length≤200):(opX x X).length≤200:=bif_len h (by decide)
theorem opY_len {x:Nd} {X:List Nd} (h:X.length≤200):(opY x X).length≤200:=bif_len h (by decide)
def Done (l:List (List Nd)):Prop:=∀ z,z∈l→z≠[]∧z.length≤200
theorem Done.get {l:List (List Nd)} (h:Done l) (k:Nat):(l.getD k []).length≤200∧(k<l.length→l.getD k []≠[]):=by
 by_cases hk:k<l.length
 ·have:=h _ (by rw[List.getD_eq_getElem?_getD,List.getElem?_eq_getElem hk];exact List.getElem_mem hk:l.getD k []∈l)
  exact⟨this.2,fun _=>this.1⟩
 ·rw[List.getD_eq_getElem?_getD,List.getElem?_eq_none (by omega)]
  exact⟨Nat.zero_le _,fun h=>absurd h hk⟩
theorem Done.add {l:List (List Nd)} (h:Done l) {z:List Nd} (h0:z≠[]) (hz:z.length≤200):Done (l++[z]):=fun y hy=>by
 rcases List.mem_append.1 hy with hy|hy
 ·exact h y hy
 ·rw[List.mem_singleton.1 hy];exact⟨h0,hz⟩
theorem bin_uses {x:Nd} (h:x.op≤13):binB x.op=usesY x.op:=by
 by_cases h0:x.op<0
 ·have:∀ k:Int,0≤k→(x.op==k)=false:=fun k hk=>by simp;omega
  simp[binB,usesY,this]
  omega
 ·obtain⟨k,hk⟩:∃ k:Nat,x.op=k:=⟨x.op.toNat,by omega⟩
  have key:∀ k:Nat,k<14→binB (k:Int)=usesY (k:Int):=by decide
  rw[hk]
  exact key k (by omega)
theorem rw_upward (f:List Nd) (hc:check f=0) (hs:∀ x,x∈comp f→x.op≤13) (M:Nat→Prop) (w0:W0) :
  DC Tryz.prog M w0 141 [.pv (fpv f),.clo 142 [] []] noHeap fun d L'=>frz d L' fun q _=>PLe q (pairF (simF (comp f))):=by
 have hc0:(check f != 0)=false:=by rw[hc];rfl
 refine DC.weaken (DC.introC [9,11,13] mixed (fn:=Tryz.f141) rfl rfl rfl ?_)
 have hlen:=comp_len f
 have hpos:=comp_pos hc
 have hokl:=comp_okl f
 (try conv=>whnf);repeat' (first|(apply And.intro<;>try conv=>whnf)|(intro h;first|with_reducible exact tf h (by assumption)|try conv=>whnf)|(refine PureFn.dcq (f:=86) rfl ?_;try conv=>whnf)|(refine PureFn.dcq (f:=68) rfl ?_;try conv=>whnf)|(refine⟨_,_,fm_Check ?_,?_,?_⟩;rotate_left 1;(focus first|(refine⟨?_,trivial⟩<;>first|exact PLe.refl _|exact PLe.nil)|exact trivial);try conv=>whnf)|(refine⟨_,_,fm_Compact ?_,?_,?_⟩;rotate_left 1;(focus first|(refine⟨?_,trivial⟩<;>first|exact PLe.refl _|exact PLe.nil)|exact trivial);try conv=>whnf)|fail)
 unfold simF
 generalize comp f=c at *
 refine⟨{ q:Nat×List (List Nd) // q.1≤c.length∧q.2.length=q.1∧Done q.2∧redE [] smpH c []=redE [] smpH (c.drop q.1) q.2 },
  fun q=>[(1,.clo 142 [] []),(7,.buf 0 (q.1.2.map fpv).length),(19,.pv (fpv c)),(20,.pv (.int .i64 (c.map Nd.pv).length)),(21,.pv (.int .i64 (q.1.1:Nat)))],fun _=>1,fun q=>[(0,.arr 1 (q.1.2.map fpv))],fun q=>c.length-q.1.1,
  ⟨⟨(0,[]),Nat.zero_le _,rfl,fun z hz=>by simp at hz,rfl⟩,(by refine Wk.of ?_ ?_ rfl rfl rfl<;>repeat' (first|exact trivial|exact WkD.same _|exact WkD.new' rfl rfl rfl|exact WkO.new _ _ rfl|exact rfl|refine⟨?_,?_⟩|fail))⟩,?_⟩
 rintro⟨⟨i,l⟩,hi,hl,hD,he⟩
 simp only at hi hl hD he
 have hlm:(l.map fpv).length=i:=by rw[List.length_map];exact hl
 (try conv=>whnf);repeat' (first|(apply And.intro<;>try conv=>whnf)|(intro h;try conv=>whnf)|(apply infoT;rfl)|fail)
 ·have hi':i<c.length:=by simpa using lt_dec h
  obtain⟨x,hx⟩:∃ x,c[i]? = some x:=⟨_,List.getElem?_eq_getElem hi'⟩
  have ok:=hokl i x hx
  have hox:=hs x (List.mem_iff_getElem?.2 ⟨i,hx⟩)
  have h1:=ok.op
  obtain⟨X,hX⟩:∃ X,opX x (l.getD x.x.toNat [])=X:=⟨_,rfl⟩
  obtain⟨Y,hY⟩:∃ Y,opY x (l.getD x.y.toNat [])=Y:=⟨_,rfl⟩
  refine⟨_,_,rfl,idx_map hx,rfl,?_⟩
  try conv=>whnf
  refine⟨Unit,fun _=>[(1,.clo 142 [] []),(7,.buf 0 (l.map fpv).length),(19,.pv (fpv c)),(20,.pv (.int .i64 (c.map Nd.pv).length)),(21,.pv (.int .i64 (i:Nat))),(9,.ref 1 0),(10,.pv .nil),(11,.pv .nil)],fun _=>2,fun _=>[(0,.arr 1 (l.map fpv)),(1,.var x.dvs)],?_,?_⟩
  ·try conv=>whnf
   exact⟨(),(by refine Wk.of ?_ ?_ rfl rfl rfl<;>repeat' (first|exact trivial|exact WkD.same _|exact WkO.same _ _ rfl|refine⟨?_,?_⟩|fail))⟩
  rintro⟨⟩
  refine⟨Unit,fun _=>[(1,.clo 142 [] []),(7,.buf 0 (l.map fpv).length),(19,.pv (fpv c)),(20,.pv (.int .i64 (c.map Nd.pv).length)),(21,.pv (.int .i64 (i:Nat))),(9,.ref 1 0),(10,.pv (fpv X)),(11,.pv .nil)],fun _=>2,fun _=>[(0,.arr 1 (l.map fpv)),(1,.var x.dvs)],?_,?_⟩
  ·(try conv=>whnf);repeat' (first|(apply And.intro<;>try conv=>whnf)|(intro h;try conv=>whnf)|fail)
   ·have hg:decide (x.op≥4)=true:=h
    have hu:usesX x.op=true:=by
     have:=of_decide_eq_true hg
     simp only[usesX,Bool.and_eq_true,decide_eq_true_eq];omega
    obtain⟨u1,u2⟩:=ok.x hu
    obtain⟨k,hk⟩:∃ k:Nat,x.x=k:=⟨x.x.toNat,by omega⟩
    have hkl:k<l.length:=by omega
    refine⟨k,hk,by omega,?_⟩
    (try conv=>whnf);repeat' (first|(apply And.intro<;>try conv=>whnf)|fail)
    refine⟨_,fget hkl,?_⟩
    try conv=>whnf
    have hXk:l.getD k []=X:=by rw[← hX,opX,hg,hk];rfl
    rw[hXk]
    exact⟨(),(by refine Wk.of ?_ ?_ rfl rfl rfl<;>repeat' (first|exact trivial|exact WkD.same _|exact WkO.same _ _ rfl|refine⟨?_,?_⟩|fail))⟩
   ·have hXn:X=[]:=by rw[← hX,opX,show decide (x.op≥4)=false from h];rfl
    rw[hXn]
    exact⟨(),(by refine Wk.of ?_ ?_ rfl rfl rfl<;>repeat' (first|exact trivial|exact WkD.same _|exact WkO.same _ _ rfl|exact WkD.nil _ (Or.inl rfl)|refine⟨?_,?_⟩|fail))⟩
  rintro⟨⟩
  refine⟨Unit,fun _=>[(1,.clo 142 [] []),(7,.buf 0 (l.map fpv).length),(19,.pv (fpv c)),(20,.pv (.int .i64 (c.map Nd.pv).length)),(21,.pv (.int .i64 (i:Nat))),(9,.ref 1 0),(10,.pv (fpv X)),(11,.pv (fpv Y))],fun _=>2,fun _=>[(0,.arr 1 (l.map fpv)),(1,.var x.dvs)],?_,?_⟩
  ·(try conv=>whnf);repeat' (first|(apply And.intro<;>try conv=>whnf)|(intro h;try conv=>whnf)|(refine PureFn.dcq (f:=177) rfl ?_;try conv=>whnf)|(refine⟨_,_,rw_binary ?_,?_,?_⟩;rotate_left 1;(focus first|(refine⟨?_,trivial⟩<;>first|exact PLe.refl _|exact PLe.nil)|exact trivial);try conv=>whnf)|fail)
   ·have hg:binB x.op=true:=h
    have hu:usesY x.op=true:=by rw[← bin_uses hox];exact hg
    obtain⟨u1,u2⟩:=ok.y hu
    obtain⟨k,hk⟩:∃ k:Nat,x.y=k:=⟨x.y.toNat,by omega⟩
    have hkl:k<l.length:=by omega
    refine⟨k,hk,by omega,?_⟩
    (try conv=>whnf);repeat' (first|(apply And.intro<;>try conv=>whnf)|fail)
    refine⟨_,fget hkl,?_⟩
    try conv=>whnf
    have hYk:l.getD k []=Y:=by rw[← hY,opY,hg,hk];rfl
    rw[hYk]
    exact⟨(),(by refine Wk.of ?_ ?_ rfl rfl rfl<;>repeat' (first|exact trivial|exact WkD.same _|exact WkO.same _ _ rfl|refine⟨?_,?_⟩|fail))⟩
   ·have hYn:Y=[]:=by rw[← hY,opY,show binB x.op=false from h];rfl
    rw[hYn]
    exact⟨(),(by refine Wk.of ?_ ?_ rfl rfl rfl<;>repeat' (first|exact trivial|exact WkD.same _|exact WkO.same _ _ rfl|exact WkD.nil _ (Or.inl rfl)|refine⟨?_,?_⟩|fail))⟩
  rintro⟨⟩
  have lX:X.length≤200:=hX▸opX_len (hD.get _).1
  have lY:Y.length≤200:=hY▸opY_len (hD.get _).1
  have nX:usesX x.op=true→X≠[]:=fun hu=>by
   obtain⟨u1,u2⟩:=ok.x hu
   have hg:decide (x.op≥4)=true:=by
    simp only[usesX,Bool.and_eq_true,decide_eq_true_eq] at hu
    exact decide_eq_true (by omega)
   rw[← hX,opX,hg]
   exact (hD.get _).2 (by omega)
  have nY:usesY x.op=true→Y≠[]:=fun hu=>by
   obtain⟨u1,u2⟩:=ok.y hu
   rw[← hY,opY,bin_uses hox,hu]
   exact (hD.get _).2 (by omega)
  have hA:=rw_simple x X Y ⟨h1.1,hox⟩ nX nY (by omega) (by omega)
  have hsl:=smp_len x X Y lX lY
  obtain⟨z,hz⟩:∃ z,smpI x X Y=z:=⟨_,rfl⟩
  have hh:smpH x (l.getD x.x.toNat []) (l.getD x.y.toNat [])=nz z:=by rw[smpH,hX,hY,hz]
  rw[hz] at hA hsl
  cases z with
  |nil =>
   have f0:(((([]:List Nd).map Nd.pv).length:Int)==0)=true:=rfl
   have hno:=redE_no (e:=8) hx hh rfl
   have hF:lastF (redE [] smpH c [])=([],8):=by rw[he,hno];rfl
   rw[hF]
   (try conv=>whnf);repeat' (first|(apply And.intro<;>try conv=>whnf)|(intro h;first|with_reducible exact tf (by assumption) h|try conv=>whnf)|(refine PureFn.dcq (f:=142) rfl ?_;try conv=>whnf)|(refine⟨_,_,hA,?_,?_⟩;(focus first|(refine⟨?_,?_,?_,trivial⟩<;>first|exact PLe.refl _|exact PLe.nil)|exact trivial);try conv=>whnf)|fail)
   exact⟨.tup [.pv .nil,.pv (.int .i64 8)],0,[],(by refine Wk.of ?_ ?_ rfl rfl rfl<;>repeat' (first|exact trivial|exact WkD.same _|refine⟨?_,?_⟩|fail)),le_nilF 8⟩
  |cons a r =>
   have f0:(((((a::r):List Nd).map Nd.pv).length:Int)==0)=false:=by simp;omega
   (try conv=>whnf);repeat' (first|(apply And.intro<;>try conv=>whnf)|(intro h;first|with_reducible exact tf h (by assumption)|try conv=>whnf)|(apply cellsI;rfl)|(apply szI;rfl)|(refine PureFn.dcq (f:=142) rfl ?_;try conv=>whnf)|(refine⟨_,_,hA,?_,?_⟩;(focus first|(refine⟨?_,?_,?_,trivial⟩<;>first|exact PLe.refl _|exact PLe.nil)|exact trivial);try conv=>whnf)|fail)
   ·show (l.map fpv).length+1≤4294967296
    omega
   ·have hyes:=redE_yes (z:=a::r) (e:=0) hx hh rfl
    have hm:=map_snoc (l:=l) (z:=a::r)
    refine⟨⟨(i+1,l++[a::r]),hi',by simp[hl],hD.add (by simp) hsl,by rw[he,hyes]⟩,by show c.length-(i+1)<c.length-i;omega,?_⟩
    (refine Wk.of ?_ ?_ rfl rfl rfl<;>repeat' (first|exact trivial|exact WkD.same _|exact WkD.eq (congrArg (fun z:List PV=>DV.buf _ z.length) hm)|exact WkO.same _ _ (congrArg (fun z=>some (DObj.arr _ z)) hm)|refine WkD.int ?_|refine⟨?_,?_⟩|(refine wrapA ?_ ?_ ?_;(focus simp;done);(focus (try dsimp only);omega);(focus (try dsimp only);omega))|fail))
 ·have hi':i=c.length:=by have:=ge_dec (m:=(c.map Nd.pv).length) h (by simpa using hi);simpa using this
  subst hi'
  rw[redE_end] at he
  have hw:IntKind.wrap .i64 (((l.map fpv).length:Int)-1)=((l.length-1:Nat):Int):=by
   rw[List.length_map];exact wrapA (by omega) (by omega) (by omega)
  have hll:l.length=c.length:=hl
  refine⟨l.length-1,hw,(show l.length-1<(l.map fpv).length by rw[List.length_map];omega),?_⟩
  (try conv=>whnf);repeat' (first|(apply And.intro<;>try conv=>whnf)|fail)
  refine⟨_,fget (show l.length-1<l.length by omega),?_⟩
  try conv=>whnf
  exact⟨.tup [.pv (fpv (l.getD (l.length-1) [])),.pv (.int .i64 0)],0,[],(by refine Wk.of ?_ ?_ rfl rfl rfl<;>repeat' (first|exact trivial|exact WkD.same _|refine⟨?_,?_⟩|fail)),le_pairF (a:=(l.getD (l.length-1) [],0)) (b:=lastF (redE [] smpH c [])) (by rw[he];rfl)⟩
theorem ix_pair {n k q:Nat} (h:q<n*k):∃ e f,e<n∧f<k∧q=e*k+f:=by
 have hk:0<k:=by
  rcases Nat.eq_zero_or_pos k with rfl|h0
  ·simp at h
  ·exact h0
 refine⟨q / k,q % k,?_,Nat.mod_lt _ hk,?_⟩
 ·rw[Nat.div_lt_iff_lt_mul hk];exact h
 ·rw[Nat.mul_comm];exact (Nat.div_add_mod q k).symm
theorem rowC_lt {r s:List Nat} {n k:Nat} (hs:∀ x,x∈s→x<2^k):∀ x,x∈rowC r s n k→x<2^(n*k):=fun x hx=>by
 obtain⟨q,_,rfl⟩:=List.mem_map.1 hx
 exact joinN_lt (getD_lt2 hs _) n
theorem chgs_cons {A F:Int} {x:Asg} {r:List Asg} {lo:Int}:chgs A F (x::r) lo=0↔(0≤x.fact∧x.fact<F)∧lo<x.fact∧statI A F x.to=0∧chgs A F r x.fact=0:=by
 rw[chgs]
 by_cases h1:x.fact<0
 ·rw[decide_eq_true h1]
  refine⟨fun h=>absurd (show (2:Int)=0 from h) (by decide),fun h => ?_⟩
  have:=h.1.1;omega
 by_cases h2:x.fact≥F
 ·rw[decide_eq_false h1,decide_eq_true h2]
  refine⟨fun h=>absurd (show (2:Int)=0 from h) (by decide),fun h => ?_⟩
  have:=h.1.2;omega
 rw[decide_eq_false h1,decide_eq_false h2]
 by_cases h3:x.fact≤lo
 ·rw[decide_eq_true h3]
  refine⟨fun h=>absurd (show (9:Int)=0 from h) (by decide),fun h => ?_⟩
  have:=h.2.1;omega
 rw[decide_eq_false h3]
 by_cases h4:statI A F x.to=0
 ·rw[h4]
  exact⟨fun h=>⟨⟨by omega,by omega⟩,by omega,rfl,h⟩,fun h=>h.2.2.2⟩
 ·rw[show (statI A F x.to != 0)=true by simpa using h4]
  exact⟨fun h=>absurd h h4,fun h=>absurd h.2.2.1 h4⟩
theorem chgs_asc {A F:Int}:∀ {l:List Asg} {lo:Int},chgs A F l lo=0→l.Pairwise (fun x y=>x.fact<y.fact)∧∀ x,x∈l→lo<x.fact∧0≤x.fact∧x.fact<F∧statI A F x.to=0
 | [],_,_=>⟨.nil,fun x hx=>by cases hx⟩
 |y::r,lo,h=>by
  obtain⟨⟨h1,h2⟩,h3,h4,h5⟩:=chgs_cons.1 h
  obtain⟨g1,g2⟩:=chgs_asc h5
  refine⟨List.pairwise_cons.2 ⟨fun z hz=>(g2 z hz).1,g1⟩,fun x hx => ?_⟩
  rcases List.mem_cons.1 hx with rfl|hx
  ·exact⟨h3,h1,h2,h4⟩
  ·obtain⟨q1,q2⟩:=g2 x hx
   exact⟨by omega,q2⟩
theorem chgs_ins {A F:Int} {x:Asg} (hx:0≤x.fact∧x.fact<F) (hs:statI A F x.to=0):∀ {l:List Asg} {lo:Int},chgs A F l lo=0→lo<x.fact→chgs A F (insA l x) lo=0
 | [],lo,_,hl=>chgs_cons.2 ⟨hx,hl,hs,rfl⟩
 |y::r,lo,h,hl=>by
  obtain⟨h1,h2,h3,h4⟩:=chgs_cons.1 h
  rw[insA]
  by_cases q1:y.fact<x.fact
  ·rw[decide_eq_true q1,cond_true]
   exact chgs_cons.2 ⟨h1,h2,h3,chgs_ins hx hs h4 q1⟩
  ·rw[decide_eq_false q1,cond_false]
   by_cases q2:y.fact=x.fact
   ·rw[decide_eq_true q2,cond_true]
    exact chgs_cons.2 ⟨h1,h2,hs,h4⟩
   ·rw[decide_eq_false q2,cond_false]
    exact chgs_cons.2 ⟨hx,hl,hs,chgs_cons.2 ⟨h1,by omega,h3,h4⟩⟩
theorem chgs_comp {A F:Nat}:∀ {l:List Asg} {lo:Int},chgs A F l lo=0→chgs A F (compA l) lo=0
 | [],_,_=>rfl
 |y::r,lo,h=>by
  obtain⟨h1,h2,h3,h4⟩:=chgs_cons.1 h
  exact chgs_cons.2 ⟨h1,h2,stat_comp h3,chgs_comp h4⟩
theorem addE_cons {a:Act} {e:Nat} {out:List Asg} {x:Asg} {r:List Asg}:addE a e out (x::r)=match aftE a e x.to with
  |.error c=>.error c
  |.ok to=>addE a e (insA out ⟨x.fact,to⟩) r:=rfl
theorem aftE_inv {a:Act} {e:Nat} {f g:List Nd} (h:aftE a e f=.ok g):check f=0∧e<a.pre.length∧(and64 (frags f:Nat) 8 != 0)=false∧Can g∧root g=aftT a (root f) e:=by
 have h0:aftI a e f=(g,0):=by
  unfold aftE at h
  generalize aftI a e f=X at h
  obtain⟨z,c⟩:=X
  by_cases q:c=0
  ·subst q;cases h;rfl
  ·have h:(bif c != 0 then Except.error c else Except.ok z)=Except.ok g:=h
   rw[show (c != 0)=true by simpa using q] at h;cases h
 have h2:=congrArg Prod.snd h0
 unfold aftI at h0 h2
 have h2:(bif chkI a != 0 then (([]:List Nd),chkI a) else bif check f != 0 then ([],check f) else bif badEv a e then ([],6)
  else bif (bif !stB f then true else and64 (frags f:Nat) 8 != 0) then ([],10) else bif !fits f (min (a.rel.length:Int) 4) 8 then ([],2) else aftF a (e:Int).toNat (comp f)).2=0:=h2
 by_cases q1:¬ (chkI a=0)
 ·rw[show (chkI a != 0)=true by simpa using q1] at h2;exact absurd h2 q1
 have q1:=Classical.not_not.1 q1
 rw[q1] at h0 h2
 by_cases q2:¬ (check f=0)
 ·rw[show (check f != 0)=true by simpa using q2] at h2;exact absurd h2 q2
 have q2:=Classical.not_not.1 q2
 rw[q2] at h0 h2
 cases q3:badEv a e with
 |true=>rw[q3] at h2;exact absurd (show (6:Int)=0 from h2) (by decide)
 |false =>
  rw[q3] at h0 h2
  cases q4:(bif !stB f then true else and64 (frags f:Nat) 8 != 0) with
  |true=>rw[q4] at h2;exact absurd (show (10:Int)=0 from h2) (by decide)
  |false =>
   rw[q4] at h0 h2
   cases q5:fits f (min (a.rel.length:Int) 4) 8 with
   |false=>rw[q5] at h2;exact absurd (show (2:Int)=0 from h2) (by decide)
   |true =>
    rw[q5] at h0 h2
    have h0:aftF a (e:Int).toNat (comp f)=(g,0):=h0
    rw[Int.toNat_natCast] at h0
    obtain⟨k,hk,he⟩:=badEv_no q3
    obtain rfl:e=k:=by omega
    obtain⟨g1,g2⟩:=aftF_tree he (comp_okl f) (comp_pos q2) (by rw[h0])
    rw[h0] at g1 g2
    rw[root_comp q2] at g2
    exact⟨q2,he,(or_ff' q4).2,g1,g2⟩
theorem frags_comp {f:List Nd} (h:check f=0):frags (comp f)=frags f:=by
 rw[frags,comp_comp h];rfl
theorem aft_stat {a:Act} {A F e:Nat} (hF:F≤8) (hA:actI a A F=0) {f g:List Nd} (hf:statI A F f=0) (h:aftE a e f=.ok g):Can g∧root g=aftT a (root f) e∧statI A F g=0∧frT A F (root f)∧root f≠.none∧swT (root f):=by
 obtain⟨h1,h2,h3,h4,h5⟩:=aftE_inv h
 have hQ:=all_stat hf
 have hc:=comp_can h1
 have h41:A≤4:=by
  have h6:=(actI_ok hA).ags
  have:=(actI_ok hA).agn
  omega
 have hq:allT (rgQ (stM A F)) (root (comp f))=true:=by rw[root_comp h1];exact hQ
 have h6:=can_fr h41 hc hq (by rw[frags_comp h1];exact h3)
 have h7:=can_sw hc hq
 rw[root_comp h1] at h6 h7
 exact⟨h4,h5,stat_all h4 (by rw[h5];exact aftT_all (stM_clo A F) (act_Q hF hA) _ hQ e),h6,h7.1,h7.2⟩
structure Cmp (a b c:Act):Prop where
 a0:aloneI a=0
 b0:aloneI b=0
 rl:a.rel.length=b.rel.length
 n8:a.pre.length*b.pre.length≤8
 len:c.pre.length=a.pre.length*b.pre.length
 plen:c.post.length=a.pre.length*b.pre.length
 rel:c.rel=relsC a b
 cell:∀ e f,e<a.pre.length→f<b.pre.length→∃ g,aftE a e (b.pre.getD f [])=.ok g∧c.pre.getD (e*b.pre.length+f) []=buildL (n0 5) [a.pre.getD e [],g]∧buildL (n0 5) [a.pre.getD e [],g]≠[]∧asgE a e (b.post.getD f [])=.ok (c.post.getD (e*b.pre.length+f) [])
theorem cell_inv {a b:Act} {e f:Nat} {p:List Nd} {l:List Asg} (h:cellE a b (e,f)=.ok (p,l)):∃ g,aftE a e (b.pre.getD f [])=.ok g∧p=buildL (n0 5) [a.pre.getD e [],g]∧buildL (n0 5) [a.pre.getD e [],g]≠[]∧asgE a e (b.post.getD f [])=.ok l:=by
 rw[cellE_eq rfl rfl rfl] at h
 cases hg:aftE a e (b.pre.getD f []) with
 |error c=>rw[hg] at h;cases h
 |ok g =>
  rw[hg] at h
  have h:(bif (buildL (n0 5) [a.pre.getD e [],g]).isEmpty then Except.error 8 else match asgE a e (b.post.getD f []) with
   |.error c=>.error c
   |.ok l=>.ok (buildL (n0 5) [a.pre.getD e [],g],l))=Except.ok (p,l):=h
  cases hq:(buildL (n0 5) [a.pre.getD e [],g]).isEmpty with
  |true=>rw[hq] at h;cases h
  |false =>
   rw[hq,cond_false] at h
   cases hl:asgE a e (b.post.getD f []) with
   |error c=>rw[hl] at h;cases h
   |ok l' =>
    rw[hl] at h
    cases h
    exact⟨g,rfl,rfl,fun q=>(by rw[q] at hq;cases hq),rfl⟩
theorem cmp_of {a b c:Act} (h:composeI a b=(c,0)):Cmp a b c:=by
 have h2:=congrArg Prod.snd h
 unfold composeI at h h2
 by_cases q1:¬ (aloneI a=0)
 ·rw[show (aloneI a != 0)=true by simpa using q1] at h2;exact absurd h2 q1
 have q1:=Classical.not_not.1 q1
 rw[q1] at h h2
 by_cases q2:¬ (aloneI b=0)
 ·rw[show (aloneI b != 0)=true by simpa using q2] at h2;exact absurd h2 q2
 have q2:=Classical.not_not.1 q2
 rw[q2] at h h2
 by_cases q3:¬ (a.rel.length=b.rel.length)
 ·rw[show ((a.rel.length:Int) != (b.rel.length:Int))=true by simp;omega] at h2
  exact absurd (show (1:Int)=0 from h2) (by decide)
 have q3:=Classical.not_not.1 q3
 rw[show ((a.rel.length:Int) != (b.rel.length:Int))=false by simp;omega] at h h2
 by_cases q4:(a.pre.length:Int)*(b.pre.length:Int)>8
 ·rw[decide_eq_true q4] at h2
  exact absurd (show (8:Int)=0 from h2) (by decide)
 rw[decide_eq_false q4] at h h2
 have q4:a.pre.length*b.pre.length≤8:=by
  have:((a.pre.length*b.pre.length:Nat):Int)=(a.pre.length:Int)*(b.pre.length:Int):=by simp
  omega
 cases hr:runE (cellE a b) (prs a.pre.length b.pre.length) with
 |error d =>
  rw[hr] at h
  have h:(noAct,d)=(c,0):=h
  cases h
  exfalso
  have key:∀ (l:List (Nat×Nat)),runE (cellE a b) l≠.error 0:=by
   intro l
   induction l with
   |nil=>intro q;cases q
   |cons x r ih =>
    intro q
    rw[runE] at q
    cases hx:cellE a b x with
    |error d =>
     rw[hx] at q
     cases q
     obtain⟨e,f⟩:=x
     rw[cellE_eq rfl rfl rfl] at hx
     have aft0:∀ v,aftE a e v≠.error 0:=by
      intro v q
      unfold aftE at q
      generalize aftI a e v=X at q
      obtain⟨z,d⟩:=X
      by_cases q5:d=0
      ·subst q5;cases q
      ·have q:(bif d != 0 then Except.error d else Except.ok z)=(Except.error 0:Except Int (List Nd)):=q
       rw[show (d != 0)=true by simpa using q5] at q
       cases q
       exact q5 rfl
     cases hg:aftE a e (b.pre.getD f []) with
     |error d=>rw[hg] at hx;cases hx;exact aft0 _ hg
     |ok g =>
      rw[hg] at hx
      have hx:(bif (buildL (n0 5) [a.pre.getD e [],g]).isEmpty then Except.error 8 else match asgE a e (b.post.getD f []) with
       |.error c=>.error c
       |.ok l=>.ok (buildL (n0 5) [a.pre.getD e [],g],l))=Except.error 0:=hx
      cases hq:(buildL (n0 5) [a.pre.getD e [],g]).isEmpty with
      |true=>rw[hq] at hx;cases hx
      |false =>
       rw[hq,cond_false] at hx
       have add0:∀ (s out:List Asg),addE a e out s≠.error 0:=by
        intro s
        induction s with
        |nil=>intro out q;cases q
        |cons y s ih =>
         intro out q
         rw[addE_cons] at q
         cases hy:aftE a e y.to with
         |error d=>rw[hy] at q;cases q;exact aft0 _ hy
         |ok to=>rw[hy] at q;exact ih _ q
       cases hl:asgE a e (b.post.getD f []) with
       |error d=>rw[hl] at hx;cases hx;exact add0 _ _ hl
       |ok l'=>rw[hl] at hx;cases hx
    |ok y =>
     rw[hx] at q
     simp only at q
     cases hr2:runE (cellE a b) r with
     |error d=>rw[hr2] at q;cases q;exact ih hr2
     |ok l=>rw[hr2] at q;cases q
  exact key _ hr
 |ok l =>
  rw[hr] at h
  have h:((⟨l.map (·.1),l.map (·.2),relsC a b⟩:Act),(0:Int))=(c,0):=h
  cases h
  have hl:=runE_len hr
  rw[prs_len] at hl
  refine⟨q1,q2,q3,q4,by simpa using hl,by simpa using hl,rfl,fun e f he hf => ?_⟩
  obtain⟨⟨p,q⟩,g1,g2⟩:=runE_get hr (prs_get he hf)
  obtain⟨g,k1,k2,k3,k4⟩:=cell_inv g2
  have e1:(l.map (·.1)).getD (e*b.pre.length+f) []=p:=by rw[List.getD_eq_getElem?_getD,List.getElem?_map,g1];rfl
  have e2:(l.map (·.2)).getD (e*b.pre.length+f) []=q:=by rw[List.getD_eq_getElem?_getD,List.getElem?_map,g1];rfl
  exact⟨g,k1,by show (l.map (·.1)).getD _ []=_;rw[e1,k2],k3,by show asgE a e _=.ok ((l.map (·.2)).getD _ []);rw[e2];exact k4⟩
theorem addE_chgs {a:Act} {A F e:Nat} (hF:F≤8) (hA:actI a A F=0):∀ {s out l:List Asg},addE a e out s=.ok l→chgs A F out (-1)=0→(∀ x,x∈s→0≤x.fact∧x.fact<F∧statI A F x.to=0)→chgs A F l (-1)=0
 | [],out,l,h,ho,_=>by cases h;exact ho
 |y::r,out,l,h,ho,hs=>by
  rw[addE_cons] at h
  obtain⟨h1,h2,h3⟩:=hs y (by simp)
  cases hy:aftE a e y.to with
  |error c=>rw[hy] at h;cases h
  |ok to =>
   rw[hy] at h
   exact addE_chgs hF hA h (chgs_ins (x:=⟨y.fact,to⟩) ⟨h1,h2⟩ (aft_stat hF hA h3 hy).2.2.1 ho (by show (-1:Int)<y.fact;omega)) fun x hx=>hs x (List.mem_cons_of_mem _ hx)
theorem act_mk {a:Act} {A F:Nat} (hA:A≤4) (hF:F≤8) (h1:1≤a.pre.length) (h8:a.pre.length≤8) (hp:a.post.length=a.pre.length) (hr:a.rel.length=A) (hrows:∀ r,r∈a.rel→r.length=a.pre.length)
  (hb:∀ r,r∈a.rel→∀ s,s∈r→s<2^a.pre.length) (hs:∀ f,f∈a.pre→statI A F f=0) (hc:∀ l,l∈a.post→chgs A F l (-1)=0):actI a A F=0:=by
 have hrb:rowsBad a.rel a.pre.length=false:=by
  rw[rowsBad,List.any_eq_false]
  intro r h
  rw[hrows r h];simp
 have hbb:bitsBad a.rel a.pre.length=false:=by
  rw[bitsBad,List.any_eq_false]
  intro r h hh
  obtain⟨s,hs,hd⟩:=List.any_eq_true.1 hh
  have:=len64_lt.2 (hb r h s hs)
  have:=of_decide_eq_true hd
  omega
 have hsh:shapeI a A=0:=by
  unfold shapeI
  rw[hp,hrb,hbb,hr,decide_eq_false (by omega),decide_eq_false (by omega)]
  simp
 rw[actI,decide_eq_false (show ¬ (A:Int)<0 by omega),decide_eq_false (show ¬ (A:Int)>4 by omega),decide_eq_false (show ¬ (F:Int)<0 by omega),decide_eq_false (show ¬ (F:Int)>8 by omega),hsh]
 exact evs_zero hs hc
theorem act_ag {a:Act} {A F:Nat} (h:actI a A F=0):a.rel.length=A∧A≤4:=by
 have h1:=(actI_ok h).ags
 have h2:=(actI_ok h).agn
 omega
theorem pre_stat {a:Act} {A F e:Nat} (h:actI a A F=0) (he:e<a.pre.length):statI A F (a.pre.getD e [])=0 :=
 (evs_all (actI_ok h).ev).1 _ (List.mem_iff_getElem?.2 ⟨e,getD_mem he (d:=[])⟩)
theorem post_chgs {a:Act} {A F e:Nat} (h:actI a A F=0) (he:e<a.pre.length):chgs A F (a.post.getD e []) (-1)=0:=(evs_all (actI_ok h).ev).2 e he
section
variable {a b c:Act}
theorem cmp_act {A F:Nat} (h:Cmp a b c) (hF:F≤8) (hA:actI a A F=0) (hB:actI b A F=0):actI c A F=0:=by
 obtain⟨r1,r2⟩:=act_ag hA
 have oA:=actI_ok hA
 have oB:=actI_ok hB
 have a1:=oA.n1
 have b1:=oB.n1
 have hn8:=h.n8
 have hpos:1≤a.pre.length*b.pre.length:=Nat.mul_pos a1 b1
 have hl:=h.len
 refine act_mk r2 hF (by omega) (by omega) (by rw[h.plen,hl]) ?_ (fun r hr => ?_) (fun r hr s hs => ?_) (fun p hp => ?_) (fun l hl2 => ?_)
 ·rw[h.rel,relsC,List.length_map,List.length_range,r1]
 ·rw[h.rel] at hr
  obtain⟨i,_,rfl⟩:=List.mem_map.1 hr
  rw[rowC,List.length_map,prs_len,hl]
 ·rw[h.rel] at hr
  obtain⟨i,hi,rfl⟩:=List.mem_map.1 hr
  have hi:=List.mem_range.1 hi
  rw[hl]
  exact rowC_lt (oB.bits _ (List.mem_iff_getElem?.2 ⟨i,getD_mem (by rw[← h.rl];exact hi) (d:=[])⟩)) s hs
 ·obtain⟨q,hq,rfl⟩:=List.mem_iff_getElem.1 hp
  obtain⟨e,f,he,hf,hqe⟩:=ix_pair (show q<a.pre.length*b.pre.length by omega)
  obtain⟨g,k1,k2,k3,_⟩:=h.cell e f he hf
  have hpq:c.pre[q]=buildL (n0 5) [a.pre.getD e [],g]:=by
   rw[← k2,← hqe,List.getD_eq_getElem?_getD,List.getElem?_eq_getElem hq];rfl
  rw[hpq]
  obtain⟨_,_,hC,hT⟩:=two_inv (op:=5) (by simp) k3
  refine stat_all hC ?_
  rw[hT,allT,Bool.and_eq_true,Bool.and_eq_true]
  exact⟨⟨(stM_clo A F).an,all_stat (pre_stat hA he)⟩,all_stat (aft_stat hF hA (pre_stat hB hf) k1).2.2.1⟩
 ·obtain⟨q,hq,rfl⟩:=List.mem_iff_getElem.1 hl2
  obtain⟨e,f,he,hf,hqe⟩:=ix_pair (show q<a.pre.length*b.pre.length by rw[← h.plen];exact hq)
  obtain⟨g,_,_,_,k4⟩:=h.cell e f he hf
  have hpq:c.post[q]=c.post.getD (e*b.pre.length+f) []:=by
   rw[← hqe,List.getD_eq_getElem?_getD,List.getElem?_eq_getElem hq];rfl
  rw[hpq]
  exact addE_chgs hF hA k4 (chgs_comp (post_chgs hA he)) fun x hx=>by
   obtain⟨_,q2,q3,q4⟩:=(chgs_asc (post_chgs hB hf)).2 x hx
   exact⟨q2,q3,q4⟩
variable {m:Mo} {n:Nat}
section
variable (h:Cmp a b c) (hA:actI a m.rel.length m.val.length=0) (hB:actI b m.rel.length m.val.length=0)
variable (hP:Pr m n a (pairsL m a))
end
end
def HZ (a:Act) (l:List Asg):List (Nat×DObj):=[(0,.var (cellsA a)),(1,.arr 2 (l.map Asg.pv))]
theorem cp_compactD {M:Nat→Prop} {w0:W0} (a:Act) (l:List Asg) (hl:l.length≤1000) (base:Nat) (_hb:Nat.ble base 2=true) (K:DV→DH→Prop) (hK:K (.buf 1 ((compA l).map Asg.pv).length) ⟨2,0,base,objsOf (HZ a (compA l))⟩) :
  DC Tryz.prog M w0 85 [.pv (postPV l)] ⟨1,0,base,objsOf [(0,.var (cellsA a))]⟩ K:=by
 refine DC.weaken (DC.intro mixed (fn:=Tryz.f85) rfl rfl rfl ?_)
 try conv=>whnf
 refine⟨{ i:Nat // i≤l.length },fun i=>[(3,.buf 1 ((compA (l.take i.1)).map Asg.pv).length),(6,.pv (.sl (l.map Asg.pv))),(7,.pv (i64 (l.map Asg.pv).length)),(8,.pv (i64 i.1))],fun _=>2,fun i=>HZ a (compA (l.take i.1)),fun i=>l.length-i.1,⟨⟨0,Nat.zero_le _⟩,(by refine Wk.of ?_ ?_ rfl rfl rfl<;>repeat' (first|exact trivial|exact WkD.same _|exact WkO.same _ _ rfl|exact WkD.new' rfl rfl rfl|exact WkO.new _ _ rfl|exact rfl|refine⟨?_,?_⟩|fail))⟩,?_⟩
 rintro⟨i,hi⟩
 (try conv=>whnf);repeat' (first|(apply And.intro<;>try conv=>whnf)|(intro h;try conv=>whnf)|(apply infoT;rfl)|fail)
 ·have hi':i<l.length:=by simpa using lt_dec h
  obtain⟨x,hx⟩:∃ x,l[i]? = some x:=⟨_,List.getElem?_eq_getElem hi'⟩
  have hvsl:((compA (l.take i)).map Asg.pv).length≤1000:=by simp[compA];omega
  have er:(compA (l.take i)).map Asg.pv++[.agg [.int .i64 x.fact,fpv (comp x.to)]]=(compA (l.take (i+1))).map Asg.pv:=by
   rw[compA,compA,List.take_add_one,hx,List.map_append,List.map_append];rfl
  refine⟨_,_,rfl,idx_map hx,rfl,?_⟩
  try conv=>whnf
  refine⟨Plan.lin 0 10,[],by kernel_rfl,?_⟩
  (try conv=>whnf);repeat' (first|(apply And.intro<;>try conv=>whnf)|(apply cellsI;rfl)|(apply szI;rfl)|(refine⟨_,(by (conv=>whnf);exact fm_Compact _),rfl,?_⟩;try conv=>whnf)|fail)
  ·exact app_big (n:=1000) hvsl (by decide)
  ·refine⟨⟨i+1,hi'⟩,by show l.length-(i+1)<l.length-i;omega,?_⟩
   (refine Wk.of ?_ ?_ rfl rfl rfl<;>repeat' (first|exact trivial|exact WkD.same _|exact WkO.same _ _ rfl|exact WkD.eq (congrArg (fun z:List PV=>DV.buf _ z.length) er)|exact WkO.same _ _ (congrArg (fun z=>some (DObj.arr _ z)) er)|refine WkD.int ?_|refine⟨?_,?_⟩|(refine wrapA ?_ ?_ ?_;(focus simp;done);(focus (try dsimp only);omega);(focus (try dsimp only);omega))|fail))
 ·have hi':i=l.length:=by have:=ge_dec (m:=(l.map Asg.pv).length) h (by simpa using hi);simpa using this
  subst hi'
  refine⟨.buf 1 ((compA (l.take l.length)).map Asg.pv).length,2,HZ a (compA (l.take l.length)),(by refine Wk.of ?_ ?_ rfl rfl rfl<;>repeat' (first|exact trivial|exact WkD.same _|exact WkO.same _ _ rfl|refine⟨?_,?_⟩|fail)),?_⟩
  rw[List.take_length]
  exact hK
def HY (a:Act) (l:List Asg) (x:Asg):List (Nat×DObj):=[(0,.var (cellsA a)),(1,.arr 2 (l.map Asg.pv)),(2,.var [.pv (.int .i64 x.fact),.pv (fpv x.to)])]
theorem asg_cmp (x:Asg) (t:Int):PureFn Tryz.prog 112 [x.pv,.int .i64 t] (.int .i64 (IntKind.wrap .i64 (x.fact-t))):=by
 refine PureFn.intro mixed (fn:=Tryz.f112) rfl rfl rfl fun M w0 => ?_
 try conv=>whnf
 exact .refl _
def plcA (l:List Asg) (t:Int):Nat:=(l.takeWhile fun x=>decide (x.fact<t)).length
theorem plc_le (l:List Asg) (t:Int):plcA l t≤l.length:=(List.takeWhile_sublist _).length_le
theorem plc_of {t:Int}:∀ {l:List Asg} {i:Nat},i≤l.length→(∀ k x,k<i→l[k]? = some x→x.fact<t)→(∀ x,l[i]? = some x→t≤x.fact)→plcA l t=i
 | [],i,hi,_,_=>by
  have:i=0:=by simpa using hi
  subst this;rfl
 |y::r,0,_,_,h2=>by
  have:=h2 y rfl
  rw[plcA,List.takeWhile_cons,decide_eq_false (by omega)];rfl
 |y::r,i+1,hi,h1,h2=>by
  have h0:=h1 0 y (by omega) rfl
  have ih:=plc_of (l:=r) (i:=i) (by simpa using hi) (fun k x hk hx=>h1 (k+1) x (by omega) (by simpa using hx)) (fun x hx=>h2 x (by simpa using hx))
  rw[plcA,List.takeWhile_cons,decide_eq_true h0]
  show (List.takeWhile _ r).length+1=i+1
  rw[← ih,plcA]
def fndA (l:List Asg) (t:Int):Bool:=match l[plcA l t]? with
 |some x=>x.fact==t
 |none=>false
structure AscA (l:List Asg):Prop where
 asc:l.Pairwise (fun x y=>x.fact<y.fact)
 lo:∀ x,x∈l→0≤x.fact∧x.fact<8
theorem AscA.lt {l:List Asg} (h:AscA l) {i j:Nat} {x y:Asg} (hij:i<j) (hx:l[i]? = some x) (hy:l[j]? = some y):x.fact<y.fact:=by
 have:=h.asc
 rw[List.pairwise_iff_getElem] at this
 obtain⟨a1,a2⟩:=List.getElem?_eq_some_iff.1 hx
 obtain⟨b1,b2⟩:=List.getElem?_eq_some_iff.1 hy
 rw[← a2,← b2]
 exact this i j a1 b1 hij
theorem halfA {i j:Nat} (h1:i≤1000) (h2:j≤1000):IntKind.wrap .i64 ((IntKind.wrap .u64 (IntKind.wrap .i64 ((i:Int)+(j:Int)))).fdiv 2)=(((i+j) / 2:Nat):Int):=by
 have e1:IntKind.wrap .i64 ((i:Int)+(j:Int))=(i:Int)+(j:Int):=Go.Dv.wrap_small (by omega) (by omega)
 have e2:IntKind.wrap .u64 ((i:Int)+(j:Int))=(i:Int)+(j:Int):=wrapU (by omega) (by omega)
 rw[e1,e2]
 have:((i:Int)+(j:Int)).fdiv 2=(((i+j) / 2:Nat):Int):=by
  rw[Int.fdiv_eq_ediv_of_nonneg _ (by decide)];omega
 rw[this,Go.Dv.wrap_small (by omega) (by omega)]
theorem asg_search {M:Nat→Prop} {w0:W0} (a:Act) (l:List Asg) (x:Asg) (t:Int) (hA:AscA l) (h8:l.length≤8) (ht:0≤t∧t<8) (base:Nat) (_hb:Nat.ble base 3=true) (K:DV→DH→Prop)
  (hK:K (.tup [.pv (i64 (plcA l t)),.pv (.bool (fndA l t))]) ⟨3,0,base,objsOf (HY a l x)⟩) :
  DC Tryz.prog M w0 111 [.buf 1 (l.map Asg.pv).length,.pv (.int .i64 t),.clo 112 [] []] ⟨3,0,base,objsOf (HY a l x)⟩ K:=by
 have e0:((l.map Asg.pv).length:Int)=(l.length:Int):=by simp
 refine DC.weaken (DC.introC [5,8] mixed (fn:=Tryz.f111) rfl rfl rfl ?_)
 try conv=>whnf
 refine⟨Unit,fun _=>[(0,.buf 1 (l.map Asg.pv).length),(1,.pv (.int .i64 t)),(2,.clo 112 [] []),(8,.pv (i64 (l.map Asg.pv).length)),(9,.pv (i64 (plcA l t)))],fun _=>3,fun _=>HY a l x,?_,?_⟩
 ·try conv=>whnf
  refine⟨{ q:Nat×Nat // q.1≤q.2∧q.2≤l.length∧(∀ k y,k<q.1→l[k]? = some y→y.fact<t)∧∀ k y,q.2≤k→l[k]? = some y→t≤y.fact },fun q=>[(0,.buf 1 (l.map Asg.pv).length),(1,.pv (.int .i64 t)),(2,.clo 112 [] []),(8,.pv (i64 (l.map Asg.pv).length)),(9,.pv (i64 q.1.1)),(10,.pv (i64 q.1.2))],fun _=>3,fun _=>HY a l x,fun q=>q.1.2-q.1.1,⟨⟨(0,l.length),Nat.zero_le _,Nat.le_refl _,fun k y h=>absurd h (Nat.not_lt_zero k),fun k y h hy=>absurd (List.getElem?_eq_some_iff.1 hy).1 (Nat.not_lt.2 h)⟩,?_⟩,?_⟩
  ·(refine Wk.of ?_ ?_ rfl rfl rfl<;>repeat' (first|exact trivial|exact WkD.same _|exact WkO.same _ _ rfl|refine WkD.int ?_|refine⟨?_,?_⟩|fail))
   exact e0
  rintro⟨⟨i,j⟩,hij,hj,h1,h2⟩
  simp only at hij hj h1 h2
  (try conv=>whnf);repeat' (first|(apply And.intro<;>try conv=>whnf)|(intro h;try conv=>whnf)|fail)
  ·have hlt:i<j:=by simpa using lt_dec h
   refine⟨Unit,fun _=>[(0,.buf 1 (l.map Asg.pv).length),(1,.pv (.int .i64 t)),(2,.clo 112 [] []),(8,.pv (i64 (l.map Asg.pv).length)),(9,.pv (i64 i)),(10,.pv (i64 j)),(11,.pv (i64 ((i+j) / 2)))],fun _=>3,fun _=>HY a l x,?_,?_⟩
   ·(try conv=>whnf);repeat' (first|(apply And.intro<;>try conv=>whnf)|fail)
    ·exact (by decide:(0:Int)≤1)
    refine⟨(),?_⟩
    (refine Wk.of ?_ ?_ rfl rfl rfl<;>repeat' (first|exact trivial|exact WkD.same _|exact WkO.same _ _ rfl|refine WkD.int ?_|refine⟨?_,?_⟩|fail))
    exact halfA (i:=i) (j:=j) (by omega) (by omega)
   rintro⟨⟩
   obtain⟨b1,b2⟩:i≤(i+j) / 2∧(i+j) / 2<j:=by omega
   generalize (i+j) / 2=c at b1 b2
   obtain⟨y,hy⟩:∃ y,l[c]? = some y:=⟨_,List.getElem?_eq_getElem (by omega)⟩
   have hC:=asg_cmp y t
   have hyb:=hA.lo y (List.mem_iff_getElem?.2 ⟨c,hy⟩)
   rw[Go.Dv.wrap_small (by omega) (by omega)] at hC
   have hix:=idx_map (g:=Asg.pv) hy
   have hcl:c<(l.map Asg.pv).length:=by rw[List.length_map];omega
   (try conv=>whnf);repeat' (first|(apply And.intro<;>try conv=>whnf)|(intro h;try conv=>whnf)|(apply ex2;(focus with_reducible assumption);try conv=>whnf)|(refine PureFn.dcq (f:=112) rfl ?_;try conv=>whnf)|(refine⟨_,rfl,(by with_reducible assumption),?_⟩;try conv=>whnf)|(refine⟨_,_,hC,?_,?_⟩;(focus first|(refine⟨?_,?_,trivial⟩<;>first|exact PLe.refl _|exact PLe.nil)|exact trivial);try conv=>whnf)|fail)
   ·have hyt:y.fact<t:=by
     have:=of_decide_eq_true (show decide (y.fact-t<0)=true from h)
     omega
    refine⟨⟨(c+1,j),by show c+1≤j;omega,hj,fun k z hk hz => ?_,h2⟩,by show j-(c+1)<j-i;omega,(by refine Wk.of ?_ ?_ rfl rfl rfl<;>repeat' (first|exact trivial|exact WkD.same _|exact WkO.same _ _ rfl|refine WkD.int ?_|refine⟨?_,?_⟩|(refine wrapA ?_ ?_ ?_;(focus simp;done);(focus (try dsimp only);omega);(focus (try dsimp only);omega))|fail))⟩
    have hk:k<c+1:=hk
    by_cases e:k=c
    ·subst e
     rw[hy] at hz
     cases hz
     exact hyt
    ·have:=hA.lt (show k<c by omega) hz hy
     omega
   ·have hyt:t≤y.fact:=by
     have:=of_decide_eq_false (show decide (y.fact-t<0)=false from h)
     omega
    refine⟨⟨(i,c),b1,by show c≤l.length;omega,h1,fun k z hk hz => ?_⟩,by show c-i<j-i;omega,(by refine Wk.of ?_ ?_ rfl rfl rfl<;>repeat' (first|exact trivial|exact WkD.same _|exact WkO.same _ _ rfl|refine⟨?_,?_⟩|fail))⟩
    have hk:c≤k:=hk
    by_cases e:k=c
    ·subst e
     rw[hy] at hz
     cases hz
     exact hyt
    ·have:=hA.lt (show c<k by omega) hy hz
     omega
  ·have hge:j≤i:=by have:=of_decide_eq_false (show decide ((i:Int)<(j:Int))=false from h);omega
   have hp:plcA l t=i:=plc_of (by omega) h1 fun y hy=>h2 i y hge hy
   refine⟨(),?_⟩
   (refine Wk.of ?_ ?_ rfl rfl rfl<;>repeat' (first|exact trivial|exact WkD.same _|exact WkO.same _ _ rfl|refine WkD.int ?_|refine⟨?_,?_⟩|fail))
   exact congrArg (fun z:Nat=>(z:Int)) hp.symm
 rintro⟨⟩
 have hpl:=plc_le l t
 by_cases hlt:plcA l t<l.length
 ·obtain⟨y,hy⟩:∃ y,l[plcA l t]? = some y:=⟨_,List.getElem?_eq_getElem hlt⟩
  have hC:=asg_cmp y t
  have hyb:=hA.lo y (List.mem_iff_getElem?.2 ⟨_,hy⟩)
  rw[Go.Dv.wrap_small (by omega) (by omega)] at hC
  have hf:fndA l t=(y.fact==t):=by rw[fndA,hy]
  rw[hf] at hK
  generalize plcA l t=c at hlt hy hpl hK
  have hix:=idx_map (g:=Asg.pv) hy
  have hcl:c<(l.map Asg.pv).length:=by rw[List.length_map];omega
  (try conv=>whnf);repeat' (first|(apply And.intro<;>try conv=>whnf)|(intro h;try conv=>whnf)|apply True.intro|(apply WhenQ.mk;(try conv=>whnf);rotate_left;(try conv=>whnf);rotate_right)|with_reducible assumption|(apply ex2;(focus with_reducible assumption);try conv=>whnf)|(refine PureFn.dcq (f:=112) rfl ?_;try conv=>whnf)|(refine⟨_,rfl,(by with_reducible assumption),?_⟩;try conv=>whnf)|(refine⟨_,_,hC,?_,?_⟩;(focus first|(refine⟨?_,?_,trivial⟩<;>first|exact PLe.refl _|exact PLe.nil)|exact trivial);try conv=>whnf)|fail)
  refine⟨.tup [.pv (i64 c),.pv (.bool (y.fact==t))],3,HY a l x,?_,hK⟩
  (refine Wk.of ?_ ?_ rfl rfl rfl<;>repeat' (first|exact trivial|exact WkO.same _ _ rfl|refine⟨?_,?_⟩|fail))
  refine WkD.eq ?_
  show DV.tup [.pv (i64 c),.pv (.bool (bif decide ((c:Int)<((l.map Asg.pv).length:Int)) then (y.fact-t==0) else false))]=_
  have hb:(y.fact-t==0)=(y.fact==t):=by rw[Bool.eq_iff_iff];simp;omega
  rw[decide_eq_true (by omega),cond_true,hb]
 ·have f1:decide (((plcA l t:Nat):Int)<((l.map Asg.pv).length:Int))=false:=by rw[e0];exact decide_eq_false (by omega)
  (try conv=>whnf);repeat' (first|(apply And.intro<;>try conv=>whnf)|(intro h;first|with_reducible exact tf h (by assumption)|try conv=>whnf)|(apply whenOff;(focus with_reducible assumption);try conv=>whnf)|fail)
  refine⟨.tup [.pv (i64 (plcA l t)),.pv (.bool (fndA l t))],3,HY a l x,?_,hK⟩
  (refine Wk.of ?_ ?_ rfl rfl rfl<;>repeat' (first|exact trivial|exact WkO.same _ _ rfl|refine⟨?_,?_⟩|fail))
  refine WkD.eq ?_
  show DV.tup [.pv (i64 (plcA l t)),.pv (.bool (bif decide (((plcA l t:Nat):Int)<((l.map Asg.pv).length:Int)) then _ else false))]=_
  rw[f1,cond_false,fndA,List.getElem?_eq_none (by omega)]
theorem asc_len:∀ {l:List Asg} {lo:Int},l.Pairwise (fun x y=>x.fact<y.fact)→(∀ x,x∈l→lo≤x.fact∧x.fact<8)→lo≤8→(l.length:Int)≤8-lo
 | [],lo,_,_,h=>by simp;omega
 |y::r,lo,hp,hb,h=>by
  obtain⟨h1,h2⟩:=List.pairwise_cons.1 hp
  obtain⟨b1,b2⟩:=hb y (by simp)
  have:=asc_len (l:=r) (lo:=y.fact+1) h2 (fun x hx=>⟨by have:=h1 x hx;omega,(hb x (List.mem_cons_of_mem _ hx)).2⟩) (by omega)
  rw[List.length_cons]
  omega
theorem AscA.len {l:List Asg} (h:AscA l):l.length≤8:=by
 have:=asc_len (lo:=0) h.asc h.lo (by decide)
 omega
theorem insA_mem {y:Asg}:∀ {l:List Asg} {x:Asg},x∈insA l y→x.fact=y.fact∨x∈l
 | [],x,h=>by
  rw[List.mem_singleton.1 (show x∈[y] from h)]
  exact .inl rfl
 |z::r,x,h=>by
  rw[insA] at h
  by_cases h1:z.fact<y.fact
  ·rw[decide_eq_true h1,cond_true] at h
   rcases List.mem_cons.1 h with rfl|h
   ·exact .inr (by simp)
   ·rcases insA_mem h with e|e
    ·exact .inl e
    ·exact .inr (List.mem_cons_of_mem _ e)
  ·rw[decide_eq_false h1,cond_false] at h
   by_cases h2:z.fact=y.fact
   ·rw[decide_eq_true h2,cond_true] at h
    rcases List.mem_cons.1 h with rfl|h
    ·exact .inl h2
    ·exact .inr (List.mem_cons_of_mem _ h)
   ·rw[decide_eq_false h2,cond_false] at h
    rcases List.mem_cons.1 h with rfl|h
    ·exact .inl rfl
    ·exact .inr h
theorem insA_asc {y:Asg}:∀ {l:List Asg},l.Pairwise (fun x y=>x.fact<y.fact)→(insA l y).Pairwise (fun x y=>x.fact<y.fact)
 | [],_=>List.pairwise_singleton _ _
 |z::r,h=>by
  obtain⟨g1,g2⟩:=List.pairwise_cons.1 h
  rw[insA]
  by_cases h1:z.fact<y.fact
  ·rw[decide_eq_true h1,cond_true]
   refine List.pairwise_cons.2 ⟨fun x hx => ?_,insA_asc g2⟩
   rcases insA_mem hx with e|e
   ·omega
   ·exact g1 x e
  ·rw[decide_eq_false h1,cond_false]
   by_cases h2:z.fact=y.fact
   ·rw[decide_eq_true h2,cond_true]
    exact List.pairwise_cons.2 ⟨fun x hx=>g1 x hx,g2⟩
   ·rw[decide_eq_false h2,cond_false]
    refine List.pairwise_cons.2 ⟨fun x hx => ?_,h⟩
    rcases List.mem_cons.1 hx with rfl|hx
    ·omega
    ·have:=g1 x hx;omega
theorem AscA.ins {l:List Asg} (h:AscA l) {y:Asg} (hy:0≤y.fact∧y.fact<8):AscA (insA l y) :=
 ⟨insA_asc h.asc,fun x hx=>by
  rcases insA_mem hx with e|e
  ·rw[e];exact hy
  ·exact h.lo x e⟩
theorem plc_cons {z:Asg} {r:List Asg} {t:Int} (h:z.fact<t):plcA (z::r) t=plcA r t+1:=by
 rw[plcA,List.takeWhile_cons,decide_eq_true h];rfl
theorem plc_zero {z:Asg} {r:List Asg} {t:Int} (h:¬ z.fact<t):plcA (z::r) t=0:=by
 rw[plcA,List.takeWhile_cons,decide_eq_false h];rfl
theorem insA_eq {y:Asg}:∀ {l:List Asg},insA l y=bif fndA l y.fact then l.set (plcA l y.fact) ⟨y.fact,y.to⟩ else l.take (plcA l y.fact)++y::l.drop (plcA l y.fact)
 | []=>rfl
 |z::r=>by
  rw[insA]
  by_cases h1:z.fact<y.fact
  ·have hf:fndA (z::r) y.fact=fndA r y.fact:=by rw[fndA,fndA,plc_cons h1];rfl
   rw[decide_eq_true h1,cond_true,insA_eq,hf,plc_cons h1]
   cases fndA r y.fact with
   |true=>rfl
   |false=>rfl
  ·rw[decide_eq_false h1,cond_false]
   have hf:fndA (z::r) y.fact=(z.fact==y.fact):=by rw[fndA,plc_zero h1];rfl
   rw[hf,plc_zero h1]
   by_cases h2:z.fact=y.fact
   ·rw[decide_eq_true h2,show (z.fact==y.fact)=true by simpa using h2,cond_true,cond_true,h2];rfl
   ·rw[decide_eq_false h2,show (z.fact==y.fact)=false by simpa using h2,cond_false,cond_false];rfl
def InsOk (M:Nat→Prop) (w0:W0):Prop:=∀ (a:Act) (l:List Asg) (x y:Asg) (i base:Nat) (K:DV→DH→Prop),i≤l.length→l.length≤8 →
 K (.buf 1 ((l.take i++y::l.drop i).map Asg.pv).length) ⟨3,0,base,objsOf (HY a (l.take i++y::l.drop i) x)⟩ →
 DC Tryz.prog M w0 113 [.buf 1 (l.map Asg.pv).length,.pv (i64 i),.pv (.sl [y.pv])] ⟨3,0,base,objsOf (HY a l x)⟩ K
theorem addE_drop {a:Act} {e k:Nat} {s:List Asg} {x:Asg} {out:List Asg} (hx:s[k]? = some x):addE a e out (s.drop k)=match aftE a e x.to with
  |.error c=>.error c
  |.ok to=>addE a e (insA out ⟨x.fact,to⟩) (s.drop (k+1)):=by
 obtain⟨h1,h2⟩:=List.getElem?_eq_some_iff.1 hx
 rw[List.drop_eq_getElem_cons h1,h2];rfl
theorem cp_assignments (a:Act) (e:Nat) (s:List Asg) (hS:SmX a) (hI:∀ M w0,InsOk M w0) (he:e<a.post.length) (hA:AscA (a.post.getD e [])) (hs:AscA s):PanFn Tryz.prog 71 [a.pv,i64 e,postPV s] (toE postPV (asgE a e s)):=by
 obtain⟨q,hq⟩:∃ y,a.post[e]? = some y:=⟨_,List.getElem?_eq_getElem he⟩
 have hqd:a.post.getD e []=q:=by rw[List.getD_eq_getElem?_getD,hq];rfl
 obtain⟨R,hR⟩:∃ R,R=asgE a e s:=⟨_,rfl⟩
 rw[← hR]
 rw[asgE,hqd] at hR
 rw[hqd] at hA
 have hAc:AscA (compA q):=by
  refine⟨?_,fun x hx => ?_⟩
  ·rw[compA,List.pairwise_map];exact hA.asc
  ·obtain⟨z,hz,rfl⟩:=List.mem_map.1 hx
   exact hA.lo z hz
 have hix:=idx_map (g:=postPV) hq
 have hql:=hA.len
 have hsl:=hs.len
 refine PanFn.introC [6,7] mixed (fn:=Tryz.f71) rfl rfl rfl fun M w => ?_
 (try conv=>whnf);repeat' (first|(apply And.intro<;>try conv=>whnf)|(apply infoT;rfl)|(refine⟨_,_,rfl,idx_map (by with_reducible assumption),rfl,?_⟩;try conv=>whnf)|fail)
 refine DC.wkIn (args':=[.pv (postPV q)]) (nx:=1) (Hl:=[(0,.var (cellsA a))]) (cp_compactD a q (by omega) _ rfl _ ?_) (by refine Wk.of ?_ ?_ rfl rfl rfl<;>repeat' (first|exact trivial|exact WkO.same _ _ rfl|refine⟨?_,?_⟩|fail)) (Nat.le_refl 1) ⟨.same _,trivial⟩ rfl
 try conv=>whnf
 refine⟨{ p:Nat×List Asg // p.1≤s.length∧AscA p.2∧R=addE a e p.2 (s.drop p.1) },fun p=>[(1,.pv (i64 e)),(3,.ref 0 0),(7,.buf 1 (p.1.2.map Asg.pv).length),(19,.pv (postPV s)),(20,.pv (i64 (s.map Asg.pv).length)),(21,.pv (i64 p.1.1))],fun _=>2,fun p=>HZ a p.1.2,fun p=>s.length-p.1.1,⟨⟨(0,compA q),Nat.zero_le _,hAc,hR⟩,(by refine Wk.of ?_ ?_ rfl rfl rfl<;>repeat' (first|exact trivial|exact WkD.same _|exact WkO.same _ _ rfl|refine⟨?_,?_⟩|fail))⟩,?_⟩
 rintro⟨⟨k,out⟩,hk,hO,hRk⟩
 have hRk:R=addE a e out (s.drop k):=hRk
 have hOl:out.length≤8:=hO.len
 clear hR
 (try conv=>whnf);repeat' (first|(apply And.intro<;>try conv=>whnf)|(intro h;try conv=>whnf)|(apply infoT;rfl)|(apply bleI;rfl)|fail)
 ·have hk':k<s.length:=by simpa using lt_dec h
  obtain⟨x,hx⟩:∃ y,s[k]? = some y:=⟨_,List.getElem?_eq_getElem hk'⟩
  have hxb:=hs.lo x (List.mem_iff_getElem?.2 ⟨_,hx⟩)
  have hAf:=cp_after a e x.to hS
  have hdr:=addE_drop (a:=a) (e:=e) (out:=out) hx
  rw[← hRk] at hdr
  refine⟨_,_,rfl,idx_map hx,rfl,?_⟩
  try conv=>whnf
  refine⟨{ to:List Nd // aftE a e x.to=.ok to },fun to=>[(1,.pv (i64 e)),(3,.ref 0 0),(7,.buf 1 (out.map Asg.pv).length),(9,.ref 2 0),(10,.pv (fpv to.1)),(19,.pv (postPV s)),(20,.pv (i64 (s.map Asg.pv).length)),(21,.pv (i64 k))],fun _=>3,fun _=>HY a out x,?_,?_⟩
  ·try conv=>whnf
   cases haf:aftE a e x.to with
   |error c =>
    rw[haf] at hAf hdr
    refine PanFn.dcq hAf ?_
    (try conv=>whnf);repeat' (first|(apply And.intro<;>try conv=>whnf)|apply True.intro|fail)
    iterate 3 exact .refl _
    rw[hdr];rfl
   |ok to =>
    rw[haf] at hAf hdr
    refine PanFn.dcq hAf ?_
    (try conv=>whnf);repeat' (first|(apply And.intro<;>try conv=>whnf)|apply True.intro|fail)
    iterate 3 exact .refl _
    exact⟨⟨to,rfl⟩,(by refine Wk.of ?_ ?_ rfl rfl rfl<;>repeat' (first|exact trivial|exact WkD.same _|exact WkO.same _ _ rfl|refine⟨?_,?_⟩|fail))⟩
  rintro⟨to,hto⟩
  rw[hto] at hdr
  have hdr:R=addE a e (insA out ⟨x.fact,to⟩) (s.drop (k+1)):=hdr
  have hins:=insA_eq (y:=⟨x.fact,to⟩) (l:=out)
  have hOi:=hO.ins (y:=⟨x.fact,to⟩) hxb
  refine⟨{ q:Nat×Bool // q.1=plcA out x.fact∧q.2=fndA out x.fact },fun q=>[(1,.pv (i64 e)),(3,.ref 0 0),(7,.buf 1 (out.map Asg.pv).length),(9,.ref 2 0),(10,.pv (fpv to)),(11,.pv (i64 q.1.1)),(12,.pv (.bool q.1.2)),(19,.pv (postPV s)),(20,.pv (i64 (s.map Asg.pv).length)),(21,.pv (i64 k))],fun _=>3,fun _=>HY a out x,?_,?_⟩
  ·try conv=>whnf
   refine DC.wkIn (args':=[.buf 1 (out.map Asg.pv).length,.pv (.int .i64 x.fact),.clo 112 [] []]) (nx:=3) (Hl:=HY a out x) (asg_search a out x x.fact hO hOl hxb _ rfl _ ?_) (by refine Wk.of ?_ ?_ rfl rfl rfl<;>repeat' (first|exact trivial|exact WkO.same _ _ rfl|refine⟨?_,?_⟩|fail)) (Nat.le_refl 3) ⟨.same _,.same _,.same _,trivial⟩ rfl
   try conv=>whnf
   exact⟨⟨(plcA out x.fact,fndA out x.fact),rfl,rfl⟩,(by refine Wk.of ?_ ?_ rfl rfl rfl<;>repeat' (first|exact trivial|exact WkD.same _|exact WkO.same _ _ rfl|refine⟨?_,?_⟩|fail))⟩
  rintro⟨⟨p,fb⟩,hp,hfb⟩
  have hp:p=plcA out x.fact:=hp
  have hfb:fb=fndA out x.fact:=hfb
  have hpl:=plc_le out x.fact
  have hins:insA out ⟨x.fact,to⟩=bif fb then out.set p ⟨x.fact,to⟩ else out.take p++⟨x.fact,to⟩::out.drop p:=by rw[hins,← hp,← hfb]
  rw[← hp] at hpl
  cases fb with
  |true =>
   obtain⟨z,hz,hzf⟩:∃ z,out[p]? = some z∧z.fact=x.fact:=by
    rw[fndA,← hp] at hfb
    cases hz:out[p]? with
    |none=>rw[hz] at hfb;cases hfb
    |some z=>rw[hz] at hfb;exact⟨z,rfl,by simpa using hfb.symm⟩
   have hpl':p<(out.map Asg.pv).length:=by rw[List.length_map];exact (List.getElem?_eq_some_iff.1 hz).1
   have hix:=idx_map (g:=Asg.pv) hz
   have er:(out.map Asg.pv).set p (.agg [.int .i64 z.fact,fpv to])=(insA out ⟨x.fact,to⟩).map Asg.pv:=by
    rw[hins,cond_true,List.map_set,hzf];rfl
   have hlen:(out.map Asg.pv).length=((insA out ⟨x.fact,to⟩).map Asg.pv).length:=by rw[← er,List.length_set]
   (try conv=>whnf);repeat' (first|(apply And.intro<;>try conv=>whnf)|(intro h;first|with_reducible exact tf0 h|try conv=>whnf)|(apply ex2;(focus with_reducible assumption);try conv=>whnf)|(refine⟨_,rfl,(by with_reducible assumption),?_⟩;try conv=>whnf)|fail)
   ·exact hpl'
   ·exact Nat.le_refl 2
   ·refine⟨⟨(k+1,insA out ⟨x.fact,to⟩),hk',hOi,hdr⟩,by show s.length-(k+1)<s.length-k;omega,?_⟩
    (refine Wk.of ?_ ?_ rfl rfl rfl<;>repeat' (first|exact trivial|exact WkD.same _|exact WkO.same _ _ rfl|exact WkO.same _ _ (congrArg (fun z=>some (DObj.arr _ z)) er)|refine WkD.int ?_|refine⟨?_,?_⟩|(refine wrapA ?_ ?_ ?_;(focus simp;done);(focus (try dsimp only);omega);(focus (try dsimp only);omega))|fail))
    exact WkD.eq (congrArg (DV.buf 1) hlen)
  |false =>
   have er:insA out ⟨x.fact,to⟩=out.take p++⟨x.fact,to⟩::out.drop p:=hins
   (try conv=>whnf);repeat' (first|(apply And.intro<;>try conv=>whnf)|(intro h;first|with_reducible exact ft0 h|try conv=>whnf)|(apply cellsI;rfl)|fail)
   refine DC.wkIn (args':=[.buf 1 (out.map Asg.pv).length,.pv (i64 p),.pv (.sl [Asg.pv ⟨x.fact,to⟩])]) (nx:=3) (Hl:=HY a out x) (hI _ _ a out x ⟨x.fact,to⟩ p _ _ hpl hOl ?_) (by refine Wk.of ?_ ?_ rfl rfl rfl<;>repeat' (first|exact trivial|exact WkO.same _ _ rfl|refine⟨?_,?_⟩|fail)) (Nat.le_refl 3) ⟨.same _,.same _,.same _,trivial⟩ rfl
   rw[← er]
   try conv=>whnf
   refine⟨⟨(k+1,insA out ⟨x.fact,to⟩),hk',hOi,hdr⟩,by show s.length-(k+1)<s.length-k;omega,(by refine Wk.of ?_ ?_ rfl rfl rfl<;>repeat' (first|exact trivial|exact WkD.same _|exact WkO.same _ _ rfl|refine WkD.int ?_|refine⟨?_,?_⟩|(refine wrapA ?_ ?_ ?_;(focus simp;done);(focus (try dsimp only);omega);(focus (try dsimp only);omega))|fail))⟩
 ·have hk':k=s.length:=by have:=ge_dec (m:=(s.map Asg.pv).length) h (by simpa using hk);simpa using this
  subst hk'
  rw[List.drop_length] at hRk
  have hR2:R=.ok out:=by rw[hRk];rfl
  refine⟨.sl (out.map Asg.pv),?_,.refl _⟩
  rw[show toE postPV R=toE postPV (.ok out) from congrArg _ hR2];rfl
end Go.Proofs.YtejbieopeicgkaaGreatDoor
