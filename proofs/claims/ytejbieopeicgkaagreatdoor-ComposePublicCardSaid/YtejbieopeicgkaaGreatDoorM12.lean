/- Parts of the proof, one after the other: Simplified action models: what the program makes of one (plain), the place of an event walked. Simplified action models: Simplify of the program walked. Events that differ: Differ of the program walked. The example of the laws of compositions walked. The law ComposePublic: two public announcements, one after the other. -/
import Derived.Test.YtejbieopeicgkaaGreatDoorM11
set_option maxRecDepth 100000
set_option maxHeartbeats 4000000
namespace Go.Proofs.YtejbieopeicgkaaGreatDoor
open Go Go.Dv
def ffF:List Nd:=buildL (n0 2) []
def evtL (s:Act):List Nat:=(List.range s.pre.length).filter fun e=>!same (s.pre.getD e []) ffF
def fsN (Z:List (List Bool)) (e:Nat):Nat:=(Z.getD e []).idxOf true
def keptL (Z:List (List Bool)) (n:Nat):List Nat:=(List.range n).filter fun e=>fsN Z e==e
def plN (Z:List (List Bool)) (n e:Nat):Nat:=(keptL Z n).idxOf (fsN Z e)
def stepQ (r:List Nat) (pl:Nat→Nat) (e f:Nat) (q:List Nat):List Nat:=q.set (pl e) (bif (r.getD e 0).testBit f then q.getD (pl e) 0 |||2^pl f else q.getD (pl e) 0)
def rowQ (r:List Nat) (pl:Nat→Nat) (e:Nat):Nat→List Nat→List Nat
 |0,q=>q
 |k+1,q=>stepQ r pl e k (rowQ r pl e k q)
def allQ (r:List Nat) (pl:Nat→Nat) (n:Nat):Nat→List Nat→List Nat
 |0,q=>q
 |k+1,q=>rowQ r pl k n (allQ r pl n k q)
def relQ (Z:List (List Bool)) (n:Nat) (r:List Nat):List Nat:=allQ r (plN Z n) n n (List.replicate (keptL Z n).length 0)
def sfB (k:Act) (Z:List (List Bool)) (n:Nat):Act:=⟨(keptL Z n).map fun e=>k.pre.getD e [],(keptL Z n).map fun e=>k.post.getD e [],k.rel.map (relQ Z n)⟩
def sfN (evs:List Nat) (Z:List (List Bool)) (e:Nat):Int:=if e∈evs then (plN Z evs.length (evs.idxOf e):Int) else -1
def sfK (a:Act):Act:=keepA (smpA a) (evtL (smpA a))
def sfZ (a:Act):List (List Bool):=alkI (sfK a) (sfK a) (tab0 (sfK a) (sfK a))
def sfyI (a:Act):Act×List Int×Int :=
 bif aloneI a != 0 then (noAct,[],aloneI a) else bif ((evtL (smpA a)).length:Int)==0 then (noAct,[],11) else
 (sfB (sfK a) (sfZ a) (evtL (smpA a)).length,(List.range a.pre.length).map (sfN (evtL (smpA a)) (sfZ a)),0)
def intI (z:Int):PV:=.int .i64 z
def sfP (x:Act×List Int×Int):PV:=.tup [x.1.pv,.sl (x.2.1.map intI),.int .i64 x.2.2]
def Firsts (Z:List (List Bool)) (n:Nat):Prop:=∀ e,e<n→fsN Z e<n∧fsN Z (fsN Z e)=fsN Z e
theorem Firsts.mem {Z:List (List Bool)} {n e:Nat} (h:Firsts Z n) (he:e<n):fsN Z e∈keptL Z n:=by
 rw[keptL,List.mem_filter,List.mem_range]
 obtain⟨h1,h2⟩:=h e he
 exact⟨h1,by rw[h2];simp⟩
theorem Firsts.pl {Z:List (List Bool)} {n e:Nat} (h:Firsts Z n) (he:e<n):plN Z n e<(keptL Z n).length:=List.idxOf_lt_length_iff.2 (h.mem he)
theorem kept_len (Z:List (List Bool)) (n:Nat):(keptL Z n).length≤n:=by
 unfold keptL
 exact Nat.le_trans (List.length_filter_le _ _) (by simp)
theorem kept_mem {Z:List (List Bool)} {n e:Nat} (h:e∈keptL Z n):e<n:=by
 rw[keptL,List.mem_filter,List.mem_range] at h
 exact h.1
theorem evtL_mem {s:Act} {e:Nat} (h:e∈evtL s):e<s.pre.length:=by
 rw[evtL,List.mem_filter,List.mem_range] at h
 exact h.1
theorem evtL_len (s:Act):(evtL s).length≤s.pre.length:=by
 unfold evtL
 exact Nat.le_trans (List.length_filter_le _ _) (by simp)
theorem filt_snoc {p:Nat→Bool} (n:Nat):(List.range (n+1)).filter p=bif p n then (List.range n).filter p++[n] else (List.range n).filter p:=by
 rw[List.range_succ,List.filter_append]
 cases h:p n with
 |true=>simp[h]
 |false=>simp[h]
theorem stepQ_len (r:List Nat) (pl:Nat→Nat) (e f:Nat) (q:List Nat):(stepQ r pl e f q).length=q.length:=by simp[stepQ]
theorem rowQ_len (r:List Nat) (pl:Nat→Nat) (e:Nat):∀ (k:Nat) (q:List Nat),(rowQ r pl e k q).length=q.length
 |0,_=>rfl
 |k+1,q=>by rw[rowQ,stepQ_len,rowQ_len r pl e k q]
theorem allQ_len (r:List Nat) (pl:Nat→Nat) (n:Nat):∀ (k:Nat) (q:List Nat),(allQ r pl n k q).length=q.length
 |0,_=>rfl
 |k+1,q=>by rw[allQ,rowQ_len,allQ_len r pl n k q]
def Und8 (q:List Nat):Prop:=∀ s,s∈q→s<2^8
theorem Und8.get {q:List Nat} (h:Und8 q) (i:Nat):q.getD i 0<2^8:=by
 rw[List.getD_eq_getElem?_getD]
 by_cases hi:i<q.length
 ·rw[List.getElem?_eq_getElem hi];exact h _ (List.getElem_mem hi)
 ·rw[List.getElem?_eq_none (by omega)];exact Nat.two_pow_pos 8
theorem stepQ_und {r:List Nat} {pl:Nat→Nat} {e f:Nat} {q:List Nat} (h:Und8 q) (hf:pl f<8):Und8 (stepQ r pl e f q):=fun s hs=>by
 rcases List.mem_or_eq_of_mem_set hs with hs|rfl
 ·exact h s hs
 ·have:=h.get (pl e)
  cases (r.getD e 0).testBit f with
  |true=>exact Nat.or_lt_two_pow this (Nat.pow_lt_pow_right (by decide) hf)
  |false=>exact this
theorem rowQ_und {r:List Nat} {pl:Nat→Nat} {e:Nat}:∀ {k:Nat} {q:List Nat},Und8 q→(∀ f,f<k→pl f<8)→Und8 (rowQ r pl e k q)
 |0,_,h,_=>h
 |k+1,_,h,hf=>stepQ_und (rowQ_und h fun f hk=>hf f (by omega)) (hf k (by omega))
theorem allQ_und {r:List Nat} {pl:Nat→Nat} {n:Nat}:∀ {k:Nat} {q:List Nat},Und8 q→(∀ f,f<n→pl f<8)→Und8 (allQ r pl n k q)
 |0,_,h,_=>h
 |_+1,_,h,hf=>rowQ_und (allQ_und h hf) hf
theorem zer_und (m:Nat):Und8 (List.replicate m 0):=fun s hs=>by rw[List.eq_of_mem_replicate hs];decide
theorem or_place {x s f p:Nat} (hx:x<2^8) (hs:s<2^64) (hf:f<64) (hp:p<8):orU (x:Nat) (shlU (andU (shrU (s:Nat) (f:Nat)) 1) (p:Nat))=((bif s.testBit f then x |||2^p else x:Nat):Int):=by
 rw[bit_and s f hs hf]
 have h1:x<2^64:=Nat.lt_of_lt_of_le hx (by decide)
 cases h:s.testBit f with
 |true =>
  rw[if_pos rfl,shlU_one (by omega),orU_nat h1 (Nat.pow_lt_pow_right (by decide) (by omega))];rfl
 |false =>
  rw[if_neg (by decide),show shlU 0 (p:Nat)=((0:Nat):Int) by show IntKind.wrap .u64 (0*_)=0;rw[Int.zero_mul];rfl,orU_nat h1 (by decide),Nat.or_zero];rfl
theorem idxN_first {y:Nat}:∀ {l:List Nat} {i:Nat},l[i]? = some y→y∉l.take i→l.idxOf y=i
 | [],i,h,_=>by simp at h
 |a::r,0,h,_=>by
  have:a=y:=by simpa using h
  subst this;simp
 |a::r,i+1,h,hn=>by
  have h1:r[i]? = some y:=by simpa using h
  have h2:y∉a::r.take i:=by simpa using hn
  have h3:a≠y:=fun e=>h2 (by simp[e])
  have ih:=idxN_first h1 (fun h=>h2 (by simp[h]))
  rw[List.idxOf_cons,show (a==y)=false by simpa using h3,cond_false,ih]
def ixN (l:List Nat) (y:Nat):Int:=if y∈l then (l.idxOf y:Int) else -1
theorem sl_IndexN (l:List Nat) (y:Nat) (hl:l.length≤1000):PureFn Tryz.prog 58 [.sl (l.map i64),i64 y] (.int .i64 (ixN l y)):=by
 refine PureFn.intro mixed (fn:=Tryz.f58) rfl rfl rfl fun M w0 => ?_
 try conv=>whnf
 refine⟨{ i:Nat // i≤l.length∧y∉l.take i },fun i=>[(0,.pv (.sl (l.map i64))),(1,.pv (i64 y)),(7,.pv (i64 (l.map i64).length)),(8,.pv (i64 i.1))],fun _=>0,fun _=>[],fun i=>l.length-i.1,⟨⟨0,Nat.zero_le _,by simp⟩,(by refine Wk.of ?_ ?_ rfl rfl rfl<;>repeat' (first|exact trivial|exact WkD.same _|refine⟨?_,?_⟩|fail))⟩,?_⟩
 rintro⟨i,hi,hn⟩
 (try conv=>whnf);repeat' (first|(apply And.intro<;>try conv=>whnf)|(intro h;try conv=>whnf)|(apply infoT;rfl)|fail)
 ·have hi':i<l.length:=by simpa using lt_dec h
  have hm:l[i]? = some l[i]:=List.getElem?_eq_getElem hi'
  refine⟨_,_,rfl,idx_map hm,rfl,?_⟩
  (try conv=>whnf);repeat' (first|(apply And.intro<;>try conv=>whnf)|(intro h;try conv=>whnf)|fail)
  ·have he:y=l[i]:=by
                have:(y:Int)=(l[i]:Nat):=by simpa using h
                omega
   rw[ixN,if_pos (by rw[he];exact List.getElem_mem hi'),idxN_first (by rw[hm,he]) hn]
   exact .refl _
  ·have he:y≠l[i]:=fun e=>by
    have:¬ (y:Int)=(l[i]:Nat):=by simpa using h
    omega
   refine⟨⟨i+1,hi',?_⟩,by show l.length-(i+1)<l.length-i;omega,(by refine Wk.of ?_ ?_ rfl rfl rfl<;>repeat' (first|exact trivial|exact WkD.same _|refine WkD.int ?_|refine⟨?_,?_⟩|(refine wrapA ?_ ?_ ?_;(focus simp;done);(focus (try dsimp only);omega);(focus (try dsimp only);omega))|fail))⟩
   rw[List.take_succ_eq_append_getElem hi',List.mem_append,not_or]
   exact⟨hn,fun h=>he (List.mem_singleton.1 h)⟩
 ·have hi':i=l.length:=by have:=ge_dec (m:=(l.map i64).length) h (by simpa using hi);simpa using this
  subst hi'
  rw[List.take_length] at hn
  rw[ixN,if_neg hn]
  exact .refl _
def ixB (r:List Bool):Int:=if true∈r then (r.idxOf true:Int) else -1
theorem idxB_first:∀ {l:List Bool} {i:Nat},l[i]? = some true→true∉l.take i→l.idxOf true=i
 | [],i,h,_=>by simp at h
 |a::r,0,h,_=>by
  have:a=true:=by simpa using h
  subst this;simp
 |a::r,i+1,h,hn=>by
  have h1:r[i]? = some true:=by simpa using h
  have h2:true∉a::r.take i:=by simpa using hn
  have h3:a=false:=by cases a with
   |true=>exact absurd (by simp) h2
   |false=>rfl
  subst h3
  have ih:=idxB_first h1 (fun h=>h2 (by simp[h]))
  rw[List.idxOf_cons,show (false==true)=false from rfl,cond_false,ih]
theorem sl_IndexB (l:List Bool) (hl:l.length≤1000):PureFn Tryz.prog 56 [rowB l,.bool true] (.int .i64 (ixB l)):=by
 refine PureFn.intro mixed (fn:=Tryz.f56) rfl rfl rfl fun M w0 => ?_
 try conv=>whnf
 refine⟨{ i:Nat // i≤l.length∧true∉l.take i },fun i=>[(0,.pv (rowB l)),(1,.pv (.bool true)),(7,.pv (i64 (l.map PV.bool).length)),(8,.pv (i64 i.1))],fun _=>0,fun _=>[],fun i=>l.length-i.1,⟨⟨0,Nat.zero_le _,by simp⟩,(by refine Wk.of ?_ ?_ rfl rfl rfl<;>repeat' (first|exact trivial|exact WkD.same _|refine⟨?_,?_⟩|fail))⟩,?_⟩
 rintro⟨i,hi,hn⟩
 (try conv=>whnf);repeat' (first|(apply And.intro<;>try conv=>whnf)|(intro h;try conv=>whnf)|(apply infoT;rfl)|fail)
 ·have hi':i<l.length:=by simpa using lt_dec h
  have hm:l[i]? = some l[i]:=List.getElem?_eq_getElem hi'
  refine⟨_,_,rfl,idx_map hm,rfl,?_⟩
  (try conv=>whnf);repeat' (first|(apply And.intro<;>try conv=>whnf)|(intro h;try conv=>whnf)|fail)
  ·have he:l[i]=true:=by
                 have h2:((true:Bool)==l[i])=true:=h
                 cases hq:l[i] with
                 |true=>rfl
                 |false=>rw[hq] at h2;cases h2
   rw[ixB,if_pos (by rw[← he];exact List.getElem_mem hi'),idxB_first (by rw[hm,he]) hn]
   exact .refl _
  ·have he:l[i]=false:=by
                  have h2:((true:Bool)==l[i])=false:=h
                  cases hq:l[i] with
                  |true=>rw[hq] at h2;cases h2
                  |false=>rfl
   refine⟨⟨i+1,hi',?_⟩,by show l.length-(i+1)<l.length-i;omega,(by refine Wk.of ?_ ?_ rfl rfl rfl<;>repeat' (first|exact trivial|exact WkD.same _|refine WkD.int ?_|refine⟨?_,?_⟩|(refine wrapA ?_ ?_ ?_;(focus simp;done);(focus (try dsimp only);omega);(focus (try dsimp only);omega))|fail))⟩
   rw[List.take_succ_eq_append_getElem hi',List.mem_append,not_or]
   exact⟨hn,fun h=>by have:=List.mem_singleton.1 h;rw[he] at this;cases this⟩
 ·have hi':i=l.length:=by have:=ge_dec (m:=(l.map PV.bool).length) h (by simpa using hi);simpa using this
  subst hi'
  rw[List.take_length] at hn
  rw[ixB,if_neg hn]
  exact .refl _
def HPl (a k:Act) (fl kl:List Nat):List (Nat×DObj):=[(0,.var (cellsA a)),(1,.var cellsZ),(2,.var (cellsA k)),(4,.var [.pv (intsPV fl)]),(5,.var [.pv (intsPV kl)])]
theorem clo_place {M:Nat→Prop} {w0:W0} (a k:Act) (fl kl:List Nat) (e v:Nat) (he:fl[e]? = some v) (hv:v∈kl) (hl:kl.length≤1000) (base:Nat) (K:DV→DH→Prop) (hK:K (.pv (i64 (kl.idxOf v))) ⟨6,0,base,objsOf (HPl a k fl kl)⟩) :
  DC Tryz.prog M w0 57 [.pv (i64 e),.ref 5 0,.ref 4 0] ⟨6,0,base,objsOf (HPl a k fl kl)⟩ K:=by
 have hI:=sl_IndexN kl v hl
 rw[ixN,if_pos hv] at hI
 have i1:=idx_map (g:=i64) he
 generalize kl.idxOf v=j at hI hK
 refine DC.weaken (DC.intro mixed (fn:=Tryz.f57) rfl rfl rfl ?_)
 (try conv=>whnf);repeat' (first|(apply And.intro<;>try conv=>whnf)|(apply infoT;rfl)|(refine lin_plan (by kernel_rfl) ?_;try conv=>whnf)|(refine⟨_,_,rfl,idx_map (by with_reducible assumption),rfl,?_⟩;try conv=>whnf)|(refine⟨_,(by (conv=>whnf);exact hI),rfl,?_⟩;try conv=>whnf)|fail)
 exact⟨.pv (i64 j),6,HPl a k fl kl,(by refine Wk.of ?_ ?_ rfl rfl rfl<;>repeat' (first|exact trivial|exact WkD.same _|exact WkO.same _ _ rfl|refine⟨?_,?_⟩|fail)),hK⟩
set_option maxHeartbeats 8000000
def Plan.pre:List Nat→Plan→Plan
 | [],p=>p
 |i::r,p=>.one i (Plan.pre r p)
def planQ:Plan:=Plan.pre [0,1,2,6,7,8,9,10,11,3] (.two 4 (.two 5 (Plan.ofL [12,13,14,15,16]) 12 (Plan.ofL [13,5,14,15,16])) 12 (Plan.ofL [13,4,5,14,15,16]))
theorem keep_shp {s:Act} {n:Nat} (hS:Shp s n) (ws:List Nat) (hl:ws.length≤8):Shp (keepA s ws) ws.length:=by
 refine⟨by simp[keepA],by simp[keepA],hl,by show (s.rel.map _).length≤1000;rw[List.length_map];exact hS.ag,fun r hr => ?_,fun r hr x hx => ?_⟩
 ·obtain⟨r0,_,rfl⟩:=List.mem_map.1 hr
  simp
 ·obtain⟨r0,_,rfl⟩:=List.mem_map.1 hr
  obtain⟨w,_,rfl⟩:=List.mem_map.1 hx
  exact maskOf_lt _ _
theorem keep_post {s:Act} {ws:List Nat} (h:∀ l,l∈s.post→l.length≤1000):∀ l,l∈(keepA s ws).post→l.length≤1000:=fun l hl=>by
 obtain⟨w,_,rfl⟩:=List.mem_map.1 hl
 rw[List.getD_eq_getElem?_getD]
 by_cases hw:w<s.post.length
 ·rw[List.getElem?_eq_getElem hw];exact h _ (List.getElem_mem hw)
 ·rw[List.getElem?_eq_none (by omega)];exact Nat.zero_le _
theorem le_sfNo (c:Int):PLe (.tup [.agg [.nil,.nil,.nil],.nil,.int .i64 c]) (sfP (noAct,[],c)):=PLe.tups ⟨PLe.aggs ⟨.nil,.nil,.nil,trivial⟩,.nil,.refl _,trivial⟩
theorem cp_Simplify (a:Act) (hSa:SmX a) (hFs:aloneI a=0→Firsts (sfZ a) (evtL (smpA a)).length):PureFn Tryz.prog 17 [a.pv] (sfP (sfyI a)):=by
 have hCa:=cp_check a hSa
 refine PureFn.introC [4,12,14,15,16,17,22,25,32,36,45,47,54,56] mixed (fn:=Tryz.f17) rfl rfl rfl fun M w0 => ?_
 try conv=>whnf
 refine⟨{ _x:Unit // aloneI a=0 },fun _=>[(1,.ref 0 0),(2,.ref 1 0)],fun _=>2,fun _=>[(0,.var (cellsA a)),(1,.var cellsZ)],?_,?_⟩
 ·(try conv=>whnf);repeat' (first|(apply And.intro<;>try conv=>whnf)|(intro h;try conv=>whnf)|(refine PureFn.dcq (f:=51) rfl ?_;try conv=>whnf)|(refine⟨_,_,hCa,?_,?_⟩;(focus first|(refine⟨?_,trivial⟩<;>first|exact PLe.refl _|exact PLe.nil)|exact trivial);try conv=>whnf)|fail)
  ·rw[sfyI,show (aloneI a != 0)=true from h]
   exact le_sfNo _
  ·exact⟨⟨(),by simpa using h⟩,(by refine Wk.of ?_ ?_ rfl rfl rfl<;>repeat' (first|exact trivial|exact WkD.same _|exact WkO.same _ _ rfl|refine⟨?_,?_⟩|fail))⟩
 rintro⟨_,ha0⟩
 have g1:(aloneI a != 0)=false:=by simpa using ha0
 have hsa:(smpA a).pre.length=a.pre.length:=by simp[smpA]
 have hS:=smp_shp ha0
 have hSp:=smp_post hSa
 have hSm:=cp_simple a ha0
 have hF:=hFs ha0
 have hn8:a.pre.length≤8:=(actI_ok ha0).n8
 rw[sfyI,g1,cond_false]
 unfold sfZ sfK
 unfold sfZ sfK at hF
 generalize smpA a=s at *
 have hel:=evtL_len s
 have hev8:(evtL s).length≤8:=by omega
 obtain⟨evs,hevs⟩:∃ evs,evs=evtL s:=⟨_,rfl⟩
 have hem:∀ w,w∈evs→w<s.pre.length:=fun w h=>evtL_mem (by rw[← hevs];exact h)
 rw[← hevs] at hev8 hF ⊢
 (try conv=>whnf);repeat' (first|(refine PureFn.dcq (f:=52) rfl ?_;try conv=>whnf)|(refine⟨_,_,hSm,?_,?_⟩;(focus first|(refine⟨?_,trivial⟩<;>first|exact PLe.refl _|exact PLe.nil)|exact trivial);try conv=>whnf)|fail)
 refine⟨Unit,fun _=>[(1,.ref 0 0),(2,.ref 1 0),(6,.ref 2 0),(7,.pv (intsPV evs))],fun _=>3,fun _=>[(0,.var (cellsA a)),(1,.var cellsZ),(2,.var (cellsA s))],?_,?_⟩
 ·try conv=>whnf
  refine⟨{ i:Nat // i≤s.pre.length },fun i=>[(1,.ref 0 0),(2,.ref 1 0),(6,.ref 2 0),(7,.buf 3 (((List.range i.1).filter fun e=>!same (s.pre.getD e []) ffF).map i64).length),(36,.pv (.sl (s.pre.map fpv))),(37,.pv (i64 (s.pre.map fpv).length)),(38,.pv (i64 i.1))],fun _=>4,fun i=>[(0,.var (cellsA a)),(1,.var cellsZ),(2,.var (cellsA s)),(3,.arr 1 (((List.range i.1).filter fun e=>!same (s.pre.getD e []) ffF).map i64))],fun i=>s.pre.length-i.1,⟨⟨0,Nat.zero_le _⟩,(by refine Wk.of ?_ ?_ rfl rfl rfl<;>repeat' (first|exact trivial|exact WkD.same _|exact WkO.same _ _ rfl|exact WkD.new' rfl rfl rfl|exact WkO.new _ _ rfl|exact rfl|refine⟨?_,?_⟩|fail))⟩,?_⟩
  rintro⟨i,hi⟩
  (try conv=>whnf);repeat' (first|(apply And.intro<;>try conv=>whnf)|(intro h;try conv=>whnf)|(apply infoT;rfl)|fail)
  ·have hi':i<s.pre.length:=by simpa using lt_dec h
   have hx:s.pre[i]? = some (s.pre.getD i []):=getD_mem hi'
   have hsn:=filt_snoc (p:=fun e=>!same (s.pre.getD e []) ffF) i
   have hS2:=fm_Same (s.pre.getD i []) ffF
   have hFf:PureFn Tryz.prog 53 [] (fpv ffF):=fm_False
   have hlf:(((List.range i).filter fun e=>!same (s.pre.getD e []) ffF).map i64).length≤1000:=by
    rw[List.length_map]
    exact Nat.le_trans (List.length_filter_le _ _) (by rw[List.length_range];omega)
   generalize same (s.pre.getD i []) ffF=sb at hS2 hsn
   refine⟨_,_,rfl,idx_map hx,rfl,?_⟩
   (try conv=>whnf);repeat' (first|(apply And.intro<;>try conv=>whnf)|(intro h;try conv=>whnf)|(apply cellsI;rfl)|(apply szI;rfl)|(refine PureFn.dcq (f:=53) rfl ?_;try conv=>whnf)|(refine PureFn.dcq (f:=33) rfl ?_;try conv=>whnf)|(refine⟨_,_,hFf,?_,?_⟩;(focus first|(refine⟨trivial⟩<;>first|exact PLe.refl _|exact PLe.nil)|exact trivial);try conv=>whnf)|(refine⟨_,_,hS2,?_,?_⟩;(focus first|(refine⟨?_,?_,trivial⟩<;>first|exact PLe.refl _|exact PLe.nil)|exact trivial);try conv=>whnf)|fail)
   ·exact app_big (n:=1000) hlf (by decide)
   ·rw[show (!sb)=true from h,cond_true] at hsn
    have hm:((List.range i).filter fun e=>!same (s.pre.getD e []) ffF).map i64++[i64 i]=((List.range (i+1)).filter fun e=>!same (s.pre.getD e []) ffF).map i64:=by rw[hsn,List.map_append];rfl
    refine⟨⟨i+1,hi'⟩,by show s.pre.length-(i+1)<s.pre.length-i;omega,?_⟩
    (refine Wk.of ?_ ?_ rfl rfl rfl<;>repeat' (first|exact trivial|exact WkD.same _|exact WkO.same _ _ rfl|exact WkD.eq (congrArg (fun z:List PV=>DV.buf _ z.length) hm)|exact WkO.same _ _ (congrArg (fun z=>some (DObj.arr _ z)) hm)|refine WkD.int ?_|refine⟨?_,?_⟩|(refine wrapA ?_ ?_ ?_;(focus simp;done);(focus (try dsimp only);omega);(focus (try dsimp only);omega))|fail))
   ·rw[show (!sb)=false from h,cond_false] at hsn
    have hm:((List.range i).filter fun e=>!same (s.pre.getD e []) ffF).map i64=((List.range (i+1)).filter fun e=>!same (s.pre.getD e []) ffF).map i64:=by rw[hsn]
    refine⟨⟨i+1,hi'⟩,by show s.pre.length-(i+1)<s.pre.length-i;omega,?_⟩
    (refine Wk.of ?_ ?_ rfl rfl rfl<;>repeat' (first|exact trivial|exact WkD.same _|exact WkO.same _ _ rfl|exact WkD.eq (congrArg (fun z:List PV=>DV.buf _ z.length) hm)|exact WkO.same _ _ (congrArg (fun z=>some (DObj.arr _ z)) hm)|refine WkD.int ?_|refine⟨?_,?_⟩|(refine wrapA ?_ ?_ ?_;(focus simp;done);(focus (try dsimp only);omega);(focus (try dsimp only);omega))|fail))
  ·have hi':i=s.pre.length:=by have:=ge_dec (m:=(s.pre.map fpv).length) h (by simpa using hi);simpa using this
   subst hi'
   rw[hevs]
   exact⟨(),(by refine Wk.of ?_ ?_ rfl rfl rfl<;>repeat' (first|exact trivial|exact WkD.same _|exact WkO.same _ _ rfl|exact WkD.fz _ _ _ rfl (Or.inl ⟨_,rfl⟩) rfl|refine⟨?_,?_⟩|fail))⟩
 rintro⟨⟩
 have e1:((evs.map i64).length:Int)=(evs.length:Int):=by simp
 refine⟨{ _x:Unit // 0<evs.length },fun _=>[(1,.ref 0 0),(2,.ref 1 0),(6,.ref 2 0),(7,.pv (intsPV evs))],fun _=>3,fun _=>[(0,.var (cellsA a)),(1,.var cellsZ),(2,.var (cellsA s))],?_,?_⟩
 ·(try conv=>whnf);repeat' (first|(apply And.intro<;>try conv=>whnf)|(intro h;try conv=>whnf)|fail)
  ·rw[show ((evs.length:Int)==0)=true by rw[← e1];exact h]
   exact le_sfNo _
  ·refine⟨⟨(),?_⟩,(by refine Wk.of ?_ ?_ rfl rfl rfl<;>repeat' (first|exact trivial|exact WkD.same _|exact WkO.same _ _ rfl|refine⟨?_,?_⟩|fail))⟩
   have h2:(((evs.map i64).length:Int)==0)=false:=h
   rw[e1] at h2
   have:¬ (evs.length:Int)=0:=by simpa using h2
   omega
 rintro⟨_,hpos⟩
 have e0:((evs.length:Int)==0)=false:=by
  have:¬ (evs.length:Int)=0:=by omega
  simpa using this
 rw[e0,cond_false]
 have hKp:=cp_keep s s.pre.length hS evs hem hev8
 have hK:=keep_shp hS evs hev8
 have hKpo:=keep_post (ws:=evs) hSp
 have hkp:(keepA s evs).pre.length=evs.length:=hK.pre
 clear e0 e1
 generalize keepA s evs=k at *
 have hK2:Shp k k.pre.length:=by rw[hkp];exact hK
 have hAl:=cp_alike k k hK2 hK2 rfl hKpo (by omega)
 have hTb:Tab (alkI k k (tab0 k k)) evs.length evs.length:=by
  have:=alk_tab k k
  rwa [hkp] at this
 refine⟨Unit,fun _=>[(1,.ref 0 0),(2,.ref 1 0),(6,.ref 2 0),(7,.pv (intsPV evs))],fun _=>3,fun _=>[(0,.var (cellsA a)),(1,.var cellsZ),(2,.var (cellsA k))],?_,?_⟩
 ·(try conv=>whnf);repeat' (first|(refine PureFn.dcq (f:=54) rfl ?_;try conv=>whnf)|(refine⟨_,_,hKp,?_,?_⟩;(focus first|(refine⟨?_,?_,trivial⟩<;>first|exact PLe.refl _|exact PLe.nil)|exact trivial);try conv=>whnf)|fail)
  exact⟨(),(by refine Wk.of ?_ ?_ rfl rfl rfl<;>repeat' (first|exact trivial|exact WkD.same _|exact WkO.same _ _ rfl|refine⟨?_,?_⟩|fail))⟩
 rintro⟨⟩
 generalize alkI k k (tab0 k k)=Z at *
 refine⟨Unit,fun _=>[(1,.ref 0 0),(2,.ref 1 0),(6,.ref 2 0),(7,.pv (intsPV evs)),(10,.pv (tabPV Z))],fun _=>3,fun _=>[(0,.var (cellsA a)),(1,.var cellsZ),(2,.var (cellsA k))],?_,?_⟩
 ·(try conv=>whnf);repeat' (first|(refine PureFn.dcq (f:=55) rfl ?_;try conv=>whnf)|(refine⟨_,_,hAl,?_,?_⟩;(focus first|(refine⟨?_,?_,trivial⟩<;>first|exact PLe.refl _|exact PLe.nil)|exact trivial);try conv=>whnf)|fail)
  exact⟨(),(by refine Wk.of ?_ ?_ rfl rfl rfl<;>repeat' (first|exact trivial|exact WkD.same _|exact WkO.same _ _ rfl|refine⟨?_,?_⟩|fail))⟩
 rintro⟨⟩
 have hN:((evs.map i64).length:Int).toNat=evs.length:=by rw[List.length_map];rfl
 have hz1:List.replicate ((evs.map i64).length:Int).toNat (PV.int .i64 0)=mixV evs.length (fun e=>i64 (fsN Z e)) (fun _=>i64 0) 0:=by rw[hN];exact mixV_rep _ _ _
 have hbig:((evs.map i64).length:Int)≤(big:Int):=by
  show ((evs.map i64).length:Int)≤4294967296
  rw[List.length_map];omega
 have hml:=mixV_len evs.length (fun e=>i64 (fsN Z e)) (fun _=>i64 0)
 refine⟨Unit,fun _=>[(1,.ref 0 0),(2,.ref 1 0),(6,.ref 2 0),(7,.pv (intsPV evs)),(10,.pv (tabPV Z)),(11,.ref 4 0)],fun _=>5,fun _=>[(0,.var (cellsA a)),(1,.var cellsZ),(2,.var (cellsA k)),(3,.arr 1 (mixV evs.length (fun e=>i64 (fsN Z e)) (fun _=>i64 0) 0)),(4,.var [.buf 3 (mixV evs.length (fun e=>i64 (fsN Z e)) (fun _=>i64 0) 0).length])],?_,?_⟩
 ·(try conv=>whnf);repeat' (first|(apply And.intro<;>try conv=>whnf)|(apply Or.inl;try conv=>whnf)|fail)
  ·rfl
  ·exact Int.natCast_nonneg _
  ·exact hbig
  refine⟨(),?_⟩
  (refine Wk.of ?_ ?_ rfl rfl rfl<;>repeat' (first|exact trivial|exact WkD.same _|exact WkO.same _ _ rfl|exact WkD.eq (congrArg (fun z:List PV=>DV.buf _ z.length) hz1)|exact WkO.same _ _ (congrArg (fun z=>some (DObj.arr _ z)) hz1)|refine WkO.vars rfl ?_|refine⟨?_,?_⟩|fail))
 rintro⟨⟩
 clear hz1 hN hbig
 obtain⟨fl,hfl⟩:∃ fl:List Nat,fl=(List.range evs.length).map (fsN Z):=⟨_,rfl⟩
 obtain⟨kl,hkl0⟩:∃ kl:List Nat,kl=keptL Z evs.length:=⟨_,rfl⟩
 have hfm:mixV evs.length (fun e=>i64 (fsN Z e)) (fun _=>i64 0) evs.length=fl.map i64:=by rw[mixV_full,hfl,List.map_map];rfl
 try conv=>whnf
 refine⟨Unit,fun _=>[(1,.ref 0 0),(2,.ref 1 0),(6,.ref 2 0),(7,.pv (intsPV evs)),(11,.ref 4 0),(12,.ref 5 0)],fun _=>6,fun _=>[(0,.var (cellsA a)),(1,.var cellsZ),(2,.var (cellsA k)),(4,.var [.pv (.sl (mixV evs.length (fun e=>i64 (fsN Z e)) (fun _=>i64 0) evs.length))]),(5,.var [.pv (.sl ((keptL Z evs.length).map i64))])],?_,?_⟩
 ·try conv=>whnf
  refine⟨{ e:Nat // e≤evs.length },fun e=>[(1,.ref 0 0),(2,.ref 1 0),(6,.ref 2 0),(7,.pv (intsPV evs)),(10,.pv (tabPV Z)),(11,.ref 4 0),(12,.ref 5 0),(66,.pv (i64 evs.length)),(67,.pv (i64 e.1))],fun _=>7,fun e=>[(0,.var (cellsA a)),(1,.var cellsZ),(2,.var (cellsA k)),(3,.arr 1 (mixV evs.length (fun e=>i64 (fsN Z e)) (fun _=>i64 0) e.1)),(4,.var [.buf 3 (mixV evs.length (fun e=>i64 (fsN Z e)) (fun _=>i64 0) e.1).length]),(5,.var [.buf 6 ((keptL Z e.1).map i64).length]),(6,.arr 1 ((keptL Z e.1).map i64))],fun e=>evs.length-e.1,⟨⟨0,Nat.zero_le _⟩,?_⟩,?_⟩
  ·(refine Wk.of ?_ ?_ rfl rfl rfl<;>repeat' (first|exact trivial|exact WkD.same _|exact WkO.same _ _ rfl|refine WkD.int ?_|exact WkD.new' rfl rfl rfl|exact WkO.new _ _ rfl|refine WkO.vars rfl ?_|exact rfl|refine⟨?_,?_⟩|fail))
   exact congrArg (fun z:Nat=>(z:Int)) (hml 0)
  rintro⟨e,he⟩
  have hme:=hml e
  have hme1:=hml (e+1)
  (try conv=>whnf);repeat' (first|(apply And.intro<;>try conv=>whnf)|(intro h;try conv=>whnf)|fail)
  ·have he':e<evs.length:=by
    have h2:decide ((e:Int)<((evs.length:Nat):Int))=true:=by assumption
    have:=of_decide_eq_true h2
    omega
   obtain⟨f1,f2⟩:=hF e he'
   have hrow:Z[e]? = some (Z.getD e []):=getD_mem (by rw[hTb.len];exact he')
   have hrl:=hTb.row _ (List.mem_iff_getElem?.2 ⟨_,hrow⟩)
   have hIx:=sl_IndexB (Z.getD e []) (by omega)
   have htr:true∈Z.getD e []:=List.idxOf_lt_length_iff.1 (by rw[hrl];exact f1)
   rw[ixB,if_pos htr] at hIx
   have hIx:PureFn Tryz.prog 56 [rowB (Z.getD e []),.bool true] (i64 (fsN Z e)):=hIx
   have hst:=mixV_set (n:=evs.length) (p:=fun e=>i64 (fsN Z e)) (q:=fun _=>i64 0) (e:=e)
   have hnew:=mixV_new (n:=evs.length) (p:=fun e=>i64 (fsN Z e)) (q:=fun _=>i64 0) (e:=e+1) he' (Nat.lt_succ_self e)
   have hsn:keptL Z (e+1)=bif fsN Z e==e then keptL Z e++[e] else keptL Z e:=filt_snoc (p:=fun e=>fsN Z e==e) e
   have hlk:((keptL Z e).map i64).length≤1000:=by
    have:=kept_len Z e
    rw[List.length_map];omega
   have hix:=idx_map (g:=rowB) hrow
   generalize Z.getD e []=row at hIx hix hrow
   refine⟨Unit,fun _=>[(1,.ref 0 0),(2,.ref 1 0),(6,.ref 2 0),(7,.pv (intsPV evs)),(10,.pv (tabPV Z)),(11,.ref 4 0),(12,.ref 5 0),(13,.pv (i64 e)),(66,.pv (i64 evs.length)),(67,.pv (i64 e))],fun _=>7,fun _=>[(0,.var (cellsA a)),(1,.var cellsZ),(2,.var (cellsA k)),(3,.arr 1 (mixV evs.length (fun e=>i64 (fsN Z e)) (fun _=>i64 0) (e+1))),(4,.var [.buf 3 (mixV evs.length (fun e=>i64 (fsN Z e)) (fun _=>i64 0) (e+1)).length]),(5,.var [.buf 6 ((keptL Z e).map i64).length]),(6,.arr 1 ((keptL Z e).map i64))],?_,?_⟩
   ·try conv=>whnf
    refine⟨Plan.lin 0 9,[8],by kernel_rfl,?_⟩
    (try conv=>whnf);repeat' (first|(apply And.intro<;>try conv=>whnf)|(apply infoT;rfl)|(refine⟨_,_,rfl,idx_map (by with_reducible assumption),rfl,?_⟩;try conv=>whnf)|(refine⟨_,(by (conv=>whnf);exact hIx),rfl,?_⟩;try conv=>whnf)|fail)
    refine⟨e,rfl,by rw[hme];exact he',?_⟩
    (try conv=>whnf);repeat' (first|(apply And.intro<;>try conv=>whnf)|fail)
    refine⟨_,mixV_old he',Nat.le_refl 1,?_⟩
    try conv=>whnf
    refine⟨(),?_⟩
    (refine Wk.of ?_ ?_ rfl rfl rfl<;>repeat' (first|exact trivial|exact WkD.same _|exact WkO.same _ _ rfl|refine WkO.vars rfl ?_|refine⟨?_,?_⟩|fail))
    ·exact WkO.same _ _ (congrArg (fun z=>some (DObj.arr 1 z)) hst)
    ·exact WkD.eq (congrArg (DV.buf 3) (hme.trans hme1.symm))
   rintro⟨⟩
   (try conv=>whnf);repeat' (first|(apply And.intro<;>try conv=>whnf)|fail)
   refine⟨e,rfl,by rw[hme1];exact he',?_⟩
   (try conv=>whnf);repeat' (first|(apply And.intro<;>try conv=>whnf)|(intro h;try conv=>whnf)|(apply cellsI;rfl)|(apply szI;rfl)|(apply ex2;(focus with_reducible assumption);try conv=>whnf)|fail)
   ·exact app_big (n:=1000) hlk (by decide)
   ·have hb:(fsN Z e==e)=true:=by
     have h2:(((fsN Z e:Nat):Int)==(e:Int))=true:=h
     have h3:((fsN Z e:Nat):Int)=(e:Int):=by simpa using h2
     rw[show fsN Z e=e by omega];simp
    rw[hb,cond_true] at hsn
    have hm:(keptL Z e).map i64++[i64 e]=(keptL Z (e+1)).map i64:=by rw[hsn,List.map_append];rfl
    refine⟨⟨e+1,he'⟩,by show evs.length-(e+1)<evs.length-e;omega,?_⟩
    (refine Wk.of ?_ ?_ rfl rfl rfl<;>repeat' (first|exact trivial|exact WkD.same _|exact WkO.same _ _ rfl|exact WkD.eq (congrArg (fun z:List PV=>DV.buf _ z.length) hm)|exact WkO.same _ _ (congrArg (fun z=>some (DObj.arr _ z)) hm)|refine WkD.int ?_|refine WkO.vars rfl ?_|refine⟨?_,?_⟩|(refine wrapA ?_ ?_ ?_;(focus simp;done);(focus (try dsimp only);omega);(focus (try dsimp only);omega))|fail))
   ·have hb:(fsN Z e==e)=false:=by
     have h2:(((fsN Z e:Nat):Int)==(e:Int))=false:=h
     have h3:¬ ((fsN Z e:Nat):Int)=(e:Int):=by simpa using h2
     simp;omega
    rw[hb,cond_false] at hsn
    have hm:(keptL Z e).map i64=(keptL Z (e+1)).map i64:=by rw[hsn]
    refine⟨⟨e+1,he'⟩,by show evs.length-(e+1)<evs.length-e;omega,?_⟩
    (refine Wk.of ?_ ?_ rfl rfl rfl<;>repeat' (first|exact trivial|exact WkD.same _|exact WkO.same _ _ rfl|exact WkD.eq (congrArg (fun z:List PV=>DV.buf _ z.length) hm)|exact WkO.same _ _ (congrArg (fun z=>some (DObj.arr _ z)) hm)|refine WkD.int ?_|refine WkO.vars rfl ?_|refine⟨?_,?_⟩|(refine wrapA ?_ ?_ ?_;(focus simp;done);(focus (try dsimp only);omega);(focus (try dsimp only);omega))|fail))
  ·have he':e=evs.length:=by
    have h2:decide ((e:Int)<((evs.length:Nat):Int))=false:=by assumption
    have:=of_decide_eq_false h2
    omega
   subst he'
   exact⟨(),(by refine Wk.of ?_ ?_ rfl rfl rfl<;>repeat' (first|exact trivial|exact WkD.same _|exact WkO.same _ _ rfl|exact WkD.fz _ _ _ rfl (Or.inl ⟨_,rfl⟩) rfl|refine WkO.vars rfl ?_|refine⟨?_,?_⟩|fail))⟩
 rintro⟨⟩
 rw[hfm,← hkl0]
 clear hfm hml
 have hkl:kl.length≤8:=by rw[hkl0];exact Nat.le_trans (kept_len _ _) hev8
 have hkm:∀ w,w∈kl→w<k.pre.length:=fun w h=>by rw[hkp];exact kept_mem (by rw[← hkl0];exact h)
 have hkl1:kl.length≤1000:=by omega
 obtain⟨V,hV⟩:∃ V:List PV,V=((kl.take kl.length).map fun w=>k.pre.getD w []).map fpv:=⟨_,rfl⟩
 obtain⟨W,hW⟩:∃ W:List PV,W=((kl.take kl.length).map fun w=>k.post.getD w []).map postPV:=⟨_,rfl⟩
 try conv=>whnf
 refine⟨Unit,fun _=>[(1,.ref 0 0),(2,.ref 1 0),(6,.ref 2 0),(7,.pv (intsPV evs)),(12,.ref 5 0),(14,.clo 57 [] [.ref 5 0,.ref 4 0]),(15,.ref 6 0)],fun _=>7,fun _=>[(0,.var (cellsA a)),(1,.var cellsZ),(2,.var (cellsA k)),(4,.var [.pv (intsPV fl)]),(5,.var [.pv (intsPV kl)]),(6,.var [.pv (.sl (((kl.take kl.length).map fun w=>k.pre.getD w []).map fpv)),.pv (.sl (((kl.take kl.length).map fun w=>k.post.getD w []).map postPV)),.pv .nil])],?_,?_⟩
 ·try conv=>whnf
  refine⟨{ i:Nat // i≤kl.length },fun i=>[(1,.ref 0 0),(2,.ref 1 0),(6,.ref 2 0),(7,.pv (intsPV evs)),(12,.ref 5 0),(14,.clo 57 [] [.ref 5 0,.ref 4 0]),(15,.ref 6 0),(90,.pv (intsPV kl)),(91,.pv (i64 (kl.map i64).length)),(92,.pv (i64 i.1))],fun _=>9,fun i=>[(0,.var (cellsA a)),(1,.var cellsZ),(2,.var (cellsA k)),(4,.var [.pv (intsPV fl)]),(5,.var [.pv (intsPV kl)]),(6,.var [.buf 7 (((kl.take i.1).map fun w=>k.pre.getD w []).map fpv).length,.buf 8 (((kl.take i.1).map fun w=>k.post.getD w []).map postPV).length,.pv .nil]),(7,.arr 1 (((kl.take i.1).map fun w=>k.pre.getD w []).map fpv)),(8,.arr 1 (((kl.take i.1).map fun w=>k.post.getD w []).map postPV))],fun i=>kl.length-i.1,⟨⟨0,Nat.zero_le _⟩,(by refine Wk.of ?_ ?_ rfl rfl rfl<;>repeat' (first|exact trivial|exact WkD.same _|exact WkO.same _ _ rfl|exact WkD.new' rfl rfl rfl|exact WkO.new _ _ rfl|refine WkO.vars rfl ?_|exact rfl|refine⟨?_,?_⟩|fail))⟩,?_⟩
  rintro⟨i,hi⟩
  (try conv=>whnf);repeat' (first|(apply And.intro<;>try conv=>whnf)|(intro h;try conv=>whnf)|(apply infoT;rfl)|fail)
  ·have hi':i<kl.length:=by simpa using lt_dec h
   obtain⟨w,hx⟩:∃ y,kl[i]? = some y:=⟨_,List.getElem?_eq_getElem hi'⟩
   have hwn:=hkm w (List.mem_iff_getElem?.2 ⟨_,hx⟩)
   obtain⟨p,hp⟩:∃ p,k.pre[w]? = some p:=⟨_,List.getElem?_eq_getElem hwn⟩
   obtain⟨q,hq⟩:∃ q,k.post[w]? = some q:=⟨_,List.getElem?_eq_getElem (by rw[hK2.post];exact hwn)⟩
   have hpd:k.pre.getD w []=p:=by rw[List.getD_eq_getElem?_getD,hp];rfl
   have hqd:k.post.getD w []=q:=by rw[List.getD_eq_getElem?_getD,hq];rfl
   have hixq:=idx_map (g:=postPV) hq
   have hixp:=idx_map (g:=fpv) hp
   have hs1:(((kl.take i).map fun w=>k.pre.getD w []).map fpv).length≤1000:=by simp;omega
   have hs2:(((kl.take i).map fun w=>k.post.getD w []).map postPV).length≤1000:=by simp;omega
   have e5:((kl.take i).map fun w=>k.pre.getD w []).map fpv++[fpv p]=((kl.take (i+1)).map fun w=>k.pre.getD w []).map fpv:=by
    rw[List.take_add_one,hx,List.map_append,List.map_append,← hpd];rfl
   have e6:((kl.take i).map fun w=>k.post.getD w []).map postPV++[postPV q]=((kl.take (i+1)).map fun w=>k.post.getD w []).map postPV:=by
    rw[List.take_add_one,hx,List.map_append,List.map_append,← hqd];rfl
   refine⟨_,_,rfl,idx_map hx,rfl,?_⟩
   try conv=>whnf
   refine⟨Plan.ofL [0,1,2,3,4,5,6,7,9,10,11,12,13,14,15,16,8,18,17,19,20,21],[19,21,1008,1017,2009,2010,2011,2012,2014,2015,2018],by kernel_rfl,?_⟩
   (try conv=>whnf);repeat' (first|(apply And.intro<;>try conv=>whnf)|(intro h;try conv=>whnf)|(apply infoT;rfl)|(apply cellsI;rfl)|(apply szI;rfl)|(refine⟨_,_,rfl,idx_map (by with_reducible assumption),rfl,?_⟩;try conv=>whnf)|fail)
   ·exact app_big (n:=1000) hs1 (by decide)
   ·exact ExtV.put (k:=7) (fun cs h=>by cases h) _ _ h
   ·exact app_big (n:=1000) hs2 (by decide)
   ·exact ExtV.put (k:=8) (fun cs h=>by cases h) _ _ h
   ·refine⟨⟨i+1,hi'⟩,by show kl.length-(i+1)<kl.length-i;omega,?_⟩
    (refine Wk.of ?_ ?_ rfl rfl rfl<;>repeat' (first|exact trivial|exact WkD.same _|exact WkO.same _ _ rfl|exact WkD.eq (congrArg (fun z:List PV=>DV.buf _ z.length) e5)|exact WkO.same _ _ (congrArg (fun z=>some (DObj.arr _ z)) e5)|exact WkD.eq (congrArg (fun z:List PV=>DV.buf _ z.length) e6)|exact WkO.same _ _ (congrArg (fun z=>some (DObj.arr _ z)) e6)|refine WkD.int ?_|refine WkO.vars rfl ?_|refine⟨?_,?_⟩|(refine wrapA ?_ ?_ ?_;(focus simp;done);(focus (try dsimp only);omega);(focus (try dsimp only);omega))|fail))
  ·have hi':i=kl.length:=by have:=ge_dec (m:=(kl.map i64).length) h (by simpa using hi);simpa using this
   subst hi'
   exact⟨(),(by refine Wk.of ?_ ?_ rfl rfl rfl<;>repeat' (first|exact trivial|exact WkD.same _|exact WkO.same _ _ rfl|exact WkD.fz _ _ _ rfl (Or.inl ⟨_,rfl⟩) rfl|refine WkO.vars rfl ?_|refine⟨?_,?_⟩|fail))⟩
 rintro⟨⟩
 rw[← hV,← hW]
 obtain⟨rq,hrq⟩:∃ rq:List Nat→List Nat,rq=relQ Z evs.length:=⟨_,rfl⟩
 obtain⟨pl,hpl⟩:∃ pl:Nat→Nat,pl=fun e=>kl.idxOf (fsN Z e):=⟨_,rfl⟩
 have hplN:plN Z evs.length=pl:=by rw[hpl];funext e;rw[plN,← hkl0]
 have hp8:∀ f,f<evs.length→pl f<kl.length:=fun f hf=>by rw[← hplN,hkl0];exact hF.pl hf
 have hfl2:∀ e,e<evs.length→fl[e]? = some (fsN Z e):=fun e he=>by rw[hfl,List.getElem?_map,List.getElem?_range he];rfl
 have hmk:∀ e,e<evs.length→fsN Z e∈kl:=fun e he=>by rw[hkl0];exact hF.mem he
 have hrqe:∀ r,rq r=allQ r pl evs.length evs.length (List.replicate kl.length 0):=fun r=>by rw[hrq,relQ,hplN,← hkl0]
 have hag:=hK2.ag
 refine⟨Unit,fun _=>[(1,.ref 0 0),(2,.ref 1 0),(7,.pv (intsPV evs)),(14,.clo 57 [] [.ref 5 0,.ref 4 0]),(15,.ref 6 0)],fun _=>7,fun _=>[(0,.var (cellsA a)),(1,.var cellsZ),(2,.var (cellsA k)),(4,.var [.pv (intsPV fl)]),(5,.var [.pv (intsPV kl)]),(6,.var [.pv (.sl V),.pv (.sl W),.pv (.sl (((k.rel.take k.rel.length).map rq).map rowPV))])],?_,?_⟩
 ·try conv=>whnf
  refine⟨{ i:Nat // i≤k.rel.length },fun i=>[(1,.ref 0 0),(2,.ref 1 0),(7,.pv (intsPV evs)),(12,.ref 5 0),(14,.clo 57 [] [.ref 5 0,.ref 4 0]),(15,.ref 6 0),(118,.pv (.sl (k.rel.map rowPV))),(119,.pv (i64 (k.rel.map rowPV).length)),(120,.pv (i64 i.1))],fun _=>8,fun i=>[(0,.var (cellsA a)),(1,.var cellsZ),(2,.var (cellsA k)),(4,.var [.pv (intsPV fl)]),(5,.var [.pv (intsPV kl)]),(6,.var [.pv (.sl V),.pv (.sl W),.buf 7 (((k.rel.take i.1).map rq).map rowPV).length]),(7,.arr 1 (((k.rel.take i.1).map rq).map rowPV))],fun i=>k.rel.length-i.1,⟨⟨0,Nat.zero_le _⟩,(by refine Wk.of ?_ ?_ rfl rfl rfl<;>repeat' (first|exact trivial|exact WkD.same _|exact WkO.same _ _ rfl|exact WkD.new' rfl rfl rfl|exact WkO.new _ _ rfl|refine WkO.vars rfl ?_|exact rfl|refine⟨?_,?_⟩|fail))⟩,?_⟩
  rintro⟨i,hi⟩
  (try conv=>whnf);repeat' (first|(apply And.intro<;>try conv=>whnf)|(intro h;try conv=>whnf)|(apply infoT;rfl)|fail)
  ·have hi':i<k.rel.length:=by simpa using lt_dec h
   obtain⟨r,hx⟩:∃ y,k.rel[i]? = some y:=⟨_,List.getElem?_eq_getElem hi'⟩
   have hrm:=List.mem_iff_getElem?.2 ⟨_,hx⟩
   have hrl:r.length=evs.length:=by rw[hK2.rows r hrm,hkp]
   have hr64:∀ s,s∈r→s<2^64:=fun s hs=>Nat.lt_of_lt_of_le (hK2.bits r hrm s hs) (Nat.pow_le_pow_right (by decide) (by omega))
   have ht:=take_map (f:=rq) hx
   have hvsl:(((k.rel.take i).map rq).map rowPV).length≤1000:=by simp;omega
   have er:((k.rel.take i).map rq).map rowPV++[rowPV (rq r)]=((k.rel.take (i+1)).map rq).map rowPV:=by rw[ht,List.map_append];rfl
   have hN:((kl.map i64).length:Int).toNat=kl.length:=by rw[List.length_map];rfl
   have hz1:List.replicate ((kl.map i64).length:Int).toNat (PV.int .u64 0)=(allQ r pl evs.length 0 (List.replicate kl.length 0)).map u64:=by rw[hN,allQ,List.map_replicate];rfl
   have hbig:((kl.map i64).length:Int)≤(big:Int):=by
    show ((kl.map i64).length:Int)≤4294967296
    rw[List.length_map];omega
   refine⟨_,_,rfl,idx_map hx,rfl,?_⟩
   try conv=>whnf
   refine⟨Unit,fun _=>[(1,.ref 0 0),(2,.ref 1 0),(7,.pv (intsPV evs)),(12,.ref 5 0),(14,.clo 57 [] [.ref 5 0,.ref 4 0]),(15,.ref 6 0),(19,.pv (rowPV r)),(20,.buf 8 ((allQ r pl evs.length 0 (List.replicate kl.length 0)).map u64).length),(118,.pv (.sl (k.rel.map rowPV))),(119,.pv (i64 (k.rel.map rowPV).length)),(120,.pv (i64 i))],fun _=>9,fun _=>[(0,.var (cellsA a)),(1,.var cellsZ),(2,.var (cellsA k)),(4,.var [.pv (intsPV fl)]),(5,.var [.pv (intsPV kl)]),(6,.var [.pv (.sl V),.pv (.sl W),.buf 7 (((k.rel.take i).map rq).map rowPV).length]),(7,.arr 1 (((k.rel.take i).map rq).map rowPV)),(8,.arr 1 ((allQ r pl evs.length 0 (List.replicate kl.length 0)).map u64))],?_,?_⟩
   ·(try conv=>whnf);repeat' (first|(apply And.intro<;>try conv=>whnf)|(apply Or.inl;try conv=>whnf)|fail)
    ·rfl
    ·exact Int.natCast_nonneg _
    ·exact hbig
    refine⟨(),?_⟩
    (refine Wk.of ?_ ?_ rfl rfl rfl<;>repeat' (first|exact trivial|exact WkD.same _|exact WkO.same _ _ rfl|exact WkD.eq (congrArg (fun z:List PV=>DV.buf _ z.length) hz1)|exact WkO.same _ _ (congrArg (fun z=>some (DObj.arr _ z)) hz1)|refine⟨?_,?_⟩|fail))
   rintro⟨⟩
   refine⟨Unit,fun _=>[(1,.ref 0 0),(2,.ref 1 0),(7,.pv (intsPV evs)),(12,.ref 5 0),(14,.clo 57 [] [.ref 5 0,.ref 4 0]),(15,.ref 6 0),(20,.buf 8 ((allQ r pl evs.length evs.length (List.replicate kl.length 0)).map u64).length),(118,.pv (.sl (k.rel.map rowPV))),(119,.pv (i64 (k.rel.map rowPV).length)),(120,.pv (i64 i))],fun _=>9,fun _=>[(0,.var (cellsA a)),(1,.var cellsZ),(2,.var (cellsA k)),(4,.var [.pv (intsPV fl)]),(5,.var [.pv (intsPV kl)]),(6,.var [.pv (.sl V),.pv (.sl W),.buf 7 (((k.rel.take i).map rq).map rowPV).length]),(7,.arr 1 (((k.rel.take i).map rq).map rowPV)),(8,.arr 1 ((allQ r pl evs.length evs.length (List.replicate kl.length 0)).map u64))],?_,?_⟩
   ·try conv=>whnf
    refine⟨{ e:Nat // e≤evs.length },fun e=>[(1,.ref 0 0),(2,.ref 1 0),(7,.pv (intsPV evs)),(12,.ref 5 0),(14,.clo 57 [] [.ref 5 0,.ref 4 0]),(15,.ref 6 0),(19,.pv (rowPV r)),(20,.buf 8 ((allQ r pl evs.length e.1 (List.replicate kl.length 0)).map u64).length),(118,.pv (.sl (k.rel.map rowPV))),(119,.pv (i64 (k.rel.map rowPV).length)),(120,.pv (i64 i)),(127,.pv (rowPV r)),(128,.pv (i64 (r.map u64).length)),(129,.pv (i64 e.1))],fun _=>9,fun e=>[(0,.var (cellsA a)),(1,.var cellsZ),(2,.var (cellsA k)),(4,.var [.pv (intsPV fl)]),(5,.var [.pv (intsPV kl)]),(6,.var [.pv (.sl V),.pv (.sl W),.buf 7 (((k.rel.take i).map rq).map rowPV).length]),(7,.arr 1 (((k.rel.take i).map rq).map rowPV)),(8,.arr 1 ((allQ r pl evs.length e.1 (List.replicate kl.length 0)).map u64))],fun e=>evs.length-e.1,⟨⟨0,Nat.zero_le _⟩,(by refine Wk.of ?_ ?_ rfl rfl rfl<;>repeat' (first|exact trivial|exact WkD.same _|exact WkO.same _ _ rfl|refine⟨?_,?_⟩|fail))⟩,?_⟩
    rintro⟨e,he⟩
    (try conv=>whnf);repeat' (first|(apply And.intro<;>try conv=>whnf)|(intro h;try conv=>whnf)|(apply infoT;rfl)|fail)
    ·have he':e<evs.length:=by rw[← hrl];simpa using lt_dec h
     obtain⟨Qe,hQe⟩:∃ Qe,Qe=allQ r pl evs.length e (List.replicate kl.length 0):=⟨_,rfl⟩
     have hQn:allQ r pl evs.length (e+1) (List.replicate kl.length 0)=rowQ r pl e evs.length Qe:=by rw[allQ,hQe]
     have hQl:Qe.length=kl.length:=by rw[hQe,allQ_len,List.length_replicate]
     have hQu:Und8 Qe:=by rw[hQe];exact allQ_und (zer_und _) fun f hf=>by have:=hp8 f hf;omega
     have hq0:(allQ r pl evs.length e (List.replicate kl.length 0)).map u64=(rowQ r pl e 0 Qe).map u64:=by rw[hQe];rfl
     have hq1:(rowQ r pl e evs.length Qe).map u64=(allQ r pl evs.length (e+1) (List.replicate kl.length 0)).map u64:=by rw[hQn]
     have hre:r[e]? = some (r.getD e 0):=getD_mem (by omega)
     have hs64:=hr64 _ (List.mem_iff_getElem?.2 ⟨_,hre⟩)
     refine⟨_,_,rfl,idx_map hre,rfl,?_⟩
     try conv=>whnf
     refine⟨{ f:Nat // f≤evs.length },fun f=>[(1,.ref 0 0),(2,.ref 1 0),(7,.pv (intsPV evs)),(12,.ref 5 0),(14,.clo 57 [] [.ref 5 0,.ref 4 0]),(15,.ref 6 0),(19,.pv (rowPV r)),(20,.buf 8 ((rowQ r pl e f.1 Qe).map u64).length),(118,.pv (.sl (k.rel.map rowPV))),(119,.pv (i64 (k.rel.map rowPV).length)),(120,.pv (i64 i)),(127,.pv (rowPV r)),(128,.pv (i64 (r.map u64).length)),(129,.pv (i64 e)),(21,.pv (i64 e)),(22,.pv (u64 (r.getD e 0))),(135,.pv (i64 (r.map u64).length)),(136,.pv (i64 f.1))],fun _=>9,fun f=>[(0,.var (cellsA a)),(1,.var cellsZ),(2,.var (cellsA k)),(4,.var [.pv (intsPV fl)]),(5,.var [.pv (intsPV kl)]),(6,.var [.pv (.sl V),.pv (.sl W),.buf 7 (((k.rel.take i).map rq).map rowPV).length]),(7,.arr 1 (((k.rel.take i).map rq).map rowPV)),(8,.arr 1 ((rowQ r pl e f.1 Qe).map u64))],fun f=>evs.length-f.1,⟨⟨0,Nat.zero_le _⟩,(by refine Wk.of ?_ ?_ rfl rfl rfl<;>repeat' (first|exact trivial|exact WkD.same _|exact WkO.same _ _ rfl|exact WkD.eq (congrArg (fun z:List PV=>DV.buf _ z.length) hq0)|exact WkO.same _ _ (congrArg (fun z=>some (DObj.arr _ z)) hq0)|refine⟨?_,?_⟩|fail))⟩,?_⟩
     rintro⟨f,hf⟩
     (try conv=>whnf);repeat' (first|(apply And.intro<;>try conv=>whnf)|(intro h;try conv=>whnf)|fail)
     ·have hf':f<evs.length:=by rw[← hrl];simpa using lt_dec h
      obtain⟨Q,hQ⟩:∃ Q,Q=rowQ r pl e f Qe:=⟨_,rfl⟩
      have hQl2:Q.length=kl.length:=by rw[hQ,rowQ_len,hQl]
      have hQu2:Und8 Q:=by rw[hQ];exact rowQ_und hQu fun g hg=>by have:=hp8 g (by omega);omega
      obtain⟨ve,hve⟩:∃ ve,ve=fsN Z e:=⟨_,rfl⟩
      obtain⟨vf,hvf⟩:∃ vf,vf=fsN Z f:=⟨_,rfl⟩
      have hple:pl e=kl.idxOf ve:=by rw[hpl,hve]
      have hplf:pl f=kl.idxOf vf:=by rw[hpl,hvf]
      have hfe:fl[e]? = some ve:=by rw[hve];exact hfl2 e he'
      have hff:fl[f]? = some vf:=by rw[hvf];exact hfl2 f hf'
      have hme:ve∈kl:=by rw[hve];exact hmk e he'
      have hmf:vf∈kl:=by rw[hvf];exact hmk f hf'
      have hplt:kl.idxOf ve<Q.length:=by rw[hQl2,← hple];exact hp8 e he'
      have hpf8:kl.idxOf vf<8:=by rw[← hplf];have:=hp8 f hf';omega
      have hqd:=getD_mem (d:=0) hplt
      have hqe:=idx_map (g:=u64) hqd
      have hor:=or_place (x:=Q.getD (kl.idxOf ve) 0) (s:=r.getD e 0) (f:=f) (p:=kl.idxOf vf) (hQu2.get _) hs64 (by omega) hpf8
      have hQ2:rowQ r pl e (f+1) Qe=Q.set (kl.idxOf ve) (bif (r.getD e 0).testBit f then Q.getD (kl.idxOf ve) 0 |||2^kl.idxOf vf else Q.getD (kl.idxOf ve) 0):=by rw[rowQ,← hQ,stepQ,hple,hplf]
      have hplm:kl.idxOf ve<(Q.map u64).length:=by rw[List.length_map];exact hplt
      have hst:(Q.map u64).set (kl.idxOf ve) (PV.int .u64 (orU (Q.getD (kl.idxOf ve) 0:Nat) (shlU (andU (shrU (r.getD e 0:Nat) (f:Nat)) 1) (kl.idxOf vf:Nat))))=(rowQ r pl e (f+1) Qe).map u64:=by rw[hQ2,hor,List.map_set];rfl
      rw[hQ] at hqe hplm hst
      clear hQ2 hor
      have hls:((rowQ r pl e f Qe).map u64).length=((rowQ r pl e (f+1) Qe).map u64).length:=by rw[List.length_map,List.length_map,rowQ_len,rowQ_len]
      have hn1:=Int.natCast_nonneg f
      have hn2:=Int.natCast_nonneg (kl.idxOf vf)
      refine⟨planQ,[3,12,16],by kernel_rfl,?_⟩
      (try conv=>whnf);repeat' (first|(apply And.intro<;>try conv=>whnf)|exact Nat.le_refl 1|(apply ex2;(focus with_reducible assumption);try conv=>whnf)|(refine DC.callA (q:=.pv (i64 (kl.idxOf ve))) 6 (HPl a k fl kl) ⟨rfl,rfl,rfl,rfl,rfl,rfl,trivial⟩ rfl rfl rfl rfl (fun M' K' hK'=>clo_place a k fl kl e ve hfe hme hkl1 _ K' hK') ?_;try conv=>whnf)|(refine DC.callA (q:=.pv (i64 (kl.idxOf vf))) 6 (HPl a k fl kl) ⟨rfl,rfl,rfl,rfl,rfl,rfl,trivial⟩ rfl rfl rfl rfl (fun M' K' hK'=>clo_place a k fl kl f vf hff hmf hkl1 _ K' hK') ?_;try conv=>whnf)|(refine⟨kl.idxOf ve,rfl,hplm,?_⟩;try conv=>whnf)|fail)
      all_goals first
       |exact hn1
       |exact hn2
       |skip
      all_goals
       refine⟨⟨f+1,hf'⟩,by show evs.length-(f+1)<evs.length-f;omega,?_⟩
       (refine Wk.of ?_ ?_ rfl rfl rfl<;>repeat' (first|exact trivial|exact WkD.same _|exact WkO.same _ _ rfl|refine WkD.int ?_|refine⟨?_,?_⟩|(refine wrapA ?_ ?_ ?_;(focus simp;done);(focus (try dsimp only);omega);(focus (try dsimp only);omega))|fail))
       ·exact WkD.eq (congrArg (DV.buf 8) hls)
       ·exact WkO.same _ _ (congrArg (fun z=>some (DObj.arr 1 z)) hst)
     ·have hf':f=evs.length:=by have:=ge_dec (m:=(r.map u64).length) h (by simpa [hrl] using hf);simpa [hrl] using this
      subst hf'
      refine⟨⟨e+1,he'⟩,by show evs.length-(e+1)<evs.length-e;omega,?_⟩
      (refine Wk.of ?_ ?_ rfl rfl rfl<;>repeat' (first|exact trivial|exact WkD.same _|exact WkO.same _ _ rfl|exact WkD.eq (congrArg (fun z:List PV=>DV.buf _ z.length) hq1)|exact WkO.same _ _ (congrArg (fun z=>some (DObj.arr _ z)) hq1)|refine WkD.int ?_|refine⟨?_,?_⟩|(refine wrapA ?_ ?_ ?_;(focus simp;done);(focus (try dsimp only);omega);(focus (try dsimp only);omega))|fail))
    ·have he':e=evs.length:=by have:=ge_dec (m:=(r.map u64).length) h (by simpa [hrl] using he);simpa [hrl] using this
     subst he'
     exact⟨(),(by refine Wk.of ?_ ?_ rfl rfl rfl<;>repeat' (first|exact trivial|exact WkD.same _|exact WkO.same _ _ rfl|refine⟨?_,?_⟩|fail))⟩
   rintro⟨⟩
   rw[← hrqe r]
   (try conv=>whnf);repeat' (first|(apply And.intro<;>try conv=>whnf)|(apply bleI;rfl)|(apply cellsI;rfl)|(apply szI;rfl)|fail)
   ·exact app_big (n:=1000) hvsl (by decide)
   ·refine⟨⟨i+1,hi'⟩,by show k.rel.length-(i+1)<k.rel.length-i;omega,?_⟩
    (refine Wk.of ?_ ?_ rfl rfl rfl<;>repeat' (first|exact trivial|exact WkD.same _|exact WkO.same _ _ rfl|exact WkD.eq (congrArg (fun z:List PV=>DV.buf _ z.length) er)|exact WkO.same _ _ (congrArg (fun z=>some (DObj.arr _ z)) er)|refine WkD.int ?_|refine WkO.vars rfl ?_|refine⟨?_,?_⟩|(refine wrapA ?_ ?_ ?_;(focus simp;done);(focus (try dsimp only);omega);(focus (try dsimp only);omega))|fail))
  ·have hi':i=k.rel.length:=by have:=ge_dec (m:=(k.rel.map rowPV).length) h (by simpa using hi);simpa using this
   subst hi'
   exact⟨(),(by refine Wk.of ?_ ?_ rfl rfl rfl<;>repeat' (first|exact trivial|exact WkD.same _|exact WkO.same _ _ rfl|exact WkD.fz _ _ _ rfl (Or.inl ⟨_,rfl⟩) rfl|refine WkO.vars rfl ?_|refine⟨?_,?_⟩|fail))⟩
 rintro⟨⟩
 have hR:sfP (sfB k Z evs.length,(List.range a.pre.length).map (sfN evs Z),0)=.tup [.agg [.sl V,.sl W,.sl (((k.rel.take k.rel.length).map rq).map rowPV)],.sl (((List.range a.pre.length).map (sfN evs Z)).map intI),.int .i64 0]:=by
  rw[hV,hW,hrq,List.take_length,List.take_length,hkl0];rfl
 rw[hR]
 clear hW hV hR
 generalize (((k.rel.take k.rel.length).map rq).map rowPV)=U
 obtain⟨sn,hsn⟩:∃ sn:Nat→Int,sn=sfN evs Z:=⟨_,rfl⟩
 rw[← hsn]
 have e9:((a.pre.map fpv).length:Int)=(a.pre.length:Int):=by simp
 try conv=>whnf
 refine⟨Unit,fun _=>[(2,.ref 1 0),(15,.ref 6 0),(24,.pv (.sl (((List.range a.pre.length).map sn).map intI)))],fun _=>7,fun _=>[(0,.var (cellsA a)),(1,.var cellsZ),(2,.var (cellsA k)),(4,.var [.pv (intsPV fl)]),(5,.var [.pv (intsPV kl)]),(6,.var [.pv (.sl V),.pv (.sl W),.pv (.sl U)])],?_,?_⟩
 ·try conv=>whnf
  refine⟨{ i:Nat // i≤a.pre.length },fun i=>[(2,.ref 1 0),(7,.pv (intsPV evs)),(14,.clo 57 [] [.ref 5 0,.ref 4 0]),(15,.ref 6 0),(24,.buf 7 (((List.range i.1).map sn).map intI).length),(166,.pv (i64 (a.pre.map fpv).length)),(167,.pv (i64 i.1))],fun _=>8,fun i=>[(0,.var (cellsA a)),(1,.var cellsZ),(2,.var (cellsA k)),(4,.var [.pv (intsPV fl)]),(5,.var [.pv (intsPV kl)]),(6,.var [.pv (.sl V),.pv (.sl W),.pv (.sl U)]),(7,.arr 1 (((List.range i.1).map sn).map intI))],fun i=>a.pre.length-i.1,⟨⟨0,Nat.zero_le _⟩,(by refine Wk.of ?_ ?_ rfl rfl rfl<;>repeat' (first|exact trivial|exact WkD.same _|exact WkO.same _ _ rfl|exact WkD.new' rfl rfl rfl|exact WkO.new _ _ rfl|exact rfl|refine⟨?_,?_⟩|fail))⟩,?_⟩
  rintro⟨i,hi⟩
  (try conv=>whnf);repeat' (first|(apply And.intro<;>try conv=>whnf)|(intro h;try conv=>whnf)|fail)
  ·have hi':i<a.pre.length:=by simpa using lt_dec h
   have hrn:((List.range i).map sn).map intI++[intI (sn i)]=((List.range (i+1)).map sn).map intI:=by rw[List.range_succ,List.map_append,List.map_append];rfl
   have hll:(((List.range i).map sn).map intI).length≤1000:=by simp;omega
   have hI:=sl_IndexN evs i (by omega)
   obtain⟨x,hx⟩:∃ x,ixN evs i=x:=⟨_,rfl⟩
   rw[hx] at hI
   (try conv=>whnf);repeat' (first|(refine PureFn.dcq (f:=58) rfl ?_;try conv=>whnf)|(refine⟨_,_,hI,?_,?_⟩;(focus first|(refine⟨?_,?_,trivial⟩<;>first|exact PLe.refl _|exact PLe.nil)|exact trivial);try conv=>whnf)|fail)
   refine⟨Unit,fun _=>[(2,.ref 1 0),(7,.pv (intsPV evs)),(14,.clo 57 [] [.ref 5 0,.ref 4 0]),(15,.ref 6 0),(24,.buf 7 (((List.range i).map sn).map intI).length),(166,.pv (i64 (a.pre.map fpv).length)),(167,.pv (i64 i)),(26,.pv (intI (sn i)))],fun _=>8,fun _=>[(0,.var (cellsA a)),(1,.var cellsZ),(2,.var (cellsA k)),(4,.var [.pv (intsPV fl)]),(5,.var [.pv (intsPV kl)]),(6,.var [.pv (.sl V),.pv (.sl W),.pv (.sl U)]),(7,.arr 1 (((List.range i).map sn).map intI))],?_,?_⟩
   ·by_cases him:i∈evs
    ·rw[ixN,if_pos him] at hx
     have hsi:sn i=(pl (evs.idxOf i):Nat):=by rw[hsn,sfN,if_pos him,hplN]
     have hj:evs.idxOf i<evs.length:=List.idxOf_lt_length_iff.2 him
     generalize evs.idxOf i=j at hx hsi hj
     subst hx
     obtain⟨ve,hve⟩:∃ ve,ve=fsN Z j:=⟨_,rfl⟩
     have hplj:pl j=kl.idxOf ve:=by rw[hpl,hve]
     have hfe:fl[j]? = some ve:=by rw[hve];exact hfl2 j hj
     have hme:ve∈kl:=by rw[hve];exact hmk j hj
     rw[hplj] at hsi
     rw[hsi]
     (try conv=>whnf);repeat' (first|(apply And.intro<;>try conv=>whnf)|(intro h;try conv=>whnf)|(refine DC.callA (q:=.pv (i64 (kl.idxOf ve))) 6 (HPl a k fl kl) ⟨rfl,rfl,rfl,rfl,rfl,rfl,trivial⟩ rfl rfl rfl rfl (fun M' K' hK'=>clo_place a k fl kl j ve hfe hme hkl1 _ K' hK') ?_;try conv=>whnf)|fail)
     ·exact⟨(),(by refine Wk.of ?_ ?_ rfl rfl rfl<;>repeat' (first|exact trivial|exact WkD.same _|exact WkO.same _ _ rfl|refine⟨?_,?_⟩|fail))⟩
     ·exfalso
      have h2:decide ((j:Int)≥0)=false:=h
      have:=of_decide_eq_false h2
      omega
    ·rw[ixN,if_neg him] at hx
     subst hx
     have hsi:sn i = -1:=by rw[hsn,sfN,if_neg him]
     rw[hsi]
     (try conv=>whnf);repeat' (first|(apply And.intro<;>try conv=>whnf)|(intro h;try conv=>whnf)|fail)
     ·cases h
     ·exact⟨(),(by refine Wk.of ?_ ?_ rfl rfl rfl<;>repeat' (first|exact trivial|exact WkD.same _|exact WkO.same _ _ rfl|refine⟨?_,?_⟩|fail))⟩
   rintro⟨⟩
   (try conv=>whnf);repeat' (first|(apply And.intro<;>try conv=>whnf)|(apply cellsI;rfl)|(apply szI;rfl)|fail)
   ·exact app_big (n:=1000) hll (by decide)
   ·refine⟨⟨i+1,hi'⟩,by show a.pre.length-(i+1)<a.pre.length-i;omega,?_⟩
    (refine Wk.of ?_ ?_ rfl rfl rfl<;>repeat' (first|exact trivial|exact WkD.same _|exact WkO.same _ _ rfl|exact WkD.eq (congrArg (fun z:List PV=>DV.buf _ z.length) hrn)|exact WkO.same _ _ (congrArg (fun z=>some (DObj.arr _ z)) hrn)|refine WkD.int ?_|refine⟨?_,?_⟩|(refine wrapA ?_ ?_ ?_;(focus simp;done);(focus (try dsimp only);omega);(focus (try dsimp only);omega))|fail))
  ·have hi':i=a.pre.length:=by have:=ge_dec (m:=(a.pre.map fpv).length) h (by simpa using hi);simpa using this
   subst hi'
   exact⟨(),(by refine Wk.of ?_ ?_ rfl rfl rfl<;>repeat' (first|exact trivial|exact WkD.same _|exact WkO.same _ _ rfl|exact WkD.fz _ _ _ rfl (Or.inl ⟨_,rfl⟩) rfl|refine⟨?_,?_⟩|fail))⟩
 rintro⟨⟩
 try conv=>whnf
 exact .refl _
def evP (z:Act×Int):PV:=.agg [.sl (z.1.pre.map fpv),.sl (z.1.post.map postPV),.sl (z.1.rel.map rowPV),.int .i64 z.2]
def cellsE (z:Act×Int):List DV:=[.pv (.sl (z.1.pre.map fpv)),.pv (.sl (z.1.post.map postPV)),.pv (.sl (z.1.rel.map rowPV)),.pv (.int .i64 z.2)]
def firE {α:Type} (g:α→Int):List α→Int
 | []=>0
 |z::r=>bif g z != 0 then g z else firE g r
theorem firE_drop {α:Type} (g:α→Int) {l:List α} {i:Nat} {z:α} (h:l[i]? = some z):firE g (l.drop i)=bif g z != 0 then g z else firE g (l.drop (i+1)):=by
 obtain⟨q1,q2⟩:=List.getElem?_eq_some_iff.1 h
 rw[List.drop_eq_getElem_cons q1,q2];rfl
theorem firE_zero {α:Type} {g:α→Int}:∀ {l:List α},firE g l=0→∀ z,z∈l→g z=0
 |y::r,h,z,hz=>by
  rw[firE] at h
  cases hb:(g y != 0) with
  |true=>rw[hb] at h;have:g y=0:=h;rw[this] at hb;cases hb
  |false =>
   rw[hb] at h
   rcases List.mem_cons.1 hz with rfl|hz
   ·simpa using hb
   ·exact firE_zero (show firE g r=0 from h) z hz
def g1D (m:Mo) (z:Act×Int):Int:=actI z.1 (m.rel.length:Int) (m.val.length:Int)
def g2D (z:Act×Int):Int:=bif badEv z.1 z.2 then 6 else 0
def g3D (m:Mo) (z:Act×Int):Int:=bif (updI m z.1).2.2==8 then 8 else 0
def difG (m:Mo) (l:List (Act×Int)):Int:=bif moI m != 0 then moI m else bif firE (g1D m) l != 0 then firE (g1D m) l else bif firE g2D l != 0 then firE g2D l else firE (g3D m) l
def preS (m:Mo) (z:Act×Int):Nat:=possP m z.1 z.2.toNat
def difW (m:Mo) (x y:Act×Int) (B:Nat→Bool) (w:Nat):Bool:=bif (preS m x).testBit w != (preS m y).testBit w then true else bif (preS m x).testBit w then !B w else false
def firW (p:Nat→Bool) (n:Nat):Int:=match (List.range n).find? p with
 |some w=>(w:Int)
 |none => -1
theorem firW_yes {p:Nat→Bool} {n w:Nat} (hw:w<n) (hp:p w=true) (h:∀ v,v<w→p v=false):firW p n=(w:Int):=by
 have:(List.range n).find? p=some w:=by
  rw[List.find?_range_eq_some]
  exact⟨hp,List.mem_range.2 hw,fun j hj=>by rw[h j hj];rfl⟩
 rw[firW,this]
theorem firW_no {p:Nat→Bool} {n:Nat} (h:∀ v,v<n→p v=false):firW p n = -1:=by
 have:(List.range n).find? p=none:=List.find?_eq_none.2 fun x hx=>by rw[h x (List.mem_range.1 hx)];simp
 rw[firW,this]
def difI (m:Mo) (x y:Act×Int) (B:Nat→Bool):Int×Int:=bif difG m [x,y] != 0 then (0,difG m [x,y]) else (firW (difW m x y B) m.n.toNat,0)
def difP (z:Int×Int):PV:=.tup [.int .i64 z.1,.int .i64 z.2]
theorem cp_Differ (m:Mo) (x y:Act×Int) (hf:FitM m) (hSx:SmX x.1) (hSy:SmX y.1) (B:Nat→Bool)
  (hB:difG m [x,y]=0→∀ w,w<m.n.toNat→(preS m x).testBit w=true→(preS m y).testBit w=true→∃ c:Int,PureFn Tryz.prog 42 [(atI m w x.1 x.2).1.pv,.int .i64 (atI m w x.1 x.2).2.1,(atI m w y.1 y.2).1.pv,.int .i64 (atI m w y.1 y.2).2.1] (.tup [.bool (B w),.int .i64 c])) :
  PureFn Tryz.prog 14 [m.pv,evP x,evP y] (difP (difI m x y B)):=by
 have hM:=md_Check m hf
 obtain⟨l,hl⟩:∃ l,l=[x,y]:=⟨_,rfl⟩
 have hS:∀ z,z∈l→SmX z.1:=fun z hz=>by
  rw[hl] at hz
  rcases List.mem_cons.1 hz with rfl|hz
  ·exact hSx
  ·rw[List.mem_singleton.1 hz];exact hSy
 have hll:l.length=2:=by rw[hl];rfl
 have e1:((m.rel.map rowPV).length:Int)=(m.rel.length:Int):=by simp
 have e2:((m.val.map u64).length:Int)=(m.val.length:Int):=by simp
 have eS:PV.sl [evP x,evP y]=.sl (l.map evP):=by rw[hl];rfl
 have hI:difI m x y B=bif difG m l != 0 then (0,difG m l) else (firW (difW m x y B) m.n.toNat,0):=by rw[difI,hl]
 rw[← hl] at hB
 rw[hI]
 clear hI
 obtain⟨R,hR⟩:∃ R,R=difP (bif difG m l != 0 then (0,difG m l) else (firW (difW m x y B) m.n.toNat,0)):=⟨_,rfl⟩
 rw[← hR]
 have hno:∀ c,difG m l=c→(c != 0)=true→R=.tup [.int .i64 0,.int .i64 c]:=fun c h hc=>by rw[hR,h,hc];rfl
 refine PureFn.introC [4,5,9,12,18,22,25,26,27,32,33,34,35,36,39] mixed (fn:=Tryz.f14) rfl rfl rfl fun M w0 => ?_
 try conv=>whnf
 refine⟨{ _x:Unit // moI m=0 },fun _=>[(3,.ref 0 0),(4,.ref 1 0),(5,.ref 2 0)],fun _=>3,fun _=>[(0,.var (cellsM m)),(1,.var (cellsE x)),(2,.var (cellsE y))],?_,?_⟩
 ·(try conv=>whnf);repeat' (first|(apply And.intro<;>try conv=>whnf)|(intro h;try conv=>whnf)|(refine PureFn.dcq (f:=40) rfl ?_;try conv=>whnf)|(refine⟨_,_,hM,?_,?_⟩;(focus first|(refine⟨?_,trivial⟩<;>first|exact PLe.refl _|exact PLe.nil)|exact trivial);try conv=>whnf)|fail)
  ·rw[hno (moI m) (by rw[difG,show (moI m != 0)=true from h];rfl) h]
   exact .refl _
  ·exact⟨⟨(),by simpa using h⟩,(by refine Wk.of ?_ ?_ rfl rfl rfl<;>repeat' (first|exact trivial|exact WkD.same _|exact WkO.same _ _ rfl|refine⟨?_,?_⟩|fail))⟩
 rintro⟨_,hm0⟩
 have g1:(moI m != 0)=false:=by simpa using hm0
 have hG:difG m l=bif firE (g1D m) l != 0 then firE (g1D m) l else bif firE g2D l != 0 then firE g2D l else firE (g3D m) l:=by rw[difG,g1];rfl
 refine⟨Unit,fun _=>[(3,.ref 0 0),(4,.ref 1 0),(5,.ref 2 0),(9,.pv (.sl (l.map evP)))],fun _=>3,fun _=>[(0,.var (cellsM m)),(1,.var (cellsE x)),(2,.var (cellsE y))],?_,?_⟩
 ·(try conv=>whnf);repeat' (first|(apply And.intro<;>try conv=>whnf)|(apply cellsI;rfl)|fail)
  refine⟨(),?_⟩
  (refine Wk.of ?_ ?_ rfl rfl rfl<;>repeat' (first|exact trivial|exact WkD.same _|exact WkO.same _ _ rfl|refine⟨?_,?_⟩|fail))
  exact WkD.eq (congrArg DV.pv eS)
 rintro⟨⟩
 refine⟨{ _x:Unit // firE (g1D m) l=0 },fun _=>[(3,.ref 0 0),(4,.ref 1 0),(5,.ref 2 0),(9,.pv (.sl (l.map evP)))],fun _=>3,fun _=>[(0,.var (cellsM m)),(1,.var (cellsE x)),(2,.var (cellsE y))],?_,?_⟩
 ·try conv=>whnf
  refine⟨{ i:Nat // i≤l.length∧firE (g1D m) l=firE (g1D m) (l.drop i) },fun i=>[(3,.ref 0 0),(4,.ref 1 0),(5,.ref 2 0),(9,.pv (.sl (l.map evP))),(41,.pv (.sl (l.map evP))),(42,.pv (i64 (l.map evP).length)),(43,.pv (i64 i.1))],fun _=>3,fun _=>[(0,.var (cellsM m)),(1,.var (cellsE x)),(2,.var (cellsE y))],fun i=>l.length-i.1,⟨⟨0,Nat.zero_le _,rfl⟩,(by refine Wk.of ?_ ?_ rfl rfl rfl<;>repeat' (first|exact trivial|exact WkD.same _|exact WkO.same _ _ rfl|refine⟨?_,?_⟩|fail))⟩,?_⟩
  rintro⟨i,hi,hfi⟩
  (try conv=>whnf);repeat' (first|(apply And.intro<;>try conv=>whnf)|(intro h;try conv=>whnf)|(apply infoT;rfl)|fail)
  ·have hi':i<l.length:=by simpa using lt_dec h
   obtain⟨z,hz⟩:∃ z,l[i]? = some z:=⟨_,List.getElem?_eq_getElem hi'⟩
   have hzm:=hS z (List.mem_iff_getElem?.2 ⟨_,hz⟩)
   have hC:=ac_Check z.1 ((m.rel.map rowPV).length:Int) ((m.val.map u64).length:Int) hzm.fit hzm.rel hzm.post
   rw[firE_drop _ hz] at hfi
   have hgz:g1D m z=actI z.1 ((m.rel.map rowPV).length:Int) ((m.val.map u64).length:Int):=by rw[g1D,e1,e2]
   rw[hgz] at hfi
   generalize actI z.1 ((m.rel.map rowPV).length:Int) ((m.val.map u64).length:Int)=c at hC hfi
   refine⟨_,_,rfl,idx_map hz,rfl,?_⟩
   try conv=>whnf
   refine⟨Unit,fun _=>[(3,.ref 0 0),(4,.ref 1 0),(5,.ref 2 0),(9,.pv (.sl (l.map evP))),(41,.pv (.sl (l.map evP))),(42,.pv (i64 (l.map evP).length)),(43,.pv (i64 i)),(12,.pv (.int .i64 c))],fun _=>3,fun _=>[(0,.var (cellsM m)),(1,.var (cellsE x)),(2,.var (cellsE y))],?_,?_⟩
   ·(try conv=>whnf);repeat' (first|(refine PureFn.dcq (f:=16) rfl ?_;try conv=>whnf)|(refine⟨_,_,hC,?_,?_⟩;(focus first|(refine⟨?_,?_,?_,trivial⟩<;>first|exact PLe.refl _|exact PLe.nil)|exact trivial);try conv=>whnf)|fail)
    exact⟨(),(by refine Wk.of ?_ ?_ rfl rfl rfl<;>repeat' (first|exact trivial|exact WkD.same _|exact WkO.same _ _ rfl|refine⟨?_,?_⟩|fail))⟩
   rintro⟨⟩
   (try conv=>whnf);repeat' (first|(apply And.intro<;>try conv=>whnf)|(intro h;try conv=>whnf)|fail)
   ·have hc:(c != 0)=true:=h
    rw[hc,cond_true] at hfi
    rw[hno c (by rw[hG,hfi,hc];rfl) hc]
    exact .refl _
   ·have hc:(c != 0)=false:=h
    rw[hc,cond_false] at hfi
    exact⟨⟨i+1,hi',hfi⟩,by show l.length-(i+1)<l.length-i;omega,(by refine Wk.of ?_ ?_ rfl rfl rfl<;>repeat' (first|exact trivial|exact WkD.same _|exact WkO.same _ _ rfl|refine WkD.int ?_|refine⟨?_,?_⟩|(refine wrapA ?_ ?_ ?_;(focus simp;done);(focus (try dsimp only);omega);(focus (try dsimp only);omega))|fail))⟩
  ·have hi':i=l.length:=by have:=ge_dec (m:=(l.map evP).length) h (by simpa using hi);simpa using this
   subst hi'
   rw[List.drop_length] at hfi
   exact⟨⟨(),hfi⟩,(by refine Wk.of ?_ ?_ rfl rfl rfl<;>repeat' (first|exact trivial|exact WkD.same _|exact WkO.same _ _ rfl|refine⟨?_,?_⟩|fail))⟩
 rintro⟨_,hF1⟩
 rw[hF1] at hG
 have hG:difG m l=bif firE g2D l != 0 then firE g2D l else firE (g3D m) l:=hG
 refine⟨{ _x:Unit // firE g2D l=0 },fun _=>[(3,.ref 0 0),(4,.ref 1 0),(5,.ref 2 0),(9,.pv (.sl (l.map evP)))],fun _=>3,fun _=>[(0,.var (cellsM m)),(1,.var (cellsE x)),(2,.var (cellsE y))],?_,?_⟩
 ·try conv=>whnf
  refine⟨{ i:Nat // i≤l.length∧firE g2D l=firE g2D (l.drop i) },fun i=>[(3,.ref 0 0),(4,.ref 1 0),(5,.ref 2 0),(9,.pv (.sl (l.map evP))),(60,.pv (.sl (l.map evP))),(61,.pv (i64 (l.map evP).length)),(62,.pv (i64 i.1))],fun _=>3,fun _=>[(0,.var (cellsM m)),(1,.var (cellsE x)),(2,.var (cellsE y))],fun i=>l.length-i.1,⟨⟨0,Nat.zero_le _,rfl⟩,(by refine Wk.of ?_ ?_ rfl rfl rfl<;>repeat' (first|exact trivial|exact WkD.same _|exact WkO.same _ _ rfl|refine⟨?_,?_⟩|fail))⟩,?_⟩
  rintro⟨i,hi,hfi⟩
  (try conv=>whnf);repeat' (first|(apply And.intro<;>try conv=>whnf)|(intro h;try conv=>whnf)|(apply infoT;rfl)|fail)
  ·have hi':i<l.length:=by simpa using lt_dec h
   obtain⟨z,hz⟩:∃ z,l[i]? = some z:=⟨_,List.getElem?_eq_getElem hi'⟩
   rw[firE_drop _ hz] at hfi
   have e3:((z.1.pre.map fpv).length:Int)=(z.1.pre.length:Int):=by simp
   refine⟨_,_,rfl,idx_map hz,rfl,?_⟩
   (try conv=>whnf);repeat' (first|(apply And.intro<;>try conv=>whnf)|(intro h;try conv=>whnf)|apply True.intro|(apply WhenQ.mk;(try conv=>whnf);rotate_left;(try conv=>whnf);rotate_right)|with_reducible assumption|(apply not_of;with_reducible assumption)|fail)
   ·have hb:badEv z.1 z.2=true:=by rw[badEv,← e3];exact h
    have hg:g2D z=6:=by rw[g2D,hb];rfl
    rw[hg] at hfi
    rw[hno 6 (by rw[hG,hfi];rfl) rfl]
    exact .refl _
   ·have hb:badEv z.1 z.2=false:=by rw[badEv,← e3];exact h
    have hg:g2D z=0:=by rw[g2D,hb];rfl
    rw[hg] at hfi
    exact⟨⟨i+1,hi',hfi⟩,by show l.length-(i+1)<l.length-i;omega,(by refine Wk.of ?_ ?_ rfl rfl rfl<;>repeat' (first|exact trivial|exact WkD.same _|exact WkO.same _ _ rfl|refine WkD.int ?_|refine⟨?_,?_⟩|(refine wrapA ?_ ?_ ?_;(focus simp;done);(focus (try dsimp only);omega);(focus (try dsimp only);omega))|fail))⟩
  ·have hi':i=l.length:=by have:=ge_dec (m:=(l.map evP).length) h (by simpa using hi);simpa using this
   subst hi'
   rw[List.drop_length] at hfi
   exact⟨⟨(),hfi⟩,(by refine Wk.of ?_ ?_ rfl rfl rfl<;>repeat' (first|exact trivial|exact WkD.same _|exact WkO.same _ _ rfl|refine⟨?_,?_⟩|fail))⟩
 rintro⟨_,hF2⟩
 rw[hF2] at hG
 have hG:difG m l=firE (g3D m) l:=hG
 have hev:∀ z:Act×Int,z∈l→∃ k:Nat,z.2=(k:Int)∧k<z.1.pre.length:=fun z hz=>by
  have hg:=firE_zero hF2 z hz
  unfold g2D at hg
  cases hb:badEv z.1 z.2 with
  |true=>rw[hb] at hg;cases hg
  |false =>
   unfold badEv at hb
   cases h1:decide (z.2<0) with
   |true=>rw[h1] at hb;cases hb
   |false =>
    rw[h1] at hb
    have h2:=of_decide_eq_false (show decide (z.2≥(z.1.pre.length:Int))=false from hb)
    have h3:=of_decide_eq_false h1
    exact⟨z.2.toNat,by omega,by omega⟩
 obtain⟨xn,hxn,hxl⟩:=hev x (by rw[hl];simp)
 obtain⟨yn,hyn,hyl⟩:=hev y (by rw[hl];simp)
 refine⟨{ _x:Unit // difG m l=0 },fun _=>[(3,.ref 0 0),(4,.ref 1 0),(5,.ref 2 0)],fun _=>3,fun _=>[(0,.var (cellsM m)),(1,.var (cellsE (x.1,(xn:Int)))),(2,.var (cellsE (y.1,(yn:Int))))],?_,?_⟩
 ·try conv=>whnf
  refine⟨{ i:Nat // i≤l.length∧firE (g3D m) l=firE (g3D m) (l.drop i) },fun i=>[(3,.ref 0 0),(4,.ref 1 0),(5,.ref 2 0),(9,.pv (.sl (l.map evP))),(79,.pv (.sl (l.map evP))),(80,.pv (i64 (l.map evP).length)),(81,.pv (i64 i.1))],fun _=>3,fun _=>[(0,.var (cellsM m)),(1,.var (cellsE x)),(2,.var (cellsE y))],fun i=>l.length-i.1,⟨⟨0,Nat.zero_le _,rfl⟩,(by refine Wk.of ?_ ?_ rfl rfl rfl<;>repeat' (first|exact trivial|exact WkD.same _|exact WkO.same _ _ rfl|refine⟨?_,?_⟩|fail))⟩,?_⟩
  rintro⟨i,hi,hfi⟩
  (try conv=>whnf);repeat' (first|(apply And.intro<;>try conv=>whnf)|(intro h;try conv=>whnf)|(apply infoT;rfl)|fail)
  ·have hi':i<l.length:=by simpa using lt_dec h
   obtain⟨z,hz⟩:∃ z,l[i]? = some z:=⟨_,List.getElem?_eq_getElem hi'⟩
   have hzm:=hS z (List.mem_iff_getElem?.2 ⟨_,hz⟩)
   have hU:=pr_Update m z.1 hf hzm.fit hzm.rel hzm.post
   rw[firE_drop _ hz] at hfi
   have hgz:g3D m z=bif (updI m z.1).2.2==8 then 8 else 0:=rfl
   rw[hgz] at hfi
   generalize updI m z.1=U at hU hfi
   obtain⟨um,up,c⟩:=U
   refine⟨_,_,rfl,idx_map hz,rfl,?_⟩
   try conv=>whnf
   refine⟨Unit,fun _=>[(3,.ref 0 0),(4,.ref 1 0),(5,.ref 2 0),(9,.pv (.sl (l.map evP))),(79,.pv (.sl (l.map evP))),(80,.pv (i64 (l.map evP).length)),(81,.pv (i64 i)),(19,.pv (.int .i64 c))],fun _=>3,fun _=>[(0,.var (cellsM m)),(1,.var (cellsE x)),(2,.var (cellsE y))],?_,?_⟩
   ·(try conv=>whnf);repeat' (first|(refine PureFn.dcq (f:=18) rfl ?_;try conv=>whnf)|(refine⟨_,_,hU,?_,?_⟩;(focus first|(refine⟨?_,?_,trivial⟩<;>first|exact PLe.refl _|exact PLe.nil)|exact trivial);try conv=>whnf)|fail)
    exact⟨(),(by refine Wk.of ?_ ?_ rfl rfl rfl<;>repeat' (first|exact trivial|exact WkD.same _|exact WkO.same _ _ rfl|refine⟨?_,?_⟩|fail))⟩
   rintro⟨⟩
   (try conv=>whnf);repeat' (first|(apply And.intro<;>try conv=>whnf)|(intro h;try conv=>whnf)|fail)
   ·have hc:(c==8)=true:=h
    have hc8:c=8:=by simpa using hc
    subst hc8
    rw[hno 8 (by rw[hG,hfi];rfl) rfl]
    exact .refl _
   ·have hc:(c==8)=false:=h
    simp only[hc,cond_false] at hfi
    exact⟨⟨i+1,hi',hfi⟩,by show l.length-(i+1)<l.length-i;omega,(by refine Wk.of ?_ ?_ rfl rfl rfl<;>repeat' (first|exact trivial|exact WkD.same _|exact WkO.same _ _ rfl|refine WkD.int ?_|refine⟨?_,?_⟩|(refine wrapA ?_ ?_ ?_;(focus simp;done);(focus (try dsimp only);omega);(focus (try dsimp only);omega))|fail))⟩
  ·have hi':i=l.length:=by have:=ge_dec (m:=(l.map evP).length) h (by simpa using hi);simpa using this
   subst hi'
   rw[List.drop_length] at hfi
   refine⟨⟨(),hG.trans hfi⟩,?_⟩
   (refine Wk.of ?_ ?_ rfl rfl rfl<;>repeat' (first|exact trivial|exact WkD.same _|exact WkO.same _ _ rfl|refine WkD.int ?_|refine WkO.vars rfl ?_|refine⟨?_,?_⟩|fail))
   ·exact hxn
   ·exact hyn
 rintro⟨_,hG0⟩
 have hB:=hB hG0
 have hR0:R=.tup [.int .i64 (firW (difW m x y B) m.n.toNat),.int .i64 0]:=by rw[hR,hG0];rfl
 obtain⟨n,hMn⟩:=moI_ok hm0
 have hmo:∀ z,z∈l→moaI m z.1=0:=fun z hz=>by
  rw[moaI,g1]
  exact firE_zero hF1 z hz
 have hx1:=pre_holds (hmo x (by rw[hl];simp)) hxl
 have hy1:=pre_holds (hmo y (by rw[hl];simp)) hyl
 have hsx:preS m x=possP m x.1 xn:=by rw[preS,hxn];rfl
 have hsy:preS m y=possP m y.1 yn:=by rw[preS,hyn];rfl
 rw[← hsx,hMn.nn,Int.toNat_natCast] at hx1
 rw[← hsy,hMn.nn,Int.toNat_natCast] at hy1
 have hnn:=hMn.nn
 have hn64:=hMn.n64
 rw[hnn,Int.toNat_natCast] at hR0 hB
 have hpx:x.1.pre[xn]? = some (x.1.pre.getD xn []):=getD_mem hxl
 have hpy:y.1.pre[yn]? = some (y.1.pre.getD yn []):=getD_mem hyl
 have hHx:=ck_Holds m (x.1.pre.getD xn []) hf
 have hHy:=ck_Holds m (y.1.pre.getD yn []) hf
 rw[hx1.1] at hHx
 rw[hy1.1] at hHy
 have hs64:preS m x<2^64:=Nat.lt_of_lt_of_le hx1.2 (pow64_le hn64)
 have ht64:preS m y<2^64:=Nat.lt_of_lt_of_le hy1.2 (pow64_le hn64)
 have hAx:=fun w:Nat=>pr_At m (w:Int) x.1 (xn:Int) hf hSx.fit hSx.rel hSx.post
 have hAy:=fun w:Nat=>pr_At m (w:Int) y.1 (yn:Int) hf hSy.fit hSy.rel hSy.post
 rw[hxn,hyn] at hB
 have hD:∀ w,difW m x y B w=bif (preS m x).testBit w != (preS m y).testBit w then true else bif (preS m x).testBit w then !B w else false:=fun w=>rfl
 generalize difW m x y B=D at hD hR0
 generalize preS m x=s at *
 generalize preS m y=t at *
 refine⟨Unit,fun _=>[(3,.ref 0 0),(4,.ref 1 0),(5,.ref 2 0),(20,.pv (u64 s))],fun _=>3,fun _=>[(0,.var (cellsM m)),(1,.var (cellsE (x.1,(xn:Int)))),(2,.var (cellsE (y.1,(yn:Int))))],?_,?_⟩
 ·(try conv=>whnf);repeat' (first|(apply And.intro<;>try conv=>whnf)|(apply infoT;rfl)|(refine lin_plan (by kernel_rfl) ?_;try conv=>whnf)|(refine⟨_,_,rfl,idx_map (by with_reducible assumption),rfl,?_⟩;try conv=>whnf)|(refine⟨_,(by (conv=>whnf);exact hHx),rfl,?_⟩;try conv=>whnf)|fail)
  exact⟨(),(by refine Wk.of ?_ ?_ rfl rfl rfl<;>repeat' (first|exact trivial|exact WkD.same _|exact WkO.same _ _ rfl|refine⟨?_,?_⟩|fail))⟩
 rintro⟨⟩
 refine⟨Unit,fun _=>[(3,.ref 0 0),(4,.ref 1 0),(5,.ref 2 0),(20,.pv (u64 s)),(22,.pv (u64 t))],fun _=>3,fun _=>[(0,.var (cellsM m)),(1,.var (cellsE (x.1,(xn:Int)))),(2,.var (cellsE (y.1,(yn:Int))))],?_,?_⟩
 ·(try conv=>whnf);repeat' (first|(apply And.intro<;>try conv=>whnf)|(apply infoT;rfl)|(refine lin_plan (by kernel_rfl) ?_;try conv=>whnf)|(refine⟨_,_,rfl,idx_map (by with_reducible assumption),rfl,?_⟩;try conv=>whnf)|(refine⟨_,(by (conv=>whnf);exact hHy),rfl,?_⟩;try conv=>whnf)|fail)
  exact⟨(),(by refine Wk.of ?_ ?_ rfl rfl rfl<;>repeat' (first|exact trivial|exact WkD.same _|exact WkO.same _ _ rfl|refine⟨?_,?_⟩|fail))⟩
 rintro⟨⟩
 refine⟨{ _x:Unit // ∀ v,v<n→D v=false },fun _=>[],fun _=>3,fun _=>[],?_,?_⟩
 ·try conv=>whnf
  refine⟨{ w:Nat // w≤n∧∀ v,v<w→D v=false },fun w=>[(3,.ref 0 0),(4,.ref 1 0),(5,.ref 2 0),(20,.pv (u64 s)),(22,.pv (u64 t)),(122,.pv (.int .i64 m.n)),(123,.pv (i64 w.1))],fun _=>3,fun _=>[(0,.var (cellsM m)),(1,.var (cellsE (x.1,(xn:Int)))),(2,.var (cellsE (y.1,(yn:Int))))],fun w=>n-w.1,⟨⟨0,Nat.zero_le _,fun v h=>by omega⟩,(by refine Wk.of ?_ ?_ rfl rfl rfl<;>repeat' (first|exact trivial|exact WkD.same _|exact WkO.same _ _ rfl|refine⟨?_,?_⟩|fail))⟩,?_⟩
  rintro⟨w,hw,hnow⟩
  (try conv=>whnf);repeat' (first|(apply And.intro<;>try conv=>whnf)|(intro h;try conv=>whnf)|fail)
  ·have hw':w<n:=by
    have h2:decide ((w:Int)<m.n)=true:=h
    have:=of_decide_eq_true h2
    rw[hnn] at this;omega
   have hbs:andU (shrU (s:Nat) (w:Nat)) 1=if s.testBit w then 1 else 0:=bit_and s w hs64 (by omega)
   have hbt:andU (shrU (t:Nat) (w:Nat)) 1=if t.testBit w then 1 else 0:=bit_and t w ht64 (by omega)
   have hDw:=hD w
   refine⟨{ _x:Unit // s.testBit w=t.testBit w },fun _=>[(3,.ref 0 0),(4,.ref 1 0),(5,.ref 2 0),(20,.pv (u64 s)),(22,.pv (u64 t)),(122,.pv (.int .i64 m.n)),(123,.pv (i64 w)),(24,.pv (i64 w))],fun _=>3,fun _=>[(0,.var (cellsM m)),(1,.var (cellsE (x.1,(xn:Int)))),(2,.var (cellsE (y.1,(yn:Int))))],?_,?_⟩
   ·(try conv=>whnf);repeat' (first|(apply And.intro<;>try conv=>whnf)|(intro h;try conv=>whnf)|(refine lin_plan (by kernel_rfl) ?_;try conv=>whnf)|fail)
    ·exact Int.natCast_nonneg _
    ·exact Int.natCast_nonneg _
    ·have h2:(andU (shrU (s:Nat) (w:Nat)) 1 != andU (shrU (t:Nat) (w:Nat)) 1)=true:=h
     rw[hbs,hbt] at h2
     have h3:D w=true:=by
      rw[hDw]
      cases hq:s.testBit w<;>cases hq2:t.testBit w<;>rw[hq,hq2] at h2<;>first|rfl|exact absurd h2 (by decide)
     rw[hR0,firW_yes hw' h3 hnow]
     exact .refl _
    ·refine⟨⟨(),?_⟩,(by refine Wk.of ?_ ?_ rfl rfl rfl<;>repeat' (first|exact trivial|exact WkD.same _|exact WkO.same _ _ rfl|refine⟨?_,?_⟩|fail))⟩
     have h2:(andU (shrU (s:Nat) (w:Nat)) 1 != andU (shrU (t:Nat) (w:Nat)) 1)=false:=h
     rw[hbs,hbt] at h2
     cases hq:s.testBit w<;>cases hq2:t.testBit w<;>rw[hq,hq2] at h2<;>first|rfl|exact absurd h2 (by decide)
   rintro⟨_,hst⟩
   refine⟨{ _x:Unit // s.testBit w=true },fun _=>[(3,.ref 0 0),(4,.ref 1 0),(5,.ref 2 0),(20,.pv (u64 s)),(22,.pv (u64 t)),(122,.pv (.int .i64 m.n)),(123,.pv (i64 w)),(24,.pv (i64 w))],fun _=>3,fun _=>[(0,.var (cellsM m)),(1,.var (cellsE (x.1,(xn:Int)))),(2,.var (cellsE (y.1,(yn:Int))))],?_,?_⟩
   ·(try conv=>whnf);repeat' (first|(apply And.intro<;>try conv=>whnf)|(intro h;try conv=>whnf)|fail)
    ·exact Int.natCast_nonneg _
    ·have h2:(andU (shrU (s:Nat) (w:Nat)) 1==0)=true:=h
     rw[hbs] at h2
     have hq:s.testBit w=false:=by
      cases hq:s.testBit w with
      |false=>rfl
      |true=>rw[hq] at h2;exact absurd h2 (by decide)
     have h3:D w=false:=by rw[hDw,← hst,hq];rfl
     refine⟨⟨w+1,hw',fun v hv => ?_⟩,by show n-(w+1)<n-w;omega,(by refine Wk.of ?_ ?_ rfl rfl rfl<;>repeat' (first|exact trivial|exact WkD.same _|exact WkO.same _ _ rfl|refine WkD.int ?_|refine⟨?_,?_⟩|(refine wrapA ?_ ?_ ?_;(focus simp;done);(focus (try dsimp only);omega);(focus (try dsimp only);omega))|fail))⟩
     by_cases e:v<w
     ·exact hnow v e
     ·rw[show v=w by omega];exact h3
    ·refine⟨⟨(),?_⟩,(by refine Wk.of ?_ ?_ rfl rfl rfl<;>repeat' (first|exact trivial|exact WkD.same _|exact WkO.same _ _ rfl|refine⟨?_,?_⟩|fail))⟩
     have h2:(andU (shrU (s:Nat) (w:Nat)) 1==0)=false:=h
     rw[hbs] at h2
     cases hq:s.testBit w with
     |true=>rfl
     |false=>rw[hq] at h2;exact absurd h2 (by decide)
   rintro⟨_,hsw⟩
   obtain⟨c,hBw⟩:=hB w hw' hsw (by rw[← hst];exact hsw)
   have hAx:=hAx w
   have hAy:=hAy w
   generalize atI m w x.1 xn=X at hAx hBw
   generalize atI m w y.1 yn=Y at hAy hBw
   refine⟨Unit,fun _=>[(3,.ref 0 0),(4,.ref 1 0),(5,.ref 2 0),(20,.pv (u64 s)),(22,.pv (u64 t)),(122,.pv (.int .i64 m.n)),(123,.pv (i64 w)),(24,.pv (i64 w)),(25,.ref 3 0),(26,.pv (.int .i64 X.2.1))],fun _=>4,fun _=>[(0,.var (cellsM m)),(1,.var (cellsE (x.1,(xn:Int)))),(2,.var (cellsE (y.1,(yn:Int)))),(3,.var (cellsM X.1))],?_,?_⟩
   ·(try conv=>whnf);repeat' (first|(refine PureFn.dcq (f:=19) rfl ?_;try conv=>whnf)|(refine⟨_,_,hAx,?_,?_⟩;(focus first|(refine⟨?_,?_,?_,?_,trivial⟩<;>first|exact PLe.refl _|exact PLe.nil)|exact trivial);try conv=>whnf)|fail)
    exact⟨(),(by refine Wk.of ?_ ?_ rfl rfl rfl<;>repeat' (first|exact trivial|exact WkD.same _|exact WkO.same _ _ rfl|refine⟨?_,?_⟩|fail))⟩
   rintro⟨⟩
   refine⟨Unit,fun _=>[(3,.ref 0 0),(4,.ref 1 0),(5,.ref 2 0),(20,.pv (u64 s)),(22,.pv (u64 t)),(122,.pv (.int .i64 m.n)),(123,.pv (i64 w)),(24,.pv (i64 w)),(25,.ref 3 0),(26,.pv (.int .i64 X.2.1)),(28,.ref 4 0),(29,.pv (.int .i64 Y.2.1))],fun _=>5,fun _=>[(0,.var (cellsM m)),(1,.var (cellsE (x.1,(xn:Int)))),(2,.var (cellsE (y.1,(yn:Int)))),(3,.var (cellsM X.1)),(4,.var (cellsM Y.1))],?_,?_⟩
   ·(try conv=>whnf);repeat' (first|(refine PureFn.dcq (f:=19) rfl ?_;try conv=>whnf)|(refine⟨_,_,hAy,?_,?_⟩;(focus first|(refine⟨?_,?_,?_,?_,trivial⟩<;>first|exact PLe.refl _|exact PLe.nil)|exact trivial);try conv=>whnf)|fail)
    exact⟨(),(by refine Wk.of ?_ ?_ rfl rfl rfl<;>repeat' (first|exact trivial|exact WkD.same _|exact WkO.same _ _ rfl|refine⟨?_,?_⟩|fail))⟩
   rintro⟨⟩
   refine⟨Unit,fun _=>[(3,.ref 0 0),(4,.ref 1 0),(5,.ref 2 0),(20,.pv (u64 s)),(22,.pv (u64 t)),(122,.pv (.int .i64 m.n)),(123,.pv (i64 w)),(24,.pv (i64 w)),(31,.pv (.bool (B w)))],fun _=>3,fun _=>[(0,.var (cellsM m)),(1,.var (cellsE (x.1,(xn:Int)))),(2,.var (cellsE (y.1,(yn:Int))))],?_,?_⟩
   ·(try conv=>whnf);repeat' (first|(refine PureFn.dcq (f:=42) rfl ?_;try conv=>whnf)|(refine⟨_,_,hBw,?_,?_⟩;(focus first|(refine⟨?_,?_,?_,?_,trivial⟩<;>first|exact PLe.refl _|exact PLe.nil)|exact trivial);try conv=>whnf)|fail)
    exact⟨(),(by refine Wk.of ?_ ?_ rfl rfl rfl<;>repeat' (first|exact trivial|exact WkD.same _|exact WkO.same _ _ rfl|refine⟨?_,?_⟩|fail))⟩
   rintro⟨⟩
   have h3:D w=!B w:=by rw[hDw,← hst,hsw];rfl
   (try conv=>whnf);repeat' (first|(apply And.intro<;>try conv=>whnf)|(intro h;try conv=>whnf)|fail)
   ·have hb:(!B w)=true:=h
    rw[hR0,firW_yes hw' (h3.trans hb) hnow]
    exact .refl _
   ·have hb:(!B w)=false:=h
    refine⟨⟨w+1,hw',fun v hv => ?_⟩,by show n-(w+1)<n-w;omega,(by refine Wk.of ?_ ?_ rfl rfl rfl<;>repeat' (first|exact trivial|exact WkD.same _|exact WkO.same _ _ rfl|refine WkD.int ?_|refine⟨?_,?_⟩|(refine wrapA ?_ ?_ ?_;(focus simp;done);(focus (try dsimp only);omega);(focus (try dsimp only);omega))|fail))⟩
    by_cases e:v<w
    ·exact hnow v e
    ·rw[show v=w by omega];exact h3.trans hb
  ·have hw':w=n:=by
    have h2:decide ((w:Int)<m.n)=false:=h
    have:=of_decide_eq_false h2
    rw[hnn] at this;omega
   subst hw'
   exact⟨⟨(),hnow⟩,(by refine Wk.of ?_ ?_ rfl rfl rfl<;>repeat' (first|exact trivial|fail))⟩
 rintro⟨_,hall⟩
 try conv=>whnf
 rw[hR0,firW_no hall]
 exact .refl _
def sameZ:List Int→List Int→Bool
 | [],[]=>true
 |x::r,y::s=>bif x==y then sameZ r s else false
 |_,_=>false
theorem sameZ_drop {a b:List Int} {i:Nat} {x y:Int} (h1:a[i]? = some x) (h2:b[i]? = some y):sameZ (a.drop i) (b.drop i)=bif x==y then sameZ (a.drop (i+1)) (b.drop (i+1)) else false:=by
 obtain⟨p1,p2⟩:=List.getElem?_eq_some_iff.1 h1
 obtain⟨q1,q2⟩:=List.getElem?_eq_some_iff.1 h2
 rw[List.drop_eq_getElem_cons p1,List.drop_eq_getElem_cons q1,p2,q2];rfl
theorem sameZ_len:∀ {a b:List Int},a.length≠b.length→sameZ a b=false
 | [],[],h=>absurd rfl h
 | [],_::_,_=>rfl
 |_::_,[],_=>rfl
 |x::r,y::s,h=>by
  rw[sameZ,sameZ_len (a:=r) (b:=s) (by simpa using h)]
  cases (x==y)<;>rfl
theorem ri_SameInts (a b:List Int) (hl0:a.length≤1000):PureFn Tryz.prog 39 [.sl (a.map intI),.sl (b.map intI)] (.bool (sameZ a b)):=by
 refine PureFn.introC [3] mixed (fn:=Tryz.f39) rfl rfl rfl fun M w0 => ?_
 try conv=>whnf
 refine⟨{ _x:Unit // a.length=b.length },fun _=>[(0,.pv (.sl (a.map intI))),(1,.pv (.sl (b.map intI)))],fun _=>0,fun _=>[],?_,?_⟩
 ·(try conv=>whnf);repeat' (first|(apply And.intro<;>try conv=>whnf)|(intro h;try conv=>whnf)|fail)
  ·have h2:(((a.map intI).length:Int) != ((b.map intI).length:Int))=true:=h
   refine le_bool (sameZ_len ?_).symm
   intro e
   rw[List.length_map,List.length_map,e] at h2
   simp at h2
  ·refine⟨⟨(),?_⟩,(by refine Wk.of ?_ ?_ rfl rfl rfl<;>repeat' (first|exact trivial|exact WkD.same _|refine⟨?_,?_⟩|fail))⟩
   have h2:(((a.map intI).length:Int) != ((b.map intI).length:Int))=false:=h
   rw[List.length_map,List.length_map] at h2
   have:(a.length:Int)=b.length:=by simpa using h2
   omega
 rintro⟨_,hl⟩
 try conv=>whnf
 refine⟨{ i:Nat // i≤a.length∧sameZ a b=sameZ (a.drop i) (b.drop i) },fun i=>[(0,.pv (.sl (a.map intI))),(1,.pv (.sl (b.map intI))),(5,.pv (i64 i.1))],fun _=>0,fun _=>[],fun i=>a.length-i.1,⟨⟨0,Nat.zero_le _,rfl⟩,(by refine Wk.of ?_ ?_ rfl rfl rfl<;>repeat' (first|exact trivial|exact WkD.same _|refine⟨?_,?_⟩|fail))⟩,?_⟩
 rintro⟨i,hi,hs⟩
 (try conv=>whnf);repeat' (first|(apply And.intro<;>try conv=>whnf)|(intro h;try conv=>whnf)|(apply infoT;rfl)|(refine lin_plan (by kernel_rfl) ?_;try conv=>whnf)|fail)
 ·have hi':i<a.length:=by simpa using lt_dec h
  obtain⟨x,hx⟩:∃ x,a[i]? = some x:=⟨_,List.getElem?_eq_getElem hi'⟩
  obtain⟨y,hy⟩:∃ y,b[i]? = some y:=⟨_,List.getElem?_eq_getElem (by omega)⟩
  rw[sameZ_drop hx hy] at hs
  (try conv=>whnf);repeat' (first|(apply And.intro<;>try conv=>whnf)|(intro h;try conv=>whnf)|(apply infoT;rfl)|(refine⟨_,_,rfl,idx_map (by with_reducible assumption),rfl,?_⟩;try conv=>whnf)|fail)
  ·have h2:(x != y)=true:=h
   rw[show (x==y)=false by simpa using h2] at hs
   exact le_bool hs.symm
  ·have h2:(x != y)=false:=h
   rw[show (x==y)=true by simpa using h2] at hs
   exact⟨⟨i+1,hi',hs⟩,by show a.length-(i+1)<a.length-i;omega,(by refine Wk.of ?_ ?_ rfl rfl rfl<;>repeat' (first|exact trivial|exact WkD.same _|refine WkD.int ?_|refine⟨?_,?_⟩|(refine wrapA ?_ ?_ ?_;(focus simp;done);(focus (try dsimp only);omega);(focus (try dsimp only);omega))|fail))⟩
 ·have hi':i=a.length:=by have:=ge_dec (m:=(a.map intI).length) h (by simpa using hi);simpa using this
  subst hi'
  rw[List.drop_length,hl,List.drop_length] at hs
  exact le_bool hs.symm
def twoA (P Q:List Nd):Act:=⟨[P,Q],[[],[]],[[3,3]]⟩
theorem fn_two (P Q:List Nd):PureFn Tryz.prog 35 [fpv P,fpv Q] (twoA P Q).pv:=by
 refine PureFn.intro mixed (fn:=Tryz.f35) rfl rfl rfl fun M w0 => ?_
 (try conv=>whnf);repeat' (first|(apply And.intro<;>try conv=>whnf)|(apply bleI;rfl)|(apply cellsI;rfl)|(apply Or.inl;try conv=>whnf)|fail)
 ·rfl
 ·exact (show (0:Int)≤2 by decide)
 ·exact (show (2:Int)≤4294967296 by decide)
 ·exact PLe.aggs ⟨.refl _,PLe.sls ⟨.nil,.nil,trivial⟩,.refl _,trivial⟩
theorem awk31:PureFn Tryz.prog 13 [] (.bool true):=by
 obtain⟨P,qP⟩:∃ z:List Nd,z=[nI 3 0]:=⟨_,rfl⟩
 obtain⟨Q,qQ⟩:∃ z:List Nd,z=[nI 3 1]:=⟨_,rfl⟩
 have al:∀ a:Act,aloneI a=0→SmX a:=fun a h=>smx_alone h
 obtain⟨a,qa⟩:∃ a,a=pubA 1 P:=⟨_,rfl⟩
 obtain⟨b,qb⟩:∃ a,a=pubA 1 Q:=⟨_,rfl⟩
 have hSa:SmX a:=al a (by rw[qa,qP];kernel_rfl)
 have hSb:SmX b:=al b (by rw[qb,qQ];kernel_rfl)
 have hPa:PureFn Tryz.prog 22 [.int .i64 1,fpv P] (pairA (a,0)):=by
  have:=ac_Public 1 P
  rw[show pubI 1 P=(a,0) by rw[qa,qP];kernel_rfl] at this
  exact this
 have hPb:PureFn Tryz.prog 22 [.int .i64 1,fpv Q] (pairA (b,0)):=by
  have:=ac_Public 1 Q
  rw[show pubI 1 Q=(b,0) by rw[qb,qQ];kernel_rfl] at this
  exact this
 obtain⟨sk,qsk⟩:∃ a,a=pubA 1 (buildL (n0 1) []):=⟨_,rfl⟩
 have hSs:SmX sk:=al sk (by rw[qsk];kernel_rfl)
 have hSk:PureFn Tryz.prog 38 [.int .i64 1] (pairA (sk,0)):=by
  have:=ac_Skip 1
  rw[show pubI 1 (buildL (n0 1) [])=(sk,0) by rw[qsk];kernel_rfl] at this
  exact this
 have hCo:=compose_dc a b hSa hSb
 obtain⟨c,qc⟩:∃ c,c=(composeI a b).1:=⟨_,rfl⟩
 rw[show composeI a b=(c,0) from Prod.ext qc.symm (by rw[qa,qb,qP,qQ];kernel_rfl)] at hCo
 obtain⟨I,qI⟩:∃ z,z=buildL (n0 7) [P,Q]:=⟨_,rfl⟩
 have hIm:=fm_Imp P Q
 rw[← qI] at hIm
 obtain⟨J,qJ⟩:∃ z,z=buildL (n0 5) [P,I]:=⟨_,rfl⟩
 have hAn:=fm_And P I
 rw[← qJ] at hAn
 have hcl:c.pre.length=1:=by rw[qc,qa,qb,qP,qQ];kernel_rfl
 obtain⟨cp,hcp⟩:∃ z,c.pre[0]? = some z:=⟨_,List.getElem?_eq_getElem (by rw[hcl];exact Nat.zero_lt_one)⟩
 have hSm:=fm_Same cp J
 have hsm:same cp J=true:=by
  have h1:c.pre.getD 0 []=cp:=by rw[List.getD_eq_getElem?_getD,hcp];rfl
  have h2:same ((composeI (pubA 1 [nI 3 0]) (pubA 1 [nI 3 1])).1.pre.getD 0 []) (buildL (n0 5) [[nI 3 0],buildL (n0 7) [[nI 3 0],[nI 3 1]]])=true:=by kernel_rfl
  rw[← h1,qc,qJ,qI,qa,qb,qP,qQ]
  exact h2
 rw[hsm] at hSm
 obtain⟨T,qT⟩:∃ z,z=buildL (n0 1) []:=⟨_,rfl⟩
 have hTr:=fm_True
 rw[← qT] at hTr
 obtain⟨PT,qPT⟩:∃ z,z=buildL (n0 5) [P,T]:=⟨_,rfl⟩
 have hAn2:=fm_And P T
 rw[← qPT] at hAn2
 have hTw:=fn_two P PT
 obtain⟨t1,qt1⟩:∃ z,z=twoA P PT:=⟨_,rfl⟩
 rw[← qt1] at hTw
 have ht1:aloneI t1=0:=by rw[qt1,qPT,qT,qP];kernel_rfl
 have hSf:=cp_Simplify t1 (al t1 ht1) (fun _=>by
  have hn:(evtL (smpA t1)).length=2:=by rw[qt1,qPT,qT,qP];kernel_rfl
  rw[hn]
  have hk:fsN (sfZ t1) 0=0∧fsN (sfZ t1) 1=0:=by rw[qt1,qPT,qT,qP];exact⟨by kernel_rfl,by kernel_rfl⟩
  intro e he
  rcases e with _|_|e
  ·exact⟨by rw[hk.1];decide,by rw[hk.1,hk.1]⟩
  ·exact⟨by rw[hk.2];decide,by rw[hk.2,hk.1]⟩
  ·omega)
 obtain⟨S,qS⟩:∃ z,z=(sfyI t1).1:=⟨_,rfl⟩
 rw[show sfyI t1=(S,[0,0],0) from Prod.ext qS.symm (by rw[qt1,qPT,qT,qP];kernel_rfl)] at hSf
 have hSl:S.pre.length=1:=by rw[qS,qt1,qPT,qT,qP];kernel_rfl
 obtain⟨N1,qN1⟩:∃ z,z=buildL (n0 4) [P]:=⟨_,rfl⟩
 have hN1:=fm_Not P
 rw[← qN1] at hN1
 obtain⟨N2,qN2⟩:∃ z,z=buildL (n0 4) [N1]:=⟨_,rfl⟩
 have hN2:=fm_Not N1
 rw[← qN2] at hN2
 have hTw2:=fn_two N2 P
 obtain⟨t2,qt2⟩:∃ z,z=twoA N2 P:=⟨_,rfl⟩
 rw[← qt2] at hTw2
 have ht2:aloneI t2=0:=by rw[qt2,qN2,qN1,qP];kernel_rfl
 have hAl1:=cp_Alike a t2 hSa (al t2 ht2) 0 0
 rw[show alikeP a 0 t2 0=.tup [.bool true,.int .i64 0] by rw[qa,qt2,qN2,qN1,qP];kernel_rfl] at hAl1
 obtain⟨t3,qt3⟩:∃ z:Act,z=⟨[N2],[[]],[[1]]⟩:=⟨_,rfl⟩
 have ht3:aloneI t3=0:=by rw[qt3,qN2,qN1,qP];kernel_rfl
 have hAl2:=cp_Alike a t3 hSa (al t3 ht3) 0 0
 rw[show alikeP a 0 t3 0=.tup [.bool true,.int .i64 0] by rw[qa,qt3,qN2,qN1,qP];kernel_rfl] at hAl2
 have hAl3:PureFn Tryz.prog 21 [a.pv,.int .i64 0,.agg [.sl [fpv N2],.sl [.nil],.sl [rowPV [1]]],.int .i64 0] (.tup [.bool true,.int .i64 0]):=by
  rw[qt3] at hAl2
  exact hAl2.le ⟨.refl _,.refl _,PLe.aggs ⟨.refl _,PLe.sls ⟨.nil,trivial⟩,.refl _,trivial⟩,.refl _,trivial⟩
 obtain⟨m,qm⟩:∃ m:Mo,m=⟨1,[0],[[1]]⟩:=⟨_,rfl⟩
 have hf:FitM m:=by
  rw[qm]
  refine⟨fun s hs => ?_,fun r hr s hs => ?_⟩
  ·rw[List.mem_singleton.1 hs];decide
  ·rw[List.mem_singleton.1 hr] at hs
   have:s=1:=by simpa using hs
   rw[this];decide
 have hDf:=cp_Differ m (sk,0) (a,0) hf hSs hSa (fun _=>false) (fun _ w hw _ h2=>by
  exfalso
  have hn:m.n.toNat=1:=by rw[qm];rfl
  have hw0:w=0:=by omega
  subst hw0
  have:(preS m (a,0)).testBit 0=false:=by rw[qm,qa,qP];kernel_rfl
  rw[this] at h2;cases h2)
 rw[show difI m (sk,0) (a,0) (fun _=>false)=(0,0) by rw[qm,qsk,qa,qP];kernel_rfl] at hDf
 have hRI:=ri_SameInts [0,0] [0,0] (by decide)
 rw[show sameZ [0,0] [0,0]=true from rfl] at hRI
 have hcl':((c.pre.map fpv).length:Int)=1:=by rw[List.length_map,hcl];rfl
 have hSl':((S.pre.map fpv).length:Int)=1:=by rw[List.length_map,hSl];rfl
 have hix:=idx_map (g:=fpv) hcp
 clear hsm hcl hSl qc qJ qI qPT qT qS qt1 qt2 qt3 qN2 qN1 ht1 ht2 ht3 hf hSa hSb hSs hAl2 qa qb qsk al
 subst qm
 refine PureFn.introC [2,3,4,5,7,8,9,10,11,12,13] mixed (fn:=Tryz.f13) rfl rfl rfl fun M w0 => ?_
 try conv=>whnf
 refine⟨Unit,fun _=>[(1,.pv (fpv P)),(2,.pv (fpv Q))],fun _=>0,fun _=>[],?_,?_⟩
 ·subst qP qQ
  (try conv=>whnf);repeat' (first|(apply And.intro<;>try conv=>whnf)|(apply cellsI;rfl)|fail)
  exact⟨(),(by refine Wk.of ?_ ?_ rfl rfl rfl<;>repeat' (first|exact trivial|exact WkD.same _|refine⟨?_,?_⟩|fail))⟩
 rintro⟨⟩
 clear qP qQ
 refine⟨Unit,fun _=>[(1,.pv (fpv P)),(2,.pv (fpv Q)),(3,.ref 0 0),(4,.pv (.int .i64 0))],fun _=>1,fun _=>[(0,.var (cellsA a))],?_,?_⟩
 ·(try conv=>whnf);repeat' (first|(refine PureFn.dcq (f:=22) rfl ?_;try conv=>whnf)|(refine⟨_,_,hPa,?_,?_⟩;(focus first|(refine⟨?_,?_,trivial⟩<;>first|exact PLe.refl _|exact PLe.nil)|exact trivial);try conv=>whnf)|fail)
  exact⟨(),(by refine Wk.of ?_ ?_ rfl rfl rfl<;>repeat' (first|exact trivial|exact WkD.same _|exact WkO.same _ _ rfl|refine⟨?_,?_⟩|fail))⟩
 rintro⟨⟩
 refine⟨Unit,fun _=>[(1,.pv (fpv P)),(2,.pv (fpv Q)),(3,.ref 0 0),(4,.pv (.int .i64 0)),(5,.ref 1 0),(6,.pv (.int .i64 0))],fun _=>2,fun _=>[(0,.var (cellsA a)),(1,.var (cellsA b))],?_,?_⟩
 ·(try conv=>whnf);repeat' (first|(refine PureFn.dcq (f:=22) rfl ?_;try conv=>whnf)|(refine⟨_,_,hPb,?_,?_⟩;(focus first|(refine⟨?_,?_,trivial⟩<;>first|exact PLe.refl _|exact PLe.nil)|exact trivial);try conv=>whnf)|fail)
  exact⟨(),(by refine Wk.of ?_ ?_ rfl rfl rfl<;>repeat' (first|exact trivial|exact WkD.same _|exact WkO.same _ _ rfl|refine⟨?_,?_⟩|fail))⟩
 rintro⟨⟩
 refine⟨Unit,fun _=>[(1,.pv (fpv P)),(2,.pv (fpv Q)),(3,.ref 0 0),(4,.pv (.int .i64 0)),(6,.pv (.int .i64 0)),(7,.ref 2 0),(8,.pv (.int .i64 0))],fun _=>3,fun _=>[(0,.var (cellsA a)),(2,.var (cellsA c))],?_,?_⟩
 ·(try conv=>whnf);repeat' (first|(refine PureFn.dcq (f:=23) rfl ?_;try conv=>whnf)|(refine⟨_,_,hCo,?_,?_⟩;(focus first|(refine⟨?_,?_,trivial⟩<;>first|exact PLe.refl _|exact PLe.nil)|exact trivial);try conv=>whnf)|fail)
  exact⟨(),(by refine Wk.of ?_ ?_ rfl rfl rfl<;>repeat' (first|exact trivial|exact WkD.same _|exact WkO.same _ _ rfl|refine⟨?_,?_⟩|fail))⟩
 rintro⟨⟩
 refine⟨Unit,fun _=>[(1,.pv (fpv P)),(3,.ref 0 0)],fun _=>3,fun _=>[(0,.var (cellsA a))],?_,?_⟩
 ·(try conv=>whnf);repeat' (first|(apply And.intro<;>try conv=>whnf)|(intro h;try conv=>whnf)|apply True.intro|(apply infoT;rfl)|(apply WhenQ.mk;(try conv=>whnf);rotate_left;(try conv=>whnf);rotate_right)|with_reducible assumption|(apply not_of;with_reducible assumption)|(refine lin_plan (by kernel_rfl) ?_;try conv=>whnf)|(refine⟨_,_,rfl,idx_map (by with_reducible assumption),rfl,?_⟩;try conv=>whnf)|(refine⟨_,(by (conv=>whnf);exact hIm),rfl,?_⟩;try conv=>whnf)|(refine⟨_,(by (conv=>whnf);exact hAn),rfl,?_⟩;try conv=>whnf)|(refine⟨_,(by (conv=>whnf);exact hSm),rfl,?_⟩;try conv=>whnf)|fail)
  ·exact absurd (show (bif (bif (bif (bif ((0:Int) != 0) then true else ((0:Int) != 0)) then true else ((0:Int) != 0)) then true else (((c.pre.map fpv).length:Int) != 1)) then true else !true)=true from h) (by rw[hcl'];decide)
  ·exact⟨(),(by refine Wk.of ?_ ?_ rfl rfl rfl<;>repeat' (first|exact trivial|exact WkD.same _|exact WkO.same _ _ rfl|refine⟨?_,?_⟩|fail))⟩
 rintro⟨⟩
 refine⟨Unit,fun _=>[(1,.pv (fpv P)),(3,.ref 0 0),(9,.ref 3 0),(10,.pv (.sl ([0,0].map intI))),(11,.pv (.int .i64 0))],fun _=>4,fun _=>[(0,.var (cellsA a)),(3,.var (cellsA S))],?_,?_⟩
 ·(try conv=>whnf);repeat' (first|(refine PureFn.dcq (f:=36) rfl ?_;try conv=>whnf)|(refine PureFn.dcq (f:=32) rfl ?_;try conv=>whnf)|(refine PureFn.dcq (f:=35) rfl ?_;try conv=>whnf)|(refine PureFn.dcq (f:=17) rfl ?_;try conv=>whnf)|(refine⟨_,_,hTr,?_,?_⟩;(focus first|(refine⟨trivial⟩<;>first|exact PLe.refl _|exact PLe.nil)|exact trivial);try conv=>whnf)|(refine⟨_,_,hAn2,?_,?_⟩;(focus first|(refine⟨?_,?_,trivial⟩<;>first|exact PLe.refl _|exact PLe.nil)|exact trivial);try conv=>whnf)|(refine⟨_,_,hTw,?_,?_⟩;(focus first|(refine⟨?_,?_,trivial⟩<;>first|exact PLe.refl _|exact PLe.nil)|exact trivial);try conv=>whnf)|(refine⟨_,_,hSf,?_,?_⟩;(focus first|(refine⟨?_,trivial⟩<;>first|exact PLe.refl _|exact PLe.nil)|exact trivial);try conv=>whnf)|fail)
  exact⟨(),(by refine Wk.of ?_ ?_ rfl rfl rfl<;>repeat' (first|exact trivial|exact WkD.same _|exact WkO.same _ _ rfl|refine⟨?_,?_⟩|fail))⟩
 rintro⟨⟩
 refine⟨Unit,fun _=>[(1,.pv (fpv P)),(3,.ref 0 0),(9,.ref 3 0),(10,.pv (.sl ([0,0].map intI))),(11,.pv (.int .i64 0)),(12,.pv (.bool true)),(13,.pv (.int .i64 0))],fun _=>4,fun _=>[(0,.var (cellsA a)),(3,.var (cellsA S))],?_,?_⟩
 ·(try conv=>whnf);repeat' (first|(refine lin_plan (by kernel_rfl) ?_;try conv=>whnf)|(refine⟨_,(by (conv=>whnf);exact hN1),rfl,?_⟩;try conv=>whnf)|(refine⟨_,(by (conv=>whnf);exact hN2),rfl,?_⟩;try conv=>whnf)|(refine⟨_,(by (conv=>whnf);exact hTw2),rfl,?_⟩;try conv=>whnf)|(refine⟨_,(by (conv=>whnf);exact hAl1),rfl,?_⟩;try conv=>whnf)|fail)
  exact⟨(),(by refine Wk.of ?_ ?_ rfl rfl rfl<;>repeat' (first|exact trivial|exact WkD.same _|exact WkO.same _ _ rfl|refine⟨?_,?_⟩|fail))⟩
 rintro⟨⟩
 refine⟨Unit,fun _=>[(1,.pv (fpv P)),(3,.ref 0 0),(9,.ref 3 0),(10,.pv (.sl ([0,0].map intI))),(11,.pv (.int .i64 0)),(12,.pv (.bool true)),(13,.pv (.int .i64 0)),(14,.ref 4 0),(15,.pv (.int .i64 0))],fun _=>5,fun _=>[(0,.var (cellsA a)),(3,.var (cellsA S)),(4,.var (cellsA sk))],?_,?_⟩
 ·(try conv=>whnf);repeat' (first|(refine PureFn.dcq (f:=38) rfl ?_;try conv=>whnf)|(refine⟨_,_,hSk,?_,?_⟩;(focus first|(refine⟨?_,trivial⟩<;>first|exact PLe.refl _|exact PLe.nil)|exact trivial);try conv=>whnf)|fail)
  exact⟨(),(by refine Wk.of ?_ ?_ rfl rfl rfl<;>repeat' (first|exact trivial|exact WkD.same _|exact WkO.same _ _ rfl|refine⟨?_,?_⟩|fail))⟩
 rintro⟨⟩
 refine⟨Unit,fun _=>[(3,.ref 0 0),(9,.ref 3 0),(10,.pv (.sl ([0,0].map intI))),(11,.pv (.int .i64 0)),(12,.pv (.bool true)),(13,.pv (.int .i64 0)),(14,.ref 4 0),(15,.pv (.int .i64 0)),(16,.pv (.bool true)),(17,.pv (.int .i64 0))],fun _=>5,fun _=>[(0,.var (cellsA a)),(3,.var (cellsA S)),(4,.var (cellsA sk))],?_,?_⟩
 ·try conv=>whnf
  refine⟨Plan.ofL [0,1,2,3,4,6,7,5,8,9,10,11,12,13,14],[],by kernel_rfl,?_⟩
  (try conv=>whnf);repeat' (first|(apply And.intro<;>try conv=>whnf)|(apply cellsI;rfl)|(refine⟨_,(by (conv=>whnf);exact hN1),rfl,?_⟩;try conv=>whnf)|(refine⟨_,(by (conv=>whnf);exact hN2),rfl,?_⟩;try conv=>whnf)|(apply Or.inl;try conv=>whnf)|fail)
  ·rfl
  ·exact (show (0:Int)≤1 by decide)
  ·exact (show (1:Int)≤4294967296 by decide)
  refine⟨.tup [.bool true,.int .i64 0],?_,rfl,?_⟩
  ·exact And.intro rfl hAl3
  try conv=>whnf
  exact⟨(),(by refine Wk.of ?_ ?_ rfl rfl rfl<;>repeat' (first|exact trivial|exact WkD.same _|exact WkO.same _ _ rfl|refine⟨?_,?_⟩|fail))⟩
 rintro⟨⟩
 refine⟨Unit,fun _=>[(3,.ref 0 0),(9,.ref 3 0),(10,.pv (.sl ([0,0].map intI))),(11,.pv (.int .i64 0)),(12,.pv (.bool true)),(13,.pv (.int .i64 0)),(14,.ref 4 0),(15,.pv (.int .i64 0)),(16,.pv (.bool true)),(17,.pv (.int .i64 0)),(18,.ref 5 0)],fun _=>6,fun _=>[(0,.var (cellsA a)),(3,.var (cellsA S)),(4,.var (cellsA sk)),(5,.var (cellsM ⟨1,[0],[[1]]⟩))],?_,?_⟩
 ·(try conv=>whnf);repeat' (first|(apply And.intro<;>try conv=>whnf)|(apply cellsI;rfl)|fail)
  exact⟨(),(by refine Wk.of ?_ ?_ rfl rfl rfl<;>repeat' (first|exact trivial|exact WkD.same _|exact WkO.same _ _ rfl|refine⟨?_,?_⟩|fail))⟩
 rintro⟨⟩
 refine⟨Unit,fun _=>[(9,.ref 3 0),(10,.pv (.sl ([0,0].map intI))),(11,.pv (.int .i64 0)),(12,.pv (.bool true)),(13,.pv (.int .i64 0)),(15,.pv (.int .i64 0)),(16,.pv (.bool true)),(17,.pv (.int .i64 0)),(19,.pv (.int .i64 0)),(20,.pv (.int .i64 0))],fun _=>6,fun _=>[(3,.var (cellsA S))],?_,?_⟩
 ·(try conv=>whnf);repeat' (first|(refine PureFn.dcq (f:=14) rfl ?_;try conv=>whnf)|(refine⟨_,_,hDf,?_,?_⟩;(focus first|(refine⟨?_,?_,?_,trivial⟩<;>first|exact PLe.refl _|exact PLe.nil)|exact trivial);try conv=>whnf)|fail)
  exact⟨(),(by refine Wk.of ?_ ?_ rfl rfl rfl<;>repeat' (first|exact trivial|exact WkD.same _|exact WkO.same _ _ rfl|refine⟨?_,?_⟩|fail))⟩
 rintro⟨⟩
 (try conv=>whnf);repeat' (first|(apply And.intro<;>try conv=>whnf)|(intro h;try conv=>whnf)|apply True.intro|(apply cellsI;rfl)|(apply WhenQ.mk;(try conv=>whnf);rotate_left;(try conv=>whnf);rotate_right)|with_reducible assumption|(refine PureFn.dcq (f:=39) rfl ?_;try conv=>whnf)|(refine⟨_,_,hRI,?_,?_⟩;(focus first|(refine⟨?_,?_,trivial⟩<;>first|exact PLe.refl _|exact PLe.nil)|exact trivial);try conv=>whnf)|fail)
 refine le_bool ?_
 rw[hSl']
 kernel_rfl
theorem redE_code {α:Type} {d:α} {h:Nd→α→α→α×Int} (hh:∀ x X Y,(h x X Y).2=0∨(h x X Y).2=8):∀ (c:List Nd) (l:List α),(redE d h c l).2=0∨(redE d h c l).2=8
 | [],_=>.inl rfl
 |x::r,l=>by
  rw[redE]
  rcases hh x (l.getD x.x.toNat d) (l.getD x.y.toNat d) with q|q
  ·rw[q];exact redE_code hh r _
  ·rw[q];exact .inr rfl
theorem aftF_code (a:Act) (ev:Nat) (c:List Nd):(aftF a ev c).2=0∨(aftF a ev c).2=8:=by
 have h:=redE_code (d:=[]) (h:=evHd a) (fun x X Y=>by
  rw[evHd]
  cases (evRow a x X Y).any List.isEmpty with
  |true=>exact .inr rfl
  |false=>exact .inl rfl) c []
 unfold aftF
 rcases h with q|q
 ·rw[q];exact .inl rfl
 ·rw[q];exact .inr rfl
theorem aftE_code {a:Act} {e:Nat} {f:List Nd} {c:Int} (ha:chkI a=0) (hf:check f=0) (he:badEv a e=false) (hfit:fits f (min (a.rel.length:Int) 4) 8=true) (h:aftE a e f=.error c):c=10∨c=8:=by
 unfold aftE at h
 have hI:aftI a e f=bif (bif !stB f then true else and64 (frags f:Nat) 8 != 0) then ([],10) else aftF a e (comp f):=by
  rw[aftI,ha,hf,he,hfit]
  simp only[Int.toNat_natCast]
  rfl
 cases q:(bif !stB f then true else and64 (frags f:Nat) 8 != 0) with
 |true =>
  rw[q,cond_true] at hI
  rw[hI] at h
  have h:Except.error 10=Except.error (α:=List Nd) c:=h
  cases h
  exact .inl rfl
 |false =>
  rw[q,cond_false] at hI
  rw[hI] at h
  have hc:=aftF_code a e (comp f)
  generalize aftF a e (comp f)=z at h hc
  obtain⟨g,k⟩:=z
  simp only at h hc
  rcases hc with rfl|rfl
  ·cases h
  ·have h:Except.error 8=Except.error (α:=List Nd) c:=h
   cases h
   exact .inr rfl
theorem pubs_act {f:List Nd} (hf:statI 2 8 f=0):actI (pubA 2 f) (2:Nat) (8:Nat)=0:=pubA_act (by decide) (by decide) hf
theorem pubs_cmp {f g:List Nd} (hf:statI 2 8 f=0) (hg:statI 2 8 g=0) {c:Act} {i:Int} (h:composeI (pubA 2 f) (pubA 2 g)=(c,i)) :
  (i=10∨i=8)∨(i=0∧∃ p,c=⟨[p],[[]],[[1],[1]]⟩∧pubI 2 p=(c,0)∧sameA c c=true∧SmX c):=by
 have hA:=pubs_act hf
 have hB:=pubs_act hg
 have a0:aloneI (pubA 2 f)=0:=hA
 have b0:aloneI (pubA 2 g)=0:=hB
 have hcg:=statI_ok (ag:=(2:Nat)) (n:=(8:Nat)) (stat_comp hg)
 by_cases hi:i=0
 ·right
  subst hi
  have hC:=cmp_of h
  refine⟨rfl,c.pre.getD 0 [],?_⟩
  obtain⟨g',_,k2,k3,k4⟩:=hC.cell 0 0 (Nat.zero_lt_one) (Nat.zero_lt_one)
  have k2:c.pre.getD 0 []=buildL (n0 5) [(pubA 2 f).pre.getD 0 [],g']:=k2
  have k4:asgE (pubA 2 f) 0 []=.ok (c.post.getD 0 []):=k4
  have hpo:c.post.getD 0 []=[]:=by
   have:asgE (pubA 2 f) 0 []=.ok []:=rfl
   rw[this] at k4
   exact (Except.ok.inj k4).symm
  have hl1:c.pre.length=1:=hC.len
  have hl2:c.post.length=1:=hC.plen
  have hrel:c.rel=[[1],[1]]:=by rw[hC.rel];kernel_rfl
  have hc:c=⟨[c.pre.getD 0 []],[[]],[[1],[1]]⟩:=by
   obtain⟨cp,co,cr⟩:=c
   match cp,hl1 with
   | [p],_=>match co,hl2 with
    | [l],_ =>
     have hpo:l=[]:=hpo
     have hrel:cr=[[1],[1]]:=hrel
     rw[hpo,hrel];rfl
  obtain⟨_,_,hcan,_⟩:=two_inv (.inl rfl) k3
  rw[← k2] at hcan
  have hCa:=cmp_act hC (A:=2) (F:=8) (by decide) hA hB
  have hst:statI 2 8 (c.pre.getD 0 [])=0:=pre_stat (A:=2) (F:=8) hCa (by rw[hl1];exact Nat.zero_lt_one)
  have hal:=cmp_alone hC
  refine⟨hc,?_,?_,smx_alone hal⟩
  ·have:pubI 2 (c.pre.getD 0 [])=(⟨[comp (c.pre.getD 0 [])],[[]],[[1],[1]]⟩,0):=by
    rw[pubI,hst];rfl
   rw[this,can_comp hcan,← hc]
  ·rw[sameA,hal,hrel]
   have e1:eqL same c.pre c.pre=true:=by
    rw[show c.pre=[c.pre.getD 0 []] from congrArg Act.pre hc]
    show (bif same (c.pre.getD 0 []) (c.pre.getD 0 []) then true else false)=true
    rw[show same (c.pre.getD 0 []) (c.pre.getD 0 [])=true by unfold same;rw[hcan.check];simp];rfl
   have e2:eqL (eqL asS) c.post c.post=true:=by
    rw[show c.post=[[]] from congrArg Act.post hc];rfl
   rw[e1,e2];rfl
 ·left
  have hco:composeI (pubA 2 f) (pubA 2 g)=match runE (cellE (pubA 2 f) (pubA 2 g)) [(0,0)] with
   |.error c=>(noAct,c)
   |.ok l=>(⟨l.map (·.1),l.map (·.2),relsC (pubA 2 f) (pubA 2 g)⟩,0):=by
   have e1:((pubA 2 f).rel.length:Int)=2:=rfl
   have e2:((pubA 2 g).rel.length:Int)=2:=rfl
   have e3:((pubA 2 f).pre.length:Int)=1:=rfl
   have e4:((pubA 2 g).pre.length:Int)=1:=rfl
   have e5:prs (pubA 2 f).pre.length (pubA 2 g).pre.length=[(0,0)]:=(show prs 1 1=[(0,0)] by decide)
   rw[composeI,a0,b0,e1,e2,e3,e4,e5]
   rfl
  rw[hco] at h
  have h:(match runE (cellE (pubA 2 f) (pubA 2 g)) [(0,0)] with
   |.error c=>(noAct,c)
   |.ok l=>(⟨l.map (·.1),l.map (·.2),relsC (pubA 2 f) (pubA 2 g)⟩,0))=(c,i):=h
  have hce:cellE (pubA 2 f) (pubA 2 g) (0,0)=match aftE (pubA 2 f) 0 (comp g) with
   |.error c=>.error c
   |.ok g'=>bif (buildL (n0 5) [comp f,g']).isEmpty then .error 8 else .ok (buildL (n0 5) [comp f,g'],[]):=rfl
  have hr:∀ (z:Except Int (List Nd×List Asg)),cellE (pubA 2 f) (pubA 2 g) (0,0)=z→runE (cellE (pubA 2 f) (pubA 2 g)) [(0,0)]=match z with
   |.error c=>.error c
   |.ok y=>.ok [y]:=fun z hz=>by
   rw[runE,hz]
   cases z with
   |error e=>rfl
   |ok y=>rfl
  cases hq:aftE (pubA 2 f) 0 (comp g) with
  |error k =>
   rw[hq] at hce
   rw[hr _ hce] at h
   have h:(noAct,k)=(c,i):=h
   have hk:k=i:=congrArg Prod.snd h
   rw[← hk]
   exact aftE_code hA hcg.1 rfl hcg.2.2 hq
  |ok g' =>
   rw[hq] at hce
   cases hb:(buildL (n0 5) [comp f,g']).isEmpty with
   |true =>
    simp only[hb,cond_true] at hce
    rw[hr _ hce] at h
    have h:(noAct,(8:Int))=(c,i):=h
    exact .inr (congrArg Prod.snd h).symm
   |false =>
    simp only[hb,cond_false] at hce
    rw[hr _ hce] at h
    exact absurd (congrArg Prod.snd h).symm hi
theorem cpub_pure (f g:List Nd):PureFn Tryz.prog 6 [fpv f,fpv g] (.bool true):=by
 have hAw:=awk31
 have hPa:=ac_Public 2 f
 have hPb:=ac_Public 2 g
 have hok:=fun (f:List Nd) (h:(pubI 2 f).2=0)=>pub_ok h
 obtain⟨X,hX⟩:∃ X,pubI 2 f=X:=⟨_,rfl⟩
 obtain⟨Y,hY⟩:∃ Y,pubI 2 g=Y:=⟨_,rfl⟩
 have hx:=hok f
 have hy:=hok g
 rw[hX] at hPa hx
 rw[hY] at hPb hy
 clear hok hX hY
 obtain⟨a,e⟩:=X
 obtain⟨b,h'⟩:=Y
 refine PureFn.introC [3,4,5,7,8,10,12,13] mixed (fn:=Tryz.f6) rfl rfl rfl fun M w0 => ?_
 try conv=>whnf
 refine⟨Unit,fun _=>[(0,.pv (fpv f)),(1,.pv (fpv g))],fun _=>0,fun _=>[],?_,?_⟩
 ·(try conv=>whnf);repeat' (first|(apply And.intro<;>try conv=>whnf)|(intro h;try conv=>whnf)|apply True.intro|(apply WhenQ.mk;(try conv=>whnf);rotate_left;(try conv=>whnf);rotate_right)|with_reducible assumption|(apply not_of;with_reducible assumption)|(refine PureFn.dcq (f:=13) rfl ?_;try conv=>whnf)|(refine⟨_,_,hAw,?_,?_⟩;(focus first|(refine⟨trivial⟩<;>first|exact PLe.refl _|exact PLe.nil)|exact trivial);try conv=>whnf)|fail)
  ·exact .refl _
  ·exact⟨(),(by refine Wk.of ?_ ?_ rfl rfl rfl<;>repeat' (first|exact trivial|exact WkD.same _|refine⟨?_,?_⟩|fail))⟩
 rintro⟨⟩
 refine⟨Unit,fun _=>[(1,.pv (fpv g)),(5,.ref 0 0),(6,.pv (.int .i64 e))],fun _=>1,fun _=>[(0,.var (cellsA a))],?_,?_⟩
 ·(try conv=>whnf);repeat' (first|(refine PureFn.dcq (f:=22) rfl ?_;try conv=>whnf)|(refine⟨_,_,hPa,?_,?_⟩;(focus first|(refine⟨?_,?_,trivial⟩<;>first|exact PLe.refl _|exact PLe.nil)|exact trivial);try conv=>whnf)|fail)
  exact⟨(),(by refine Wk.of ?_ ?_ rfl rfl rfl<;>repeat' (first|exact trivial|exact WkD.same _|exact WkO.same _ _ rfl|refine⟨?_,?_⟩|fail))⟩
 rintro⟨⟩
 refine⟨Unit,fun _=>[(5,.ref 0 0),(6,.pv (.int .i64 e)),(7,.ref 1 0),(8,.pv (.int .i64 h'))],fun _=>2,fun _=>[(0,.var (cellsA a)),(1,.var (cellsA b))],?_,?_⟩
 ·(try conv=>whnf);repeat' (first|(refine PureFn.dcq (f:=22) rfl ?_;try conv=>whnf)|(refine⟨_,_,hPb,?_,?_⟩;(focus first|(refine⟨?_,?_,trivial⟩<;>first|exact PLe.refl _|exact PLe.nil)|exact trivial);try conv=>whnf)|fail)
  exact⟨(),(by refine Wk.of ?_ ?_ rfl rfl rfl<;>repeat' (first|exact trivial|exact WkD.same _|exact WkO.same _ _ rfl|refine⟨?_,?_⟩|fail))⟩
 rintro⟨⟩
 refine⟨{ _x:Unit // e=0∧h'=0 },fun _=>[(5,.ref 0 0),(7,.ref 1 0)],fun _=>2,fun _=>[(0,.var (cellsA a)),(1,.var (cellsA b))],?_,?_⟩
 ·(try conv=>whnf);repeat' (first|(apply And.intro<;>try conv=>whnf)|(intro h;try conv=>whnf)|apply True.intro|(apply WhenQ.mk;(try conv=>whnf);rotate_left;(try conv=>whnf);rotate_right)|with_reducible assumption|(apply not_of;with_reducible assumption)|(refine PureFn.dcq (f:=13) rfl ?_;try conv=>whnf)|(refine⟨_,_,hAw,?_,?_⟩;(focus first|(refine⟨trivial⟩<;>first|exact PLe.refl _|exact PLe.nil)|exact trivial);try conv=>whnf)|fail)
  ·exact .refl _
  ·refine⟨⟨(),?_⟩,(by refine Wk.of ?_ ?_ rfl rfl rfl<;>repeat' (first|exact trivial|exact WkD.same _|exact WkO.same _ _ rfl|refine⟨?_,?_⟩|fail))⟩
   obtain⟨h1,h2⟩:=or_ff' (show (bif (e != 0) then true else (h' != 0))=false from h)
   exact⟨by simpa using h1,by simpa using h2⟩
 rintro⟨_,he,hh⟩
 subst he
 subst hh
 obtain⟨n1,hn1,_,hs1,hp1⟩:=hx rfl
 obtain⟨n2,hn2,_,hs2,hp2⟩:=hy rfl
 obtain rfl:n1=2:=by omega
 obtain rfl:n2=2:=by omega
 clear hx hy hPa hPb
 have ha:a=pubA 2 f:=congrArg Prod.fst hp1
 have hb:b=pubA 2 g:=congrArg Prod.fst hp2
 have hSa:SmX a:=by rw[ha];exact smX_of (pubA_smA (by decide))
 have hSb:SmX b:=by rw[hb];exact smX_of (pubA_smA (by decide))
 have hCo:=compose_dc a b hSa hSb
 have hcp:=fun c i (h:composeI a b=(c,i))=>pubs_cmp hs1 hs2 (c:=c) (i:=i) (by rw[← ha,← hb];exact h)
 clear hp1 hp2 ha hb hSa hSb
 generalize composeI a b=X at hCo hcp
 obtain⟨c,i⟩:=X
 have hcp:=hcp c i rfl
 refine⟨Unit,fun _=>[(9,.ref 2 0),(10,.pv (.int .i64 i))],fun _=>3,fun _=>[(2,.var (cellsA c))],?_,?_⟩
 ·(try conv=>whnf);repeat' (first|(refine PureFn.dcq (f:=23) rfl ?_;try conv=>whnf)|(refine⟨_,_,hCo,?_,?_⟩;(focus first|(refine⟨?_,?_,trivial⟩<;>first|exact PLe.refl _|exact PLe.nil)|exact trivial);try conv=>whnf)|fail)
  exact⟨(),(by refine Wk.of ?_ ?_ rfl rfl rfl<;>repeat' (first|exact trivial|exact WkD.same _|exact WkO.same _ _ rfl|refine⟨?_,?_⟩|fail))⟩
 rintro⟨⟩
 refine⟨{ _x:Unit // i=0 },fun _=>[(9,.ref 2 0)],fun _=>3,fun _=>[(2,.var (cellsA c))],?_,?_⟩
 ·(try conv=>whnf);repeat' (first|(apply And.intro<;>try conv=>whnf)|(intro h;try conv=>whnf)|apply True.intro|(apply WhenQ.mk;(try conv=>whnf);rotate_left;(try conv=>whnf);rotate_right)|with_reducible assumption|(apply not_of;with_reducible assumption)|(refine PureFn.dcq (f:=13) rfl ?_;try conv=>whnf)|(refine⟨_,_,hAw,?_,?_⟩;(focus first|(refine⟨trivial⟩<;>first|exact PLe.refl _|exact PLe.nil)|exact trivial);try conv=>whnf)|fail)
  ·have h0:¬ i=0:=by simpa using (show (i != 0)=true from h)
   rcases hcp with (rfl|rfl)|⟨q,_⟩
   ·exact .refl _
   ·exact .refl _
   ·exact absurd q h0
  ·exact⟨⟨(),by simpa using (show (i != 0)=false from h)⟩,(by refine Wk.of ?_ ?_ rfl rfl rfl<;>repeat' (first|exact trivial|exact WkD.same _|exact WkO.same _ _ rfl|refine⟨?_,?_⟩|fail))⟩
 rintro⟨_,hi⟩
 subst hi
 rcases hcp with (q|q)|⟨_,p,hc,hPp,hsm,hSc⟩
 ·exact absurd q (by decide)
 ·exact absurd q (by decide)
 have hP:=ac_Public 2 p
 rw[hPp] at hP
 have hSm:=ac_Same c c hSc.fit hSc.rel hSc.post hSc.fit hSc.rel hSc.post (fun r hr=>by
  rw[hc] at hr
  have:r=[1]:=by simpa using hr
  rw[this];decide) (by rw[hc];exact (show 1≤1000 by decide)) (by rw[hc];exact (show 1≤1000 by decide))
 rw[hsm] at hSm
 have hcc:cellsA c=[.pv (.sl [fpv p]),.pv (.sl [postPV []]),.pv (.sl [rowPV [1],rowPV [1]])]:=by rw[hc];rfl
 rw[hcc]
 have hcpv:c.pv=.agg [.sl [fpv p],.sl [postPV []],.sl [rowPV [1],rowPV [1]]]:=by rw[hc];rfl
 have hPq:pairA (c,0)=.tup [.agg [.sl [fpv p],.sl [postPV []],.sl [rowPV [1],rowPV [1]]],.int .i64 0]:=by rw[← hcpv];rfl
 rw[hPq] at hP
 rw[hcpv] at hSm
 clear hc hsm hSc hcc hcpv hPq hPp
 refine⟨Unit,fun _=>[(9,.ref 2 0)],fun _=>3,fun _=>[(2,.var [.pv (.sl [fpv p]),.pv (.sl [postPV []]),.pv (.sl [rowPV [1],rowPV [1]])])],?_,?_⟩
 ·(try conv=>whnf);repeat' (first|(apply And.intro<;>try conv=>whnf)|(intro h;try conv=>whnf)|apply True.intro|(apply infoT;rfl)|(apply WhenQ.mk;(try conv=>whnf);rotate_left;(try conv=>whnf);rotate_right)|with_reducible assumption|(apply not_of;with_reducible assumption)|(refine⟨0,_,rfl,rfl,rfl,?_⟩;try conv=>whnf)|fail)
  ·cases h
  ·exact⟨(),(by refine Wk.of ?_ ?_ rfl rfl rfl<;>repeat' (first|exact trivial|exact WkD.same _|exact WkO.same _ _ rfl|refine⟨?_,?_⟩|fail))⟩
 rintro⟨⟩
 refine⟨Unit,fun _=>[(9,.ref 2 0),(11,.ref 3 0),(12,.pv (.int .i64 0))],fun _=>4,fun _=>[(2,.var [.pv (.sl [fpv p]),.pv (.sl [postPV []]),.pv (.sl [rowPV [1],rowPV [1]])]),(3,.var [.pv (.sl [fpv p]),.pv (.sl [postPV []]),.pv (.sl [rowPV [1],rowPV [1]])])],?_,?_⟩
 ·(try conv=>whnf);repeat' (first|(apply And.intro<;>try conv=>whnf)|(apply infoT;rfl)|(refine PureFn.dcq (f:=22) rfl ?_;try conv=>whnf)|(refine⟨_,_,hP,?_,?_⟩;(focus first|(refine⟨?_,?_,trivial⟩<;>first|exact PLe.refl _|exact PLe.nil)|exact trivial);try conv=>whnf)|(refine⟨0,_,rfl,rfl,rfl,?_⟩;try conv=>whnf)|fail)
  exact⟨(),(by refine Wk.of ?_ ?_ rfl rfl rfl<;>repeat' (first|exact trivial|exact WkD.same _|exact WkO.same _ _ rfl|refine⟨?_,?_⟩|fail))⟩
 rintro⟨⟩
 (try conv=>whnf);repeat' (first|(apply And.intro<;>try conv=>whnf)|(intro h;try conv=>whnf)|apply True.intro|(apply WhenQ.mk;(try conv=>whnf);rotate_left;(try conv=>whnf);rotate_right)|with_reducible assumption|(refine PureFn.dcq (f:=24) rfl ?_;try conv=>whnf)|(refine PureFn.dcq (f:=13) rfl ?_;try conv=>whnf)|(refine⟨_,_,hSm,?_,?_⟩;(focus first|(refine⟨?_,?_,trivial⟩<;>first|exact PLe.refl _|exact PLe.nil)|exact trivial);try conv=>whnf)|(refine⟨_,_,hAw,?_,?_⟩;(focus first|(refine⟨trivial⟩<;>first|exact PLe.refl _|exact PLe.nil)|exact trivial);try conv=>whnf)|fail)
 exact .refl _
theorem cpub_args (ps:List PV) (hps:TyAll Tryz.prog 8 Tryz.f6.params.toList ps):PureFn Tryz.prog 6 ps (.bool true):=by
 obtain⟨p1,r1,rfl,h1,p2,r2,rfl,h2,rfl⟩:=hps
 obtain⟨f,hf⟩:=arg_nodes (n:=5) h1
 obtain⟨g,hg⟩:=arg_nodes (n:=5) h2
 exact (cpub_pure f g).le ⟨hf,hg,trivial⟩
end Go.Proofs.YtejbieopeicgkaaGreatDoor
