/- Parts of the proof, one after the other: Alike events: matched of the program walked. Alike events: the table, and what sweeping it comes to (plain). Bisimulations between two models: the sweeps of the program (plain). Bisimulations between two models: members and matched of the program walked. Bisimulations between two models: both, Between and Bisimilar of the program walked. References of models and of the checker: boxes, paths, groups walked. Bisimulations between two models, in the reference's way: Facts, forth, pair, fits walked. Bisimulations between two models, in the reference's way: Between and Bisimilar walked. -/
import Derived.Test.YtejbieopeicgkaaGreatDoorM10
set_option maxRecDepth 100000
set_option maxHeartbeats 4000000
namespace Go.Proofs.YtejbieopeicgkaaGreatDoor
open Go Go.Dv
theorem DC.callA {P:Program} {M:Nat->Prop} {w0:W0} {f:FuncId} {args:List DV} {L:DH} {K:DV->DH->Prop} {q:DV} (n:Nat) (Hl:List (Nat×DObj)) (hag:agr (objsOf Hl) L.get n) (hu:wkU n [] Hl=true) (hnx:Nat.ble n L.next=true) (hlo:Nat.ble L.lo n=true) (hargs:DV.unders n args=true)
  (h:∀ M (K':DV->DH->Prop),K' q ⟨n,L.lo,n,objsOf Hl⟩->DC P M w0.no f args ⟨n,L.lo,n,objsOf Hl⟩ K') (hK:K q L):DC P M w0 f args L K:=by
 simp only[wkU,List.all_nil,Bool.true_and,List.all_eq_true,Bool.and_eq_true] at hu;exact DC.callS n Hl (fun k hk=>agr_lt hag k hk) (fun q hq=>⟨by have:=(hu q hq).1;rwa [Nat.blt_eq] at this,(hu q hq).2⟩) hnx hlo hargs h hK
def relA (a:Act) (i e:Nat):Nat:=(a.rel.getD i []).getD e 0
def misF (a b:Act) (z:List (List Bool)) (e f i g:Nat):Bool:=bif (relA a i e).testBit g then !someN (relA b i f) (fun h=>zAt z g h) 8 else false
def misB (a b:Act) (z:List (List Bool)) (e f i h:Nat):Bool:=bif (relA b i f).testBit h then !someN (relA a i e) (fun g=>zAt z g h) 8 else false
def misR (a b:Act) (z:List (List Bool)) (e f i:Nat):Bool:=bif anyN (misF a b z e f i) a.pre.length then true else anyN (misB a b z e f i) b.pre.length
def mtI (a b:Act) (z:List (List Bool)) (e f:Nat):Bool:=!anyN (misR a b z e f) a.rel.length
theorem Shp.at {a:Act} {n i e:Nat} (hA:Shp a n) (hi:i<a.rel.length) (he:e<n):(a.rel.map q0b)[i]? = some (q0b (a.rel.getD i []))/\((a.rel.getD i []).map u64)[e]? = some (u64 (relA a i e))/\relA a i e<2^n:=by
 have h1:a.rel[i]? = some (a.rel.getD i []):=q0f hi;have hm:=List.mem_iff_getElem?.2 ⟨_,h1⟩;have h2:(a.rel.getD i [])[e]? = some (relA a i e):=q0f (by rw[hA.rows _ hm];exact he);exact⟨q0a h1,q0a h2,hA.bits _ hm _ (List.mem_iff_getElem?.2 ⟨_,h2⟩)⟩
theorem bitLtN {s n k:Nat} (hs:s<2^n) (h:s.testBit k=true):k<n:=by
 by_cases q:k<n
 ·exact q
 ·have:=Nat.testBit_lt_two_pow (Nat.lt_of_lt_of_le hs (Nat.pow_le_pow_right (by decide) (by omega:n<=k)));rw[this] at h;cases h
theorem cp_matched (a b:Act) (n m:Nat) (hA:Shp a n) (hB:Shp b m) (hr:a.rel.length=b.rel.length) (z:List (List Bool)) (hz:Tab z n m) (e f:Nat) (he:e<n) (hf:f<m):PureFn Tryz.prog 108 [a.pv,b.pv,tabPV z,i64 e,i64 f] (.bool (mtI a b z e f)):=by
 have n8:=hA.n8;have m8:=hB.n8;have hpa:=hA.pre;have hpb:=hB.pre;refine PureFn.intro mixed (fn:=Tryz.f108) rfl rfl rfl fun M w0 => ?_
 try conv=>whnf
 refine⟨{ i:Nat // i<=a.rel.length/\anyN (misR a b z e f) i=false },fun i=>[(3,.pv (i64 e)),(4,.pv (i64 f)),(5,.ref 0 0),(6,.ref 1 0),(7,.ref 2 0),(16,.pv (i64 (a.rel.map q0b).length)),(17,.pv (i64 i.1))],fun _=>3,fun _=>[(0,.var (q0c a)),(1,.var (q0c b)),(2,.var [.pv (tabPV z)])],fun i=>a.rel.length-i.1,⟨⟨0,Nat.zero_le _,rfl⟩,(by exact Wk.s rfl)⟩,?_⟩;rintro⟨i,hi,hni⟩
 (try conv=>whnf);repeat' (first|((first|apply And.intro|intro h)<;>try conv=>whnf))
 ·have hi':i<a.rel.length:=by simpa using q0j h
  obtain⟨a1,a2,a3⟩:=hA.at hi' he;obtain⟨b1,b2,b3⟩:=hB.at (by omega:i<b.rel.length) hf;have hsa:relA a i e<2^8:=Nat.lt_of_lt_of_le a3 (Nat.pow_le_pow_right (by decide) n8);have hsb:relA b i f<2^8:=Nat.lt_of_lt_of_le b3 (Nat.pow_le_pow_right (by decide) m8);refine⟨{ g:Nat // g<=a.pre.length/\anyN (misF a b z e f i) g=false },fun g=>[(3,.pv (i64 e)),(4,.pv (i64 f)),(5,.ref 0 0),(6,.ref 1 0),(7,.ref 2 0),(16,.pv (i64 (a.rel.map q0b).length)),(17,.pv (i64 i)),(11,.pv (i64 i)),(22,.pv (i64 (a.pre.map fpv).length)),(23,.pv (i64 g.1))],fun _=>3,fun _=>[(0,.var (q0c a)),(1,.var (q0c b)),(2,.var [.pv (tabPV z)])],fun g=>a.pre.length-g.1,⟨⟨0,Nat.zero_le _,rfl⟩,(by exact Wk.s rfl)⟩,?_⟩;rintro⟨g,hg,hng⟩
  (try conv=>whnf);repeat' (first|((first|apply And.intro|intro h)<;>try conv=>whnf))
  ·have hg':g<a.pre.length:=by simpa using q0j h
   refine⟨Plan.lin 0 25,[22],by kernel_rfl,?_⟩;have hbit:(andU (shrU (relA a i e) g) 1==1)=(relA a i e).testBit g:=bit_one (Nat.lt_of_lt_of_le hsa (by decide)) (by omega);have hso:=fun (M:Nat->Prop) (w0:W0) (base:Nat) (K:DV->DH->Prop)=>cp_some (M:=M) (w0:=w0) a b z g (relA b i f) hsb (fun h=>zAt z g h) 144 (fun h _ hb M w0 base K hK=>clo_m1 a b z hz g h (by omega) (bitLtN b3 hb) base K hK) base K
   generalize hra:a.rel.getD i []=ra at a1 a2;generalize hrb:b.rel.getD i []=rb at b1 b2
   (try conv=>whnf);repeat' (first|((first|apply And.intro|intro h)<;>try conv=>whnf)|apply True.intro|(apply q0i;rfl)|(apply WhenQ.mk;(try conv=>whnf);rotate_left;(try conv=>whnf);rotate_right)|with_reducible assumption|(refine⟨i,_,rfl,a1,rfl,?_⟩;try conv=>whnf)|(refine⟨i,_,rfl,b1,rfl,?_⟩;try conv=>whnf)|(refine⟨e,_,rfl,a2,rfl,?_⟩;try conv=>whnf)|(refine⟨f,_,rfl,b2,rfl,?_⟩;try conv=>whnf)|(refine DC.callA (q:=.pv (.bool (someN (relA b i f) (fun h=>zAt z g h) 8))) 4 (HAl a b z g) ⟨rfl,rfl,rfl,rfl,trivial⟩ rfl rfl rfl rfl (fun M' K' hK'=>hso M' _ _ K' hK') ?_;try conv=>whnf)|fail)
   ·exact Int.natCast_nonneg _
   ·have h2:(bif (andU (shrU (relA a i e) g) 1==1) then !someN (relA b i f) (fun h=>zAt z g h) 8 else false)=true:=h;rw[hbit] at h2;have h3:misF a b z e f i g=true:=h2;have h4:misR a b z e f i=true:=by rw[misR,anyN_of h3 hg'];rfl
    exact z0n (by rw[mtI,anyN_of h4 hi'];rfl)
   ·have h2:(bif (andU (shrU (relA a i e) g) 1==1) then !someN (relA b i f) (fun h=>zAt z g h) 8 else false)=false:=h;rw[hbit] at h2;exact⟨⟨g+1,hg',anyN_no hng h2⟩,by show a.pre.length-(g+1)<a.pre.length-g;omega,(by refine Wk.of ?_ ?_ rfl rfl rfl<;>repeat' (first|exact trivial|exact WkD.same _|exact WkO.same _ _ rfl|refine WkD.int ?_|refine⟨?_,?_⟩|(apply q0h;(focus simp;done);all_goals (try dsimp only);omega)|fail))⟩
  ·have hg':g=a.pre.length:=by have:=q0k (m:=(a.pre.map fpv).length) h (by simpa using hg);simpa using this
   subst hg';refine⟨{ k:Nat // k<=b.pre.length/\anyN (misB a b z e f i) k=false },fun k=>[(3,.pv (i64 e)),(4,.pv (i64 f)),(5,.ref 0 0),(6,.ref 1 0),(7,.ref 2 0),(16,.pv (i64 (a.rel.map q0b).length)),(17,.pv (i64 i)),(11,.pv (i64 i)),(54,.pv (i64 (b.pre.map fpv).length)),(55,.pv (i64 k.1))],fun _=>3,fun _=>[(0,.var (q0c a)),(1,.var (q0c b)),(2,.var [.pv (tabPV z)])],fun k=>b.pre.length-k.1,⟨⟨0,Nat.zero_le _,rfl⟩,(by exact Wk.s rfl)⟩,?_⟩;rintro⟨k,hk,hnk⟩
   (try conv=>whnf);repeat' (first|((first|apply And.intro|intro h)<;>try conv=>whnf))
   ·have hk':k<b.pre.length:=by simpa using q0j h
    refine⟨Plan.lin 0 25,[22],by kernel_rfl,?_⟩;have hbit:(andU (shrU (relA b i f) k) 1==1)=(relA b i f).testBit k:=bit_one (Nat.lt_of_lt_of_le hsb (by decide)) (by omega);have hso:=fun (M:Nat->Prop) (w0:W0) (base:Nat) (K:DV->DH->Prop)=>cp_some (M:=M) (w0:=w0) a b z k (relA a i e) hsa (fun g=>zAt z g k) 145 (fun g _ hb M w0 base K hK=>clo_m2 a b z hz g k (bitLtN a3 hb) (by omega) base K hK) base K
    generalize hra:a.rel.getD i []=ra at a1 a2;generalize hrb:b.rel.getD i []=rb at b1 b2
    (try conv=>whnf);repeat' (first|((first|apply And.intro|intro h)<;>try conv=>whnf)|apply True.intro|(apply q0i;rfl)|(apply WhenQ.mk;(try conv=>whnf);rotate_left;(try conv=>whnf);rotate_right)|with_reducible assumption|(refine⟨i,_,rfl,a1,rfl,?_⟩;try conv=>whnf)|(refine⟨i,_,rfl,b1,rfl,?_⟩;try conv=>whnf)|(refine⟨e,_,rfl,a2,rfl,?_⟩;try conv=>whnf)|(refine⟨f,_,rfl,b2,rfl,?_⟩;try conv=>whnf)|(refine DC.callA (q:=.pv (.bool (someN (relA a i e) (fun g=>zAt z g k) 8))) 4 (HAl a b z k) ⟨rfl,rfl,rfl,rfl,trivial⟩ rfl rfl rfl rfl (fun M' K' hK'=>hso M' _ _ K' hK') ?_;try conv=>whnf)|fail)
    ·exact Int.natCast_nonneg _
    ·have h2:(bif (andU (shrU (relA b i f) k) 1==1) then !someN (relA a i e) (fun g=>zAt z g k) 8 else false)=true:=h;rw[hbit] at h2;have h3:misB a b z e f i k=true:=h2;have h4:misR a b z e f i=true:=by rw[misR,anyN_of h3 hk'];cases anyN (misF a b z e f i) a.pre.length<;>rfl
     exact z0n (by rw[mtI,anyN_of h4 hi'];rfl)
    ·have h2:(bif (andU (shrU (relA b i f) k) 1==1) then !someN (relA a i e) (fun g=>zAt z g k) 8 else false)=false:=h;rw[hbit] at h2;exact⟨⟨k+1,hk',anyN_no hnk h2⟩,by show b.pre.length-(k+1)<b.pre.length-k;omega,(by refine Wk.of ?_ ?_ rfl rfl rfl<;>repeat' (first|exact trivial|exact WkD.same _|exact WkO.same _ _ rfl|refine WkD.int ?_|refine⟨?_,?_⟩|(apply q0h;(focus simp;done);all_goals (try dsimp only);omega)|fail))⟩
   ·have hk':k=b.pre.length:=by have:=q0k (m:=(b.pre.map fpv).length) h (by simpa using hk);simpa using this
    subst hk';have hag:=hA.ag;exact⟨⟨i+1,hi',anyN_no hni (by rw[misR,hng,hnk];rfl)⟩,by show a.rel.length-(i+1)<a.rel.length-i;omega,(by refine Wk.of ?_ ?_ rfl rfl rfl<;>repeat' (first|exact trivial|exact WkD.same _|exact WkO.same _ _ rfl|refine WkD.int ?_|refine⟨?_,?_⟩|(apply q0h;(focus simp;done);all_goals (try dsimp only);omega)|fail))⟩
 ·have hi':i=a.rel.length:=by have:=q0k (m:=(a.rel.map q0b).length) h (by simpa using hi);simpa using this
  subst hi';refine z0n ?_;rw[mtI,hni];rfl
set_option maxHeartbeats 400000
def z0B (a b:Act) (e f:Nat):Bool:=bif eqL asS (a.post.getD e []) (b.post.getD f []) then same (a.pre.getD e []) (b.pre.getD f []) else false
def row0 (a b:Act) (e:Nat):List Bool:=(List.range b.pre.length).map (z0B a b e)
def tab0 (a b:Act):List (List Bool):=(List.range a.pre.length).map (row0 a b)
def clrT (z:List (List Bool)) (e f:Nat):List (List Bool):=z.set e ((z.getD e []).set f false)
def stepZ (a b:Act) (e f:Nat) (s:List (List Bool)×Bool):List (List Bool)×Bool:=bif (bif zAt s.1 e f then !mtI a b s.1 e f else false) then (clrT s.1 e f,true) else s
def rowZ (a b:Act) (e:Nat):Nat->List (List Bool)×Bool->List (List Bool)×Bool
 |0,s=>s
 |k+1,s=>stepZ a b e k (rowZ a b e k s)
def z0w (a b:Act) (m:Nat):Nat->List (List Bool)×Bool->List (List Bool)×Bool
 |0,s=>s
 |k+1,s=>rowZ a b k m (z0w a b m k s)
def iterZ (a b:Act) (n m:Nat):Nat->List (List Bool)->List (List Bool)
 |0,z=>z
 |k+1,z=>bif (z0w a b m n (z,false)).2 then iterZ a b n m k (z0w a b m n (z,false)).1 else z
def cntR (p:Nat->Bool):Nat->Nat
 |0=>0
 |n+1=>cntR p n+(bif p n then 1 else 0)
theorem cntR_le {p q:Nat->Bool}:∀ {n:Nat},(∀ k,k<n->q k=true->p k=true)->cntR q n<=cntR p n
 |0,_=>Nat.le_refl _
 |n+1,h=>by
  have ih:=cntR_le (n:=n) fun k hk=>h k (by omega)
  have hn:=h n (by omega);rw[cntR,cntR]
  cases hq:q n with
  |true=>rw[hn hq];simp only[cond_true];omega
  |false=>cases p n<;>simp only[cond_true,cond_false]<;>omega
theorem cntR_lt {p q:Nat->Bool} {k:Nat} (hp:p k=true) (hq:q k=false):∀ {n:Nat},k<n->(∀ k,k<n->q k=true->p k=true)->cntR q n<cntR p n
 |n+1,hk,h=>by
  rw[cntR,cntR]
  by_cases e:k=n
  ·subst e;have ih:=cntR_le (n:=k) fun j hj=>h j (by omega)
   rw[hp,hq];simp only[cond_true,cond_false];omega
  ·have ih:=cntR_lt hp hq (n:=n) (by omega) fun j hj=>h j (by omega)
   have hn:=h n (by omega)
   cases hqn:q n with
   |true=>rw[hn hqn];simp only[cond_true];omega
   |false=>cases p n<;>simp only[cond_true,cond_false]<;>omega
def cntZ (z:List (List Bool)) (n m:Nat):Nat:=cntR (fun k=>zAt z (k / m) (k % m)) (n*m)
theorem zAt_clr (z:List (List Bool)) (e f e' f':Nat):zAt (clrT z e f) e' f'=true->zAt z e' f'=true/\¬ (e'=e/\f'=f):=by
 unfold zAt clrT;intro h;simp only[List.getD_eq_getElem?_getD,List.getElem?_set] at h |-
 by_cases q:e=e'
 ·subst q
  by_cases q2:e<z.length
  ·rw[if_pos rfl,if_pos q2] at h;simp only[Option.getD_some,List.getElem?_set] at h
   by_cases q3:f=f'
   ·subst q3;rw[if_pos rfl] at h
    split at h<;>cases h
   ·rw[if_neg q3] at h;exact⟨h,fun g=>q3 g.2.symm⟩
  ·rw[if_pos rfl,if_neg q2] at h
   cases h
 ·rw[if_neg q] at h;exact⟨h,fun g=>q g.1.symm⟩
theorem Tab.clr {z:List (List Bool)} {n m:Nat} (hz:Tab z n m) {e:Nat} (f:Nat) (he:e<n):Tab (clrT z e f) n m:=by
 refine⟨by rw[clrT,List.length_set,hz.len],fun r hr => ?_⟩
 rcases List.mem_or_eq_of_mem_set hr with hr|hr
 ·exact hz.row r hr
 ·have he:e<z.length:=by rw[hz.len];exact he
  rw[hr,List.length_set];exact hz.row _ (by rw[List.getD_eq_getElem?_getD,List.getElem?_eq_getElem he];exact List.getElem_mem he)
structure OkS (n m:Nat) (z:List (List Bool)) (s:List (List Bool)×Bool):Prop where
 tab:Tab s.1 n m
 sub:∀ e f,zAt s.1 e f=true->zAt z e f=true
 yes:s.2=true->cntZ s.1 n m<cntZ z n m
 no:s.2=false->s.1=z
theorem OkS.step {a b:Act} {n m:Nat} {z:List (List Bool)} {s:List (List Bool)×Bool} (h:OkS n m z s) {e f:Nat} (he:e<n) (hf:f<m):OkS n m z (stepZ a b e f s):=by
 unfold stepZ
 cases hz:zAt s.1 e f with
 |false=>exact h
 |true =>
  cases hm:mtI a b s.1 e f with
  |true=>exact h
  |false =>
   show OkS n m z (clrT s.1 e f,true)
   refine⟨h.tab.clr f he,fun e' f' h'=>h.sub e' f' (zAt_clr _ _ _ _ _ h').1,fun _ => ?_,fun h'=>by cases h'⟩
   have hk:e*m+f<n*m:=by
    have:=Nat.mul_le_mul_right m (show e+1<=n from he);rw[Nat.add_mul,Nat.one_mul] at this;omega
   have hd:(e*m+f) / m=e:=by rw[Nat.add_comm,Nat.add_mul_div_right _ _ (by omega),Nat.div_eq_of_lt hf,Nat.zero_add]
   have hr:(e*m+f) % m=f:=by rw[Nat.add_comm,Nat.add_mul_mod_self_right,Nat.mod_eq_of_lt hf]
   refine Nat.lt_of_lt_of_le (cntR_lt (k:=e*m+f) (p:=fun k=>zAt s.1 (k / m) (k % m)) (by simp only[hd,hr];exact hz) ?_ hk fun k _ hq=>(zAt_clr _ _ _ _ _ hq).1) (cntR_le fun k _ hq=>h.sub _ _ hq);simp only[hd,hr]
   cases hq:zAt (clrT s.1 e f) e f with
   |false=>rfl
   |true=>exact absurd ⟨rfl,rfl⟩ (zAt_clr _ _ _ _ _ hq).2
theorem OkS.row {a b:Act} {n m:Nat} {z:List (List Bool)} {e:Nat} (he:e<n):∀ {k:Nat} {s:List (List Bool)×Bool},OkS n m z s->k<=m->OkS n m z (rowZ a b e k s)
 |0,_,h,_=>h
 |k+1,_,h,hk=>(h.row he (k:=k) (by omega)).step he (by omega)
theorem OkS.pass {a b:Act} {n m:Nat} {z:List (List Bool)}:∀ {k:Nat} {s:List (List Bool)×Bool},OkS n m z s->k<=n->OkS n m z (z0w a b m k s)
 |0,_,h,_=>h
 |k+1,_,h,hk=>(h.pass (k:=k) (by omega)).row (by omega) (Nat.le_refl m)
theorem OkS.start {n m:Nat} {z:List (List Bool)} (hz:Tab z n m):OkS n m z (z,false):=⟨hz,fun _ _ h=>h,fun h=>(by cases h),fun _=>rfl⟩
def alkI (a b:Act) (z:List (List Bool)):List (List Bool):=iterZ a b a.pre.length b.pre.length (cntZ z a.pre.length b.pre.length+1) z
theorem iter_more {a b:Act} {n m:Nat}:∀ (k:Nat) (z:List (List Bool)),Tab z n m->cntZ z n m<k->iterZ a b n m k z=iterZ a b n m (cntZ z n m+1) z
 |k+1,z,hz,hk=>by
  have hO:=(OkS.start hz).pass (a:=a) (b:=b) (k:=n) (Nat.le_refl n);rw[iterZ,iterZ]
  cases h:(z0w a b m n (z,false)).2 with
  |false=>rfl
  |true =>
   have hc:=hO.yes h;rw[cond_true,cond_true,iter_more k _ hO.tab (by omega)]
   by_cases e:cntZ (z0w a b m n (z,false)).1 n m+1=cntZ z n m
   ·rw[e]
   ·exact (iter_more (cntZ z n m) _ hO.tab hc).symm
theorem alk_step {a b:Act} {z:List (List Bool)} (hz:Tab z a.pre.length b.pre.length):alkI a b z=bif (z0w a b b.pre.length a.pre.length (z,false)).2 then alkI a b (z0w a b b.pre.length a.pre.length (z,false)).1 else z:=by
 have hO:=(OkS.start hz).pass (a:=a) (b:=b) (k:=a.pre.length) (Nat.le_refl _);rw[alkI,iterZ]
 cases h:(z0w a b b.pre.length a.pre.length (z,false)).2 with
 |false=>rfl
 |true=>exact iter_more _ _ hO.tab (hO.yes h)
theorem tab0_tab (a b:Act):Tab (tab0 a b) a.pre.length b.pre.length:=⟨by simp[tab0],fun r hr=>by
 obtain⟨e,_,rfl⟩:=List.mem_map.1 hr
 simp[row0]⟩
theorem iter_tab {a b:Act} {n m:Nat}:∀ (k:Nat) (z:List (List Bool)),Tab z n m->Tab (iterZ a b n m k z) n m
 |0,_,hz=>hz
 |k+1,z,hz=>by
  have hO:=(OkS.start hz).pass (a:=a) (b:=b) (k:=n) (Nat.le_refl n);rw[iterZ]
  cases (z0w a b m n (z,false)).2 with
  |false=>exact hz
  |true=>exact iter_tab k _ hO.tab
theorem alk_tab (a b:Act):Tab (alkI a b (tab0 a b)) a.pre.length b.pre.length:=iter_tab _ _ (tab0_tab a b)
def biR (m:Mo) (i v:Nat):Nat:=(m.rel.getD i []).getD v 0
def biOr (z:List Nat) (l:List Nat):Nat:=l.foldl (fun s x=>s |||z.getD x 0) 0
def biMeet (z:List Nat) (s:Nat) (l:List Nat):Bool:=l.all fun x=>z.getD x 0&&&s != 0
def biForth (a b:Mo) (z:List Nat) (v w i:Nat):Bool:=bif biMeet z (biR b i w) (memL (biR a i v)) then biR b i w&&&biOr z (memL (biR a i v))==biR b i w else false
def biMt (a b:Mo) (z:List Nat) (v w:Nat):Bool:=bif facN a v a.val.length==facN b w b.val.length then (List.range a.rel.length).all (biForth a b z v w) else false
def biClr (z:List Nat) (v w:Nat):List Nat:=z.set v (z.getD v 0 ^^^ (z.getD v 0&&&2^w))
abbrev BiS:=List Nat×Bool
def biStep (a b:Mo) (v w:Nat) (s:BiS):BiS:=bif (bif (s.1.getD v 0).testBit w then !biMt a b s.1 v w else false) then (biClr s.1 v w,true) else s
def biRow (a b:Mo) (v:Nat):Nat->BiS->BiS
 |0,s=>s
 |k+1,s=>biStep a b v k (biRow a b v k s)
def q0l (a b:Mo) (m:Nat):Nat->BiS->BiS
 |0,s=>s
 |k+1,s=>biRow a b k m (q0l a b m k s)
def biIter (a b:Mo) (n m:Nat):Nat->List Nat->List Nat
 |0,z=>z
 |k+1,z=>bif (q0l a b m n (z,false)).2 then biIter a b n m k (q0l a b m n (z,false)).1 else z
structure BiTab (z:List Nat) (n m:Nat):Prop where
 len:z.length=n
 low:∀ s,s∈z->s<2^m
theorem BiTab.at {z:List Nat} {n m v:Nat} (h:BiTab z n m) (hv:v<n):z[v]? = some (z.getD v 0)/\z.getD v 0<2^m:=by
 have h1:z[v]? = some (z.getD v 0):=q0f (by rw[h.len];exact hv);exact⟨h1,h.low _ (List.mem_iff_getElem?.2 ⟨v,h1⟩)⟩
theorem biSet_getD (z:List Nat) (v x e:Nat):(z.set v x).getD e 0=if e=v/\v<z.length then x else z.getD e 0:=by
 rw[List.getD_eq_getElem?_getD,List.getD_eq_getElem?_getD,List.getElem?_set]
 by_cases h:v=e
 ·subst h
  by_cases h2:v<z.length
  ·rw[if_pos rfl,if_pos h2,if_pos ⟨rfl,h2⟩];rfl
  ·rw[if_pos rfl,if_neg h2,if_neg (fun q=>h2 q.2),List.getElem?_eq_none (by omega)]
 ·rw[if_neg h,if_neg (fun q=>h q.1.symm)]
theorem biFlip_bit (s w j:Nat):(s ^^^ (s&&&2^w)).testBit j=(s.testBit j && !decide (w=j)):=by
 rw[Nat.testBit_xor,Nat.testBit_and,Nat.testBit_two_pow]
 cases s.testBit j<;>cases decide (w=j)<;>rfl
theorem biFlip_lt {s w m:Nat} (h:s<2^m):s ^^^ (s&&&2^w)<2^m:=Nat.xor_lt_two_pow h (Nat.lt_of_le_of_lt Nat.and_le_left h)
theorem BiTab.clr {z:List Nat} {n m:Nat} (h:BiTab z n m) {v w:Nat} (hv:v<n):BiTab (biClr z v w) n m:=by
 refine⟨by rw[biClr,List.length_set,h.len],fun s hs => ?_⟩
 rcases List.mem_or_eq_of_mem_set hs with hs|hs
 ·exact h.low s hs
 ·rw[hs];exact biFlip_lt (h.at hv).2
theorem biClr_bit {z:List Nat} {n m v w:Nat} (h:BiTab z n m) (hv:v<n) (v' w':Nat):((biClr z v w).getD v' 0).testBit w'=bif decide (v'=v/\w'=w) then false else (z.getD v' 0).testBit w':=by
 rw[biClr,biSet_getD,h.len]
 by_cases e:v'=v
 ·subst e;rw[if_pos ⟨rfl,hv⟩,biFlip_bit]
  by_cases e2:w'=w
  ·subst e2;simp
  ·rw[show decide (w=w')=false from decide_eq_false fun q=>e2 q.symm,Bool.not_false,Bool.and_true];simp[e2]
 ·rw[if_neg (fun q=>e q.1)];simp[e]
def biCnt (z:List Nat) (n m:Nat):Nat:=cntR (fun k=>(z.getD (k / m) 0).testBit (k % m)) (n*m)
structure BiOk (n m:Nat) (z:List Nat) (s:BiS):Prop where
 tab:BiTab s.1 n m
 sub:∀ e f,(s.1.getD e 0).testBit f=true->(z.getD e 0).testBit f=true
 yes:s.2=true->biCnt s.1 n m<biCnt z n m
 no:s.2=false->s.1=z
theorem BiOk.step {a b:Mo} {n m:Nat} {z:List Nat} {s:BiS} (h:BiOk n m z s) {e f:Nat} (he:e<n) (hf:f<m):BiOk n m z (biStep a b e f s):=by
 unfold biStep
 cases hz:(s.1.getD e 0).testBit f with
 |false=>exact h
 |true =>
  cases hm:biMt a b s.1 e f with
  |true=>exact h
  |false =>
   show BiOk n m z (biClr s.1 e f,true)
   have hbc:=biClr_bit h.tab he (w:=f)
   have hle:∀ e' f',((biClr s.1 e f).getD e' 0).testBit f'=true->(s.1.getD e' 0).testBit f'=true:=fun e' f' h'=>by
    rw[hbc] at h'
    cases hd:decide (e'=e/\f'=f) with
    |true=>rw[hd] at h';cases h'
    |false=>rw[hd] at h';exact h'
   refine⟨h.tab.clr he,fun e' f' h'=>h.sub e' f' (hle e' f' h'),fun _ => ?_,fun h'=>by cases h'⟩
   have hk:e*m+f<n*m:=by
    have:=Nat.mul_le_mul_right m (show e+1<=n from he);rw[Nat.add_mul,Nat.one_mul] at this;omega
   have hd:(e*m+f) / m=e:=by rw[Nat.add_comm,Nat.add_mul_div_right _ _ (by omega),Nat.div_eq_of_lt hf,Nat.zero_add]
   have hr:(e*m+f) % m=f:=by rw[Nat.add_comm,Nat.add_mul_mod_self_right,Nat.mod_eq_of_lt hf]
   refine Nat.lt_of_lt_of_le (cntR_lt (k:=e*m+f) (p:=fun k=>(s.1.getD (k / m) 0).testBit (k % m)) (by simp only[hd,hr];exact hz) ?_ hk fun k _ hq=>hle _ _ hq) (cntR_le fun k _ hq=>h.sub _ _ hq);simp only[hd,hr];rw[hbc];simp
theorem BiOk.row {a b:Mo} {n m:Nat} {z:List Nat} {e:Nat} (he:e<n):∀ {k:Nat} {s:BiS},BiOk n m z s->k<=m->BiOk n m z (biRow a b e k s)
 |0,_,h,_=>h
 |k+1,_,h,hk=>(h.row he (k:=k) (by omega)).step he (by omega)
theorem BiOk.pass {a b:Mo} {n m:Nat} {z:List Nat}:∀ {k:Nat} {s:BiS},BiOk n m z s->k<=n->BiOk n m z (q0l a b m k s)
 |0,_,h,_=>h
 |k+1,_,h,hk=>(h.pass (k:=k) (by omega)).row (by omega) (Nat.le_refl m)
theorem BiOk.start {n m:Nat} {z:List Nat} (hz:BiTab z n m):BiOk n m z (z,false):=⟨hz,fun _ _ h=>h,fun h=>(by cases h),fun _=>rfl⟩
def biEnd (a b:Mo) (n m:Nat) (z:List Nat):List Nat:=biIter a b n m (biCnt z n m+1) z
theorem biIter_more {a b:Mo} {n m:Nat}:∀ (k:Nat) (z:List Nat),BiTab z n m->biCnt z n m<k->biIter a b n m k z=biIter a b n m (biCnt z n m+1) z
 |k+1,z,hz,hk=>by
  have hO:=(BiOk.start hz).pass (a:=a) (b:=b) (k:=n) (Nat.le_refl n);rw[biIter,biIter]
  cases h:(q0l a b m n (z,false)).2 with
  |false=>rfl
  |true =>
   have hc:=hO.yes h;rw[cond_true,cond_true,biIter_more k _ hO.tab (by omega)]
   by_cases e:biCnt (q0l a b m n (z,false)).1 n m+1=biCnt z n m
   ·rw[e]
   ·exact (biIter_more (biCnt z n m) _ hO.tab hc).symm
theorem biEnd_step {a b:Mo} {n m:Nat} {z:List Nat} (hz:BiTab z n m):biEnd a b n m z=bif (q0l a b m n (z,false)).2 then biEnd a b n m (q0l a b m n (z,false)).1 else z:=by
 have hO:=(BiOk.start hz).pass (a:=a) (b:=b) (k:=n) (Nat.le_refl _);rw[biEnd,biIter]
 cases h:(q0l a b m n (z,false)).2 with
 |false=>rfl
 |true=>exact biIter_more _ _ hO.tab (hO.yes h)
def biZ0 (n m:Nat):List Nat:=List.replicate n (2^m-1)
theorem biZ0_tab (n m:Nat):BiTab (biZ0 n m) n m:=⟨by simp[biZ0],fun s hs=>by
 rw[List.eq_of_mem_replicate hs];have:=Nat.two_pow_pos m
 omega⟩
theorem biIter_tab {a b:Mo} {n m:Nat}:∀ (k:Nat) (z:List Nat),BiTab z n m->BiTab (biIter a b n m k z) n m
 |0,_,hz=>hz
 |k+1,z,hz=>by
  have hO:=(BiOk.start hz).pass (a:=a) (b:=b) (k:=n) (Nat.le_refl n);rw[biIter]
  cases (q0l a b m n (z,false)).2 with
  |false=>exact hz
  |true=>exact biIter_tab k _ hO.tab
def biAll (a b:Mo):List Nat:=biEnd a b a.n.toNat b.n.toNat (biZ0 a.n.toNat b.n.toNat)
theorem biAll_tab (a b:Mo):BiTab (biAll a b) a.n.toNat b.n.toNat:=biIter_tab _ _ (biZ0_tab _ _)
def biMem (a b:Mo) (v w:Nat) (s:BiS):BiS:=bif !biMt a b s.1 v w then (biClr s.1 v w,true) else s
theorem biRow_bit {a b:Mo} {n m:Nat} {z:List Nat} {s:BiS} (h:BiOk n m z s) {v:Nat} (hv:v<n) {j:Nat}:∀ {k:Nat},k<=m->k<=j->((biRow a b v k s).1.getD v 0).testBit j=(s.1.getD v 0).testBit j
 |0,_,_=>rfl
 |k+1,hk,hj=>by
  have ih:=biRow_bit (a:=a) (b:=b) h hv (j:=j) (k:=k) (by omega) (by omega);have hO:=h.row (a:=a) (b:=b) hv (k:=k) (by omega);rw[biRow,biStep]
  cases hz:((biRow a b v k s).1.getD v 0).testBit k with
  |false=>exact ih
  |true =>
   cases hm:biMt a b (biRow a b v k s).1 v k with
   |true=>exact ih
   |false =>
    show ((biClr (biRow a b v k s).1 v k).getD v 0).testBit j=_
    rw[biClr_bit hO.tab hv,show decide (v=v/\j=k)=false from decide_eq_false fun q=>by omega];exact ih
theorem biRow_mem {a b:Mo} {n m:Nat} {z:List Nat} {s:BiS} (h:BiOk n m z s) {v:Nat} (hv:v<n):∀ {k:Nat},k<=m->(((List.range k).filter (s.1.getD v 0).testBit).foldl (fun s w=>biMem a b v w s) s)=biRow a b v k s
 |0,_=>rfl
 |k+1,hk=>by
  have ih:=biRow_mem (a:=a) (b:=b) h hv (k:=k) (by omega);have hb:=biRow_bit (a:=a) (b:=b) h hv (j:=k) (k:=k) (by omega) (Nat.le_refl k);rw[List.range_succ,List.filter_append,List.foldl_append,ih,biRow,biStep,hb]
  cases hq:(s.1.getD v 0).testBit k with
  |false=>rw[show List.filter (s.1.getD v 0).testBit [k]=[] by simp only[List.filter_cons,List.filter_nil,hq];rfl];rfl
  |true=>rw[show List.filter (s.1.getD v 0).testBit [k]=[k] by simp only[List.filter_cons,List.filter_nil,hq];rfl];rfl
theorem biRow_members {a b:Mo} {n m:Nat} {z:List Nat} {s:BiS} (h:BiOk n m z s) {v:Nat} (hv:v<n) (hm:m<=64):(memL (s.1.getD v 0)).foldl (fun s w=>biMem a b v w s) s=biRow a b v m s:=by
 rw[memL_range (h.tab.at hv).2 hm];exact biRow_mem h hv (Nat.le_refl m)
theorem biMem_tab {a b:Mo} {n m v w:Nat} {s:BiS} (h:BiTab s.1 n m) (hv:v<n):BiTab (biMem a b v w s).1 n m:=by
 rw[biMem]
 cases biMt a b s.1 v w with
 |true=>exact h
 |false=>exact h.clr hv
theorem biFold_tab {a b:Mo} {n m v:Nat} (hv:v<n):∀ (l:List Nat) (s:BiS),BiTab s.1 n m->BiTab (l.foldl (fun s w=>biMem a b v w s) s).1 n m
 | [],_,h=>h
 |w::r,s,h=>biFold_tab hv r _ (biMem_tab h hv)
theorem biFold_take {a b:Mo} {v:Nat} {l:List Nat} {s:BiS} {j y:Nat} (h:l[j]? = some y):(l.take (j+1)).foldl (fun s w=>biMem a b v w s) s=biMem a b v y ((l.take j).foldl (fun s w=>biMem a b v w s) s):=by
 rw[List.take_add_one,h,List.foldl_append];rfl
set_option maxHeartbeats 8000000
theorem dc_members {M:Nat->Prop} {w0:W0} {L:DH} {K:DV->DH->Prop} (s:Int) (h:K (.clo 163 [] [.ref L.next 0]) (L.push (.var [.pv (.int .u64 s)]))):DC Tryz.prog M w0 128 [.pv (.int .u64 s)] L K:=by
 refine DC.intro mixed (fn:=Tryz.f128) rfl rfl rfl ?_
 try conv=>whnf
 exact h
theorem biR_at {m:Mo} {n i v:Nat} (hM:OkM m n) (hi:i<m.rel.length) (hv:v<n):∃ r,m.rel[i]? = some r/\r[v]? = some (biR m i v)/\biR m i v<2^n:=by
 obtain⟨r,hr⟩:∃ r,m.rel[i]? = some r:=⟨_,List.getElem?_eq_getElem hi⟩;have hm:=List.mem_iff_getElem?.2 ⟨i,hr⟩;have hl:=hM.rows r hm;have e:biR m i v=r.getD v 0:=by rw[biR,show m.rel.getD i []=r by rw[List.getD_eq_getElem?_getD,hr];rfl]
 have h1:r[v]? = some (r.getD v 0):=q0f (by omega);exact⟨r,hr,by rw[e];exact h1,by rw[e];exact hM.bits r hm _ (List.mem_iff_getElem?.2 ⟨v,h1⟩)⟩
theorem biMem_lt {s n x:Nat} (hs:s<2^n) (hx:x∈memL s):x<n:=by
 have:=(memL_mem.1 hx).2;apply Nat.lt_of_not_le;intro h;rw[Nat.testBit_lt_two_pow (Nat.lt_of_lt_of_le hs (Nat.pow_le_pow_right (by decide) h))] at this
 cases this
theorem biOr_lt {z:List Nat} {m:Nat} (hz:∀ x,z.getD x 0<2^m):∀ (l:List Nat) (s:Nat),s<2^m->l.foldl (fun s x=>s |||z.getD x 0) s<2^m
 | [],s,h=>h
 |x::r,s,h=>biOr_lt hz r _ (Nat.or_lt_two_pow h (hz x))
theorem BiTab.low' {z:List Nat} {n m:Nat} (h:BiTab z n m) (x:Nat):z.getD x 0<2^m:=by
 by_cases hx:x<n
 ·exact (h.at hx).2
 ·rw[List.getD_eq_getElem?_getD,List.getElem?_eq_none (by rw[h.len];omega)];exact Nat.two_pow_pos m
theorem biOr_take {z l:List Nat} {j y:Nat} (h:l[j]? = some y):biOr z (l.take (j+1))=biOr z (l.take j) |||z.getD y 0:=by
 rw[biOr,biOr,List.take_add_one,h,List.foldl_append];rfl
theorem biMeet_take {z l:List Nat} {s j y:Nat} (h:l[j]? = some y):biMeet z s (l.take (j+1))=(biMeet z s (l.take j) && (z.getD y 0&&&s != 0)):=by
 rw[biMeet,biMeet,List.take_add_one,h,List.all_append];simp
theorem biMeet_no {z l:List Nat} {s j y:Nat} (h:l[j]? = some y) (h0:z.getD y 0&&&s=0):biMeet z s l=false:=by
 rw[biMeet,List.all_eq_false];exact⟨y,List.mem_iff_getElem?.2 ⟨j,h⟩,by rw[h0];simp⟩
theorem andNotU_xor {a b:Nat} (ha:a<2^64):z0z a b=((a ^^^ (a&&&b):Nat):Int):=by
 have e:∀ x:Nat,(BitVec.ofInt 64 (x:Int))=BitVec.ofNat 64 x:=fun x=>BitVec.ofInt_natCast 64 x
 unfold z0z;rw[show IntKind.bits .u64=64 from rfl,e,e]
 have hb:((BitVec.ofNat 64 a &&& ~~~BitVec.ofNat 64 b).toNat:Nat)=a ^^^ (a&&&b):=by
  apply Nat.eq_of_testBit_eq;intro i;rw[BitVec.toNat_and,Nat.testBit_and,Nat.testBit_xor,Nat.testBit_and,BitVec.testBit_toNat,BitVec.testBit_toNat,BitVec.getLsbD_not,BitVec.getLsbD_ofNat,BitVec.getLsbD_ofNat]
  by_cases hi:i<64
  ·simp only[hi,decide_true,Bool.true_and]
   cases a.testBit i<;>cases b.testBit i<;>rfl
  ·have:a.testBit i=false:=Nat.testBit_lt_two_pow (Nat.lt_of_lt_of_le ha (Nat.pow_le_pow_right (by decide) (by omega)));simp[hi,this]
 rw[hb];have hlt:a ^^^ (a&&&b)<2^64:=Nat.xor_lt_two_pow ha (Nat.lt_of_le_of_lt Nat.and_le_left ha);exact wrapU (by omega) (by omega)
theorem andNot_no {a b:Nat} (ha:a<2^64):(z0z a b != 0)=!(a&&&b==a):=by
 rw[andNotU_xor ha]
 by_cases h:a&&&b=a
 ·rw[h,Nat.xor_self];simp
 ·have h2:a ^^^ (a&&&b)≠0:=fun q=>h (by
   have:(a ^^^ (a&&&b)) ^^^ (a&&&b)=a:=by rw[Nat.xor_assoc,Nat.xor_self,Nat.xor_zero]
   rw[q,Nat.zero_xor] at this
   exact this)
  have h3:((a&&&b==a):Bool)=false:=by simpa using h
  rw[h3];simpa using h2
theorem biForth_all {a b:Mo} {z:List Nat} {v w:Nat} (h:facN a v a.val.length=facN b w b.val.length) (ha:∀ i,i<a.rel.length->biForth a b z v w i=true):biMt a b z v w=true:=by
 rw[biMt,h];simp only[beq_self_eq_true,cond_true,List.all_eq_true];exact fun i hi=>ha i (List.mem_range.1 hi)
theorem biForth_one {a b:Mo} {z:List Nat} {v w i:Nat} (hi:i<a.rel.length) (ha:biForth a b z v w i=false):biMt a b z v w=false:=by
 rw[biMt]
 cases (facN a v a.val.length==facN b w b.val.length) with
 |false=>rfl
 |true=>exact List.all_eq_false.2 ⟨i,List.mem_range.2 hi,by rw[ha];decide⟩
theorem bs_matched (a b:Mo) (n m:Nat) (hfa:FitM a) (hfb:FitM b) (hA:OkM a n) (hB:OkM b m) (hr:a.rel.length=b.rel.length) (z:List Nat) (hz:BiTab z n m) (v w:Nat) (hv:v<n) (hw:w<m) :
  PureFn Tryz.prog 129 [a.pv,b.pv,.sl (z.map u64),i64 v,i64 w] (.bool (biMt a b z v w)):=by
 have hFa:=md_Facts a n v hfa hA hv;have hFb:=md_Facts b m w hfb hB hw;have hn64:=hA.n64;have hm64:=hB.n64;have hag:=hA.ag;obtain⟨R,hR⟩:∃ R,biMt a b z v w=R:=⟨_,rfl⟩;have hfe:(facN a v a.val.length==facN b w b.val.length)=false->R=false:=fun h=>by rw[<- hR,biMt,h];rfl
 have hall:facN a v a.val.length=facN b w b.val.length->(∀ i,i<a.rel.length->biForth a b z v w i=true)->R=true:=fun h1 h2=>by rw[<- hR];exact biForth_all h1 h2
 have hone:∀ i,i<a.rel.length->biForth a b z v w i=false->R=false:=fun i h1 h2=>by rw[<- hR];exact biForth_one h1 h2
 rw[hR];clear hR;generalize facN a v a.val.length=fa at hFa hfe hall;generalize facN b w b.val.length=fb at hFb hfe hall;refine PureFn.introR [3,12] mixed (fn:=Tryz.f129) rfl rfl rfl fun M w0 => ?_
 try conv=>whnf
 refine⟨{ _x:Unit // fa=fb },fun _=>[(3,.pv (i64 v)),(5,.ref 0 0),(6,.ref 1 0),(7,.ref 2 0),(9,.ref 3 0),(10,.ref 4 0)],fun _=>5,fun _=>[(0,.var (q0e a)),(1,.var (q0e b)),(2,.var [.pv (.sl (z.map u64))]),(3,.var [.pv (i64 w)]),(4,.var [.pv (.bool false)])],?_,?_⟩
 ·(try conv=>whnf);repeat' (first|((first|apply And.intro|intro h)<;>try conv=>whnf)|(refine q0w (by kernel_rfl) ?_;try conv=>whnf)|(refine⟨_,(by (conv=>whnf);exact hFa),rfl,?_⟩;try conv=>whnf)|(refine⟨_,(by (conv=>whnf);exact hFb),rfl,?_⟩;try conv=>whnf)|fail)
  ·rw[hfe (by
    have h2:((fa:Int) != (fb:Int))=true:=h
    simp at h2 |-;omega)]
   exact .refl _
  ·exact⟨⟨(),by
    have h2:((fa:Int) != (fb:Int))=false:=h
    simp at h2;omega⟩,(by exact Wk.s rfl)⟩
 rintro⟨_,hff⟩;have hall:=hall hff
 try conv=>whnf
 refine⟨{ i:Nat // i<=a.rel.length/\∀ j,j<i->biForth a b z v w j=true },fun i=>[(3,.pv (i64 v)),(5,.ref 0 0),(6,.ref 1 0),(7,.ref 2 0),(9,.ref 3 0),(10,.ref 4 0),(23,.pv (i64 (a.rel.map q0b).length)),(24,.pv (i64 i.1))],fun _=>5,fun _=>[(0,.var (q0e a)),(1,.var (q0e b)),(2,.var [.pv (.sl (z.map u64))]),(3,.var [.pv (i64 w)]),(4,.var [.pv (.bool false)])],fun i=>a.rel.length-i.1,⟨⟨0,Nat.zero_le _,fun j h=>by omega⟩,(by exact Wk.s rfl)⟩,?_⟩;rintro⟨i,hi,hfo⟩
 (try conv=>whnf);repeat' (first|((first|apply And.intro|intro h)<;>try conv=>whnf))
 ·have hi':i<a.rel.length:=by simpa using q0j h
  obtain⟨ra,hai,hav,hal⟩:=biR_at hA hi' hv;obtain⟨rb,hbi,hbw,hbl⟩:=biR_at hB (show i<b.rel.length by omega) hw;have ha64:biR a i v<2^64:=Nat.lt_of_lt_of_le hal (z0j hn64);have hb64:biR b i w<2^64:=Nat.lt_of_lt_of_le hbl (z0j hm64);have hfi:biForth a b z v w i=bif biMeet z (biR b i w) (memL (biR a i v)) then biR b i w&&&biOr z (memL (biR a i v))==biR b i w else false:=rfl
  have hone:=hone i hi';have hmem:∀ y,y∈memL (biR a i v)->y<n:=fun y hy=>biMem_lt hal hy
  have hit:=it_members (biR a i v) ha64;generalize biR a i v=sa at *;generalize biR b i w=sb at *;generalize hl:memL sa=l at *;have horl:∀ j,biOr z (l.take j)<2^64:=fun j=>Nat.lt_of_lt_of_le (biOr_lt hz.low' _ _ (Nat.two_pow_pos m)) (z0j hm64)
  have horf:biOr z l<2^64:=Nat.lt_of_lt_of_le (biOr_lt hz.low' _ _ (Nat.two_pow_pos m)) (z0j hm64)
  try conv=>whnf
  refine⟨{ _x:Unit // biMeet z sb l=true },fun _=>[(3,.pv (i64 v)),(5,.ref 0 0),(6,.ref 1 0),(7,.ref 2 0),(9,.ref 3 0),(10,.ref 4 0),(11,.ref 5 0),(12,.ref 6 0),(23,.pv (i64 (a.rel.map q0b).length)),(24,.pv (i64 i))],fun _=>7,fun _=>[(0,.var (q0e a)),(1,.var (q0e b)),(2,.var [.pv (.sl (z.map u64))]),(3,.var [.pv (i64 w)]),(4,.var [.pv (.bool false)]),(5,.var [.pv (i64 i)]),(6,.var [.pv (u64 (biOr z l))])],?_,?_⟩
  ·(try conv=>whnf);repeat' (first|(apply And.intro<;>try conv=>whnf)|(apply q0i;rfl)|(refine⟨_,_,rfl,q0a (by with_reducible assumption),rfl,?_⟩;try conv=>whnf)|(refine dc_members _ ?_;try conv=>whnf)|fail)
   refine⟨(sa:Nat),l.map Int.ofNat,[(3,.pv (i64 v)),(5,.ref 0 0),(6,.ref 1 0),(7,.ref 2 0),(9,.ref 3 0),(10,.ref 4 0),(11,.ref 5 0),(12,.ref 6 0),(23,.pv (i64 (a.rel.map q0b).length)),(24,.pv (i64 i))],8,fun j=>[(0,.var (q0e a)),(1,.var (q0e b)),(2,.var [.pv (.sl (z.map u64))]),(3,.var [.pv (i64 w)]),(4,.var [.pv (.bool false)]),(5,.var [.pv (i64 i)]),(6,.var [.pv (u64 (biOr z (l.take j)))])],fun j=>biMeet z sb (l.take j)=true,hit,rfl,(by exact Wk.s rfl),rfl,?_,?_⟩
   ·intro j x v' hx hI
    obtain⟨y,hy,rfl⟩:∃ y,l[j]? = some y/\x=(y:Int):=by
     rw[List.getElem?_map] at hx
     cases hq:l[j]? with
     |none=>rw[hq] at hx;cases hx
     |some y=>rw[hq] at hx;exact⟨y,rfl,(Option.some.inj hx).symm⟩
    have hyn:=hmem y (List.mem_iff_getElem?.2 ⟨j,hy⟩);obtain⟨hzy,hzl⟩:=hz.at hyn;have hz64:z.getD y 0<2^64:=Nat.lt_of_lt_of_le hzl (z0j hm64);have hmt:=biMeet_take (z:=z) (s:=sb) hy;have hmn:=biMeet_no (z:=z) (s:=sb) hy;have hot:=biOr_take (z:=z) hy;have hoj:=horl j;generalize z.getD y 0=zy at *;have hand:andU (zy:Nat) (sb:Nat)=((zy&&&sb:Nat):Int):=andU_nat hz64 hb64
    (try conv=>whnf);repeat' (first|((first|apply And.intro|intro h)<;>try conv=>whnf)|(apply q0i;rfl)|(refine q0w (by kernel_rfl) ?_;try conv=>whnf)|(refine⟨_,_,rfl,q0a (by with_reducible assumption),rfl,?_⟩;try conv=>whnf)|fail)
    ·have h2:(andU (zy:Nat) (sb:Nat)==0)=true:=h;rw[hand] at h2;rw[hone (by rw[hfi,hmn (by simp at h2;omega)];rfl)];exact .refl _
    ·have h2:(andU (zy:Nat) (sb:Nat)==0)=false:=h;rw[hand] at h2;rw[hmt,hI,Bool.true_and];simp at h2 |-;omega
    ·(refine Wk.of ?_ ?_ rfl rfl rfl<;>repeat' (first|exact trivial|exact WkD.same _|exact WkO.same _ _ rfl|refine WkD.int ?_|refine WkO.vars rfl ?_|refine⟨?_,?_⟩|fail))
     have e1:orU (biOr z (l.take j):Nat) (zy:Nat)=((biOr z (l.take (j+1)):Nat):Int):=by rw[orU_nat hoj hz64,hot]
     exact e1
   ·intro v' hI;have hlen:l.take (l.map Int.ofNat).length=l:=by rw[List.length_map,List.take_length]
    rw[hlen] at hI;refine⟨⟨(),hI⟩,?_⟩
    (refine Wk.of ?_ ?_ rfl rfl rfl<;>repeat' (first|exact trivial|exact WkD.same _|exact WkO.same _ _ rfl|refine WkD.int ?_|refine WkO.vars rfl ?_|refine⟨?_,?_⟩|fail))
    exact congrArg (fun q=>((biOr z q:Nat):Int)) hlen
  rintro⟨_,hme⟩;rw[hme,cond_true] at hfi;have han:=andNot_no (b:=biOr z l) hb64
  (try conv=>whnf);repeat' (first|((first|apply And.intro|intro h)<;>try conv=>whnf)|(apply q0i;rfl)|(refine q0w (by kernel_rfl) ?_;try conv=>whnf)|(refine⟨_,_,rfl,q0a (by with_reducible assumption),rfl,?_⟩;try conv=>whnf)|fail)
  ·have h2:(z0z (sb:Nat) (biOr z l:Nat) != 0)=true:=h;rw[han] at h2;rw[hone (by rw[hfi];simpa using h2)];exact .refl _
  ·have h2:(z0z (sb:Nat) (biOr z l:Nat) != 0)=false:=h;rw[han] at h2;refine⟨⟨i+1,hi',fun j hj => ?_⟩,by show a.rel.length-(i+1)<a.rel.length-i;omega,(by refine Wk.of ?_ ?_ rfl rfl rfl<;>repeat' (first|exact trivial|exact WkD.same _|exact WkO.same _ _ rfl|refine WkD.int ?_|refine⟨?_,?_⟩|(apply q0h;(focus simp;done);all_goals (try dsimp only);omega)|fail))⟩
   by_cases e:j<i
   ·exact hfo j e
   ·rw[show j=i by omega,hfi];simpa using h2
 ·have hi':i=a.rel.length:=by have:=q0k (m:=(a.rel.map q0b).length) h (by simpa using hi);simpa using this
  rw[hall fun j hj=>hfo j (by omega)];exact .refl _
def biErr (a b:Mo):Int:=bif moI a != 0 then moI a else bif moI b != 0 then moI b else bif (bif ((a.rel.length:Int) != (b.rel.length:Int)) then true else ((a.val.length:Int) != (b.val.length:Int))) then 1 else 0
theorem biErr_ok {a b:Mo} (h:biErr a b=0):(∃ n,OkM a n)/\(∃ m,OkM b m)/\a.rel.length=b.rel.length/\a.val.length=b.val.length:=by
 unfold biErr at h
 cases h1:(moI a != 0) with
 |true=>rw[h1,cond_true] at h;rw[h] at h1;cases h1
 |false =>
  cases h2:(moI b != 0) with
  |true=>rw[h1,cond_false,h2,cond_true] at h;rw[h] at h2;cases h2
  |false =>
   rw[h1,h2] at h;simp only[cond_false] at h;have e1:moI a=0:=by simpa using h1
   have e2:moI b=0:=by simpa using h2
   cases h3:((a.rel.length:Int) != (b.rel.length:Int)) with
   |true=>rw[h3] at h;cases h
   |false =>
    cases h4:((a.val.length:Int) != (b.val.length:Int)) with
    |true=>rw[h3,h4] at h;cases h
    |false=>exact⟨moI_ok e1,moI_ok e2,by simp at h3;omega,by simp at h4;omega⟩
theorem bs_both (a b:Mo) (hfa:FitM a) (hfb:FitM b):PureFn Tryz.prog 127 [a.pv,b.pv] (.int .i64 (biErr a b)):=by
 have hCa:=md_Check a hfa;have hCb:=md_Check b hfb;have e1:((a.rel.map q0b).length:Int)=(a.rel.length:Int):=by simp
 have e2:((b.rel.map q0b).length:Int)=(b.rel.length:Int):=by simp
 have e3:((a.val.map u64).length:Int)=(a.val.length:Int):=by simp
 have e4:((b.val.map u64).length:Int)=(b.val.length:Int):=by simp
 have hR:biErr a b=bif moI a != 0 then moI a else bif moI b != 0 then moI b else bif (bif (((a.rel.map q0b).length:Int) != ((b.rel.map q0b).length:Int)) then true else (((a.val.map u64).length:Int) != ((b.val.map u64).length:Int))) then 1 else 0:=by rw[e1,e2,e3,e4];rfl
 rw[hR];clear hR e1 e2 e3 e4;generalize moI a=ea at hCa |-;generalize moI b=eb at hCb |-;refine PureFn.introC [2,5] mixed (fn:=Tryz.f127) rfl rfl rfl fun M w0 => ?_
 try conv=>whnf
 refine⟨Unit,fun _=>[(2,.ref 0 0),(3,.ref 1 0),(5,.pv (.int .i64 ea))],fun _=>2,fun _=>[(0,.var (q0e a)),(1,.var (q0e b))],?_,?_⟩
 ·(try conv=>whnf);repeat' (first|(refine PureFn.dy hCa rfl ?_;try conv=>whnf)|fail)
  exact⟨(),(by exact Wk.s rfl)⟩
 rintro⟨⟩
 (try conv=>whnf);repeat' (first|((first|apply And.intro|intro h)<;>try conv=>whnf))
 ·have h':(ea != 0)=true:=h;rw[h',cond_true];exact .refl _
 have h1:(ea != 0)=false:=h;rw[h1,cond_false];refine⟨Unit,fun _=>[(2,.ref 0 0),(3,.ref 1 0),(6,.pv (.int .i64 eb))],fun _=>2,fun _=>[(0,.var (q0e a)),(1,.var (q0e b))],?_,?_⟩
 ·(try conv=>whnf);repeat' (first|(refine PureFn.dy hCb rfl ?_;try conv=>whnf)|fail)
  exact⟨(),(by exact Wk.s rfl)⟩
 rintro⟨⟩
 (try conv=>whnf);repeat' (first|((first|apply And.intro|intro h)<;>try conv=>whnf)|apply True.intro|(apply WhenQ.mk;(try conv=>whnf);rotate_left;(try conv=>whnf);rotate_right)|with_reducible assumption|(apply q0x;with_reducible assumption))
 ·have h':(eb != 0)=true:=h;rw[h',cond_true];exact .refl _
 ·have h2:(eb != 0)=false:=by assumption
  rw[h2,cond_false,show (bif (((a.rel.map q0b).length:Int) != ((b.rel.map q0b).length:Int)) then true else (((a.val.map u64).length:Int) != ((b.val.map u64).length:Int)))=true from h];exact .refl _
 ·have h2:(eb != 0)=false:=by assumption
  rw[h2,cond_false,show (bif (((a.rel.map q0b).length:Int) != ((b.rel.map q0b).length:Int)) then true else (((a.val.map u64).length:Int) != ((b.val.map u64).length:Int)))=false from h];exact .refl _
theorem ones_u {m:Nat} (hm:m<=64):IntKind.wrap .u64 (shlU 1 (m:Nat)-1)=((2^m-1:Nat):Int):=by
 by_cases h:m=64
 ·subst h;decide +kernel
 ·rw[shlU_one (by omega)];have h1:=Nat.two_pow_pos m;have h2:2^m<=2^63:=Nat.pow_le_pow_right (by decide) (by omega);rw[wrapU (by omega) (by omega)];omega
def biP (a b:Mo):PV:=bif biErr a b != 0 then .tup [.nil,.int .i64 (biErr a b)] else .tup [.sl ((biAll a b).map u64),.int .i64 0]
theorem bs_Between (a b:Mo) (hfa:FitM a) (hfb:FitM b):PureFn Tryz.prog 95 [a.pv,b.pv] (biP a b):=by
 have hBo:=bs_both a b hfa hfb;obtain⟨R,hR⟩:∃ R,biP a b=R:=⟨_,rfl⟩;rw[hR];rw[biP] at hR;have hok:=biErr_ok (a:=a) (b:=b);generalize biErr a b=c at hBo hR hok;refine PureFn.introR [2,4,10,23] mixed (fn:=Tryz.f95) rfl rfl rfl fun M w0 => ?_
 try conv=>whnf
 refine⟨{ _x:Unit // c=0 },fun _=>[(2,.ref 0 0),(3,.ref 1 0)],fun _=>2,fun _=>[(0,.var (q0e a)),(1,.var (q0e b))],?_,?_⟩
 ·try conv=>whnf
  refine⟨Unit,fun _=>[(2,.ref 0 0),(3,.ref 1 0),(6,.pv (.int .i64 c))],fun _=>2,fun _=>[(0,.var (q0e a)),(1,.var (q0e b))],?_,?_⟩
  ·(try conv=>whnf);repeat' (first|(refine PureFn.dy hBo rfl ?_;try conv=>whnf)|fail)
   exact⟨(),(by exact Wk.s rfl)⟩
  rintro⟨⟩
  (try conv=>whnf);repeat' (first|((first|apply And.intro|intro h)<;>try conv=>whnf))
  ·have h1:(c != 0)=true:=h;rw[<- hR,h1];exact .refl _
  ·exact⟨⟨(),by simpa using h⟩,(by exact Wk.s rfl)⟩
 rintro⟨_,hc⟩;obtain⟨⟨n,hA⟩,⟨m,hB⟩,hr,_⟩:=hok hc;have hR:R=.tup [.sl ((biAll a b).map u64),.int .i64 0]:=by rw[<- hR,hc];rfl
 have hn64:=hA.n64;have hm64:=hB.n64;have hnn:=hA.nn;have hmm:=hB.nn;have hn1:=hA.n1;have hN:a.n.toNat=n:=by rw[hnn];rfl
 have hbi:biAll a b=biEnd a b n m (biZ0 n m):=by rw[biAll,hnn,hmm];rfl
 have hones:IntKind.wrap .u64 (shlU 1 b.n-1)=((2^m-1:Nat):Int):=by rw[hmm];exact ones_u hm64
 have hmx:=fun i=>(mixV_len n (fun _=>u64 (2^m-1)) (fun _=>u64 0) i).symm
 have hz1:List.replicate a.n.toNat (PV.int .u64 0)=mixV n (fun _=>u64 (2^m-1)) (fun _=>u64 0) 0:=by rw[hN];exact mixV_rep _ _ _
 have hz2:mixV n (fun _=>u64 (2^m-1)) (fun _=>u64 0) n=(biZ0 n m).map u64:=by rw[mixV_full,biZ0,List.map_replicate];apply List.ext_getElem? ;intro i;rw[List.getElem?_map,List.getElem?_replicate];by_cases hi:i<n<;>simp[hi]
 (try conv=>whnf);repeat' (first|(apply And.intro<;>try conv=>whnf)|(apply Or.inl;try conv=>whnf)|fail)
 ·exact rfl
 ·rw[hnn];exact Int.natCast_nonneg _
 ·show a.n<=((4294967296:Nat):Int)
  omega
 refine⟨Unit,fun _=>[(2,.ref 0 0),(3,.ref 1 0),(7,.ref 3 0)],fun _=>4,fun _=>[(0,.var (q0e a)),(1,.var (q0e b)),(2,.arr 1 ((biZ0 n m).map u64)),(3,.var [.buf 2 n])],?_,?_⟩
 ·try conv=>whnf
  refine⟨{ i:Nat // i<=n },fun i=>[(2,.ref 0 0),(3,.ref 1 0),(7,.ref 3 0),(23,.pv (i64 n)),(24,.pv (i64 i.1))],fun _=>4,fun i=>[(0,.var (q0e a)),(1,.var (q0e b)),(2,.arr 1 (mixV n (fun _=>u64 (2^m-1)) (fun _=>u64 0) i.1)),(3,.var [.buf 2 n])],fun i=>n-i.1,⟨⟨0,Nat.zero_le _⟩,?_⟩,?_⟩
  ·(refine Wk.of ?_ ?_ rfl rfl rfl<;>repeat' (first|exact trivial|exact WkD.same _|exact WkO.same _ _ rfl|refine WkD.int ?_|refine WkO.vars rfl ?_|refine⟨?_,?_⟩|fail))
   ·exact congrArg (fun z:Nat=>(z:Int)) ((List.length_replicate ..).trans hN)
   ·exact WkO.same _ _ (congrArg (fun z=>some (DObj.arr 1 z)) hz1)
   ·exact WkD.eq (congrArg (DV.buf 2) ((List.length_replicate ..).trans hN))
  rintro⟨i,hi⟩;have hmi:=hmx i;have hmo:=fun h=>mixV_old (n:=n) (p:=fun _=>u64 (2^m-1)) (q:=fun _=>u64 0) (e:=i) h
  have hms:=mixV_set (n:=n) (p:=fun _=>u64 (2^m-1)) (q:=fun _=>u64 0) (e:=i)
  (try conv=>whnf);repeat' (first|((first|apply And.intro|intro h)<;>try conv=>whnf))
  ·have hi':i<n:=q0j h;have hmo:=hmo hi';refine⟨Plan.lin 0 8,[7],by kernel_rfl,?_⟩
   (try conv=>whnf);repeat' (first|(apply And.intro<;>try conv=>whnf)|with_reducible assumption)
   ·exact (show (0:Int)<=b.n by omega)
   refine⟨i,rfl,hi',?_⟩
   (try conv=>whnf);repeat' (first|(apply And.intro<;>try conv=>whnf)|with_reducible assumption|exact Nat.le_refl 1|(apply ex2;(focus with_reducible assumption);try conv=>whnf)|fail)
   refine⟨⟨i+1,hi'⟩,by show n-(i+1)<n-i;omega,?_⟩
   (refine Wk.of ?_ ?_ rfl rfl rfl<;>repeat' (first|exact trivial|exact WkD.same _|exact WkO.same _ _ rfl|refine WkD.int ?_|refine⟨?_,?_⟩|(apply q0h;(focus simp;done);all_goals (try dsimp only);omega)|fail))
   refine WkO.same _ _ (congrArg (fun z=>some (DObj.arr 1 z)) (Eq.trans ?_ hms));exact congrArg (fun z=>(mixV n (fun _=>u64 (2^m-1)) (fun _=>u64 0) i).set i (PV.int .u64 z)) hones
  ·have hi':i=n:=q0k h hi;subst hi';refine⟨(),?_⟩
   (refine Wk.of ?_ ?_ rfl rfl rfl<;>repeat' (first|exact trivial|exact WkD.same _|exact WkO.same _ _ rfl|refine⟨?_,?_⟩|fail))
   exact WkO.same _ _ (congrArg (fun z=>some (DObj.arr 1 z)) hz2)
 rintro⟨⟩;clear hz1 hz2 hmx;have hT0:=biZ0_tab n m;obtain⟨Z,hZ⟩:∃ Z,biEnd a b n m (biZ0 n m)=Z:=⟨_,rfl⟩;rw[hbi,hZ] at hR
 try conv=>whnf
 refine⟨{ x:List Nat×Bool // BiTab x.1 n m/\(x.2=true->biEnd a b n m x.1=Z)/\(x.2=false->x.1=Z) },fun x=>[(2,.ref 0 0),(3,.ref 1 0),(7,.ref 3 0),(9,.ref 4 0)],fun _=>5,fun x=>[(0,.var (q0e a)),(1,.var (q0e b)),(2,.arr 1 (x.1.1.map u64)),(3,.var [.buf 2 n]),(4,.var [.pv (.bool x.1.2)])],fun x=>2*biCnt x.1.1 n m+(bif x.1.2 then 1 else 0),⟨⟨(biZ0 n m,true),hT0,fun _=>hZ,fun h=>(by cases h)⟩,(by exact Wk.s rfl)⟩,?_⟩;rintro⟨⟨z,ch⟩,hz,hy,hno⟩;simp only at hz hy hno;have hzl:n=(z.map u64).length:=by rw[List.length_map,hz.len]
 (try conv=>whnf);repeat' (first|((first|apply And.intro|intro h)<;>try conv=>whnf)|(apply bleI;rfl)|with_reducible assumption)
 ·have hyR:=hy h;have hO:=fun (k:Nat) (hk:k<=n)=>(BiOk.start hz).pass (a:=a) (b:=b) (k:=k) hk
  refine⟨{ v:Nat // v<=n },fun v=>[(2,.ref 0 0),(3,.ref 1 0),(7,.ref 3 0),(9,.ref 4 0),(36,.buf 2 n),(37,.pv (i64 n)),(38,.pv (i64 v.1))],fun _=>5,fun v=>[(0,.var (q0e a)),(1,.var (q0e b)),(2,.arr 1 ((q0l a b m v.1 (z,false)).1.map u64)),(3,.var [.buf 2 n]),(4,.var [.pv (.bool (q0l a b m v.1 (z,false)).2)])],fun v=>n-v.1,⟨⟨0,Nat.zero_le _⟩,(by exact Wk.s rfl)⟩,?_⟩;rintro⟨v,hv⟩;have hOv:=hO v hv;have hzv:n=((q0l a b m v (z,false)).1.map u64).length:=by rw[List.length_map,hOv.tab.len]
  (try conv=>whnf);repeat' (first|((first|apply And.intro|intro h)<;>try conv=>whnf)|with_reducible assumption)
  ·have hv':v<n:=q0j h;obtain⟨t1,t2⟩:=hOv.tab.at hv';have hsu:q0l a b m (v+1) (z,false)=(memL ((q0l a b m v (z,false)).1.getD v 0)).foldl (fun s w=>biMem a b v w s) (q0l a b m v (z,false)):=(biRow_members hOv hv' hm64).symm;have ht:=hOv.tab;refine⟨v,rfl,hv',?_⟩
   (try conv=>whnf);repeat' (first|(apply And.intro<;>try conv=>whnf)|with_reducible assumption)
   refine⟨_,q0a t1,?_⟩
   (try conv=>whnf);repeat' (first|(refine dc_members _ ?_;try conv=>whnf)|fail)
   refine⟨((q0l a b m v (z,false)).1.getD v 0:Nat),(memL ((q0l a b m v (z,false)).1.getD v 0)).map Int.ofNat,[(2,.ref 0 0),(3,.ref 1 0),(7,.ref 3 0),(9,.ref 4 0),(10,.ref 5 0),(36,.buf 2 n),(37,.pv (i64 n)),(38,.pv (i64 v))],7,fun j=>[(0,.var (q0e a)),(1,.var (q0e b)),(2,.arr 1 ((((memL ((q0l a b m v (z,false)).1.getD v 0)).take j).foldl (fun s w=>biMem a b v w s) (q0l a b m v (z,false))).1.map u64)),(3,.var [.buf 2 n]),(4,.var [.pv (.bool (((memL ((q0l a b m v (z,false)).1.getD v 0)).take j).foldl (fun s w=>biMem a b v w s) (q0l a b m v (z,false))).2)]),(5,.var [.pv (i64 v)])],fun _=>True,it_members _ (Nat.lt_of_lt_of_le t2 (z0j hm64)),rfl,(by exact Wk.s rfl),trivial,?_,?_⟩
   ·intro j x v' hx _
    obtain⟨y,hy,rfl⟩:∃ y,(memL ((q0l a b m v (z,false)).1.getD v 0))[j]? = some y/\x=(y:Int):=by
     rw[List.getElem?_map] at hx
     cases hq:(memL ((q0l a b m v (z,false)).1.getD v 0))[j]? with
     |none=>rw[hq] at hx;cases hx
     |some y=>rw[hq] at hx;exact⟨y,rfl,(Option.some.inj hx).symm⟩
    have hym:y<m:=biMem_lt t2 (List.mem_iff_getElem?.2 ⟨j,hy⟩);have hFt:BiTab (((memL ((q0l a b m v (z,false)).1.getD v 0)).take j).foldl (fun s w=>biMem a b v w s) (q0l a b m v (z,false))).1 n m:=biFold_tab hv' _ _ ht;have hFl:n=((((memL ((q0l a b m v (z,false)).1.getD v 0)).take j).foldl (fun s w=>biMem a b v w s) (q0l a b m v (z,false))).1.map u64).length:=by rw[List.length_map,hFt.len]
    have hMt:=bs_matched a b n m hfa hfb hA hB hr (((memL ((q0l a b m v (z,false)).1.getD v 0)).take j).foldl (fun s w=>biMem a b v w s) (q0l a b m v (z,false))).1 hFt v y hv' hym;have hst:(((memL ((q0l a b m v (z,false)).1.getD v 0)).take (j+1)).foldl (fun s w=>biMem a b v w s) (q0l a b m v (z,false)))=biMem a b v y (((memL ((q0l a b m v (z,false)).1.getD v 0)).take j).foldl (fun s w=>biMem a b v w s) (q0l a b m v (z,false))):=biFold_take hy;rw[biMem] at hst;obtain⟨t3,t4⟩:=hFt.at hv';have t5:=q0a (g:=u64) t3
    (try conv=>whnf);repeat' (first|((first|apply And.intro|intro h)<;>try conv=>whnf)|apply True.intro|(refine PureFn.dcb hMt rfl (by (conv=>whnf);exact⟨hFl,PLe.refl _,PLe.refl _,PLe.refl _,PLe.refl _,PLe.refl _,trivial⟩) ?_;try conv=>whnf)|fail)
    ·have hmt:biMt a b (((memL ((q0l a b m v (z,false)).1.getD v 0)).take j).foldl (fun s w=>biMem a b v w s) (q0l a b m v (z,false))).1 v y=false:=by simpa using h
     have hst2:(((memL ((q0l a b m v (z,false)).1.getD v 0)).take (j+1)).foldl (fun s w=>biMem a b v w s) (q0l a b m v (z,false)))=(biClr (((memL ((q0l a b m v (z,false)).1.getD v 0)).take j).foldl (fun s w=>biMem a b v w s) (q0l a b m v (z,false))).1 v y,true):=by rw[hst,hmt];rfl
     have h64:(((memL ((q0l a b m v (z,false)).1.getD v 0)).take j).foldl (fun s w=>biMem a b v w s) (q0l a b m v (z,false))).1.getD v 0<2^64:=Nat.lt_of_lt_of_le t4 (z0j hm64);have hval:z0z ((((memL ((q0l a b m v (z,false)).1.getD v 0)).take j).foldl (fun s w=>biMem a b v w s) (q0l a b m v (z,false))).1.getD v 0:Nat) (shlU 1 (y:Nat))=(((((memL ((q0l a b m v (z,false)).1.getD v 0)).take j).foldl (fun s w=>biMem a b v w s) (q0l a b m v (z,false))).1.getD v 0 ^^^ ((((memL ((q0l a b m v (z,false)).1.getD v 0)).take j).foldl (fun s w=>biMem a b v w s) (q0l a b m v (z,false))).1.getD v 0&&&2^y):Nat):Int):=by rw[shlU_one (by omega)];exact andNotU_xor h64
     have hset:((((memL ((q0l a b m v (z,false)).1.getD v 0)).take j).foldl (fun s w=>biMem a b v w s) (q0l a b m v (z,false))).1.map u64).set v (PV.int .u64 (z0z ((((memL ((q0l a b m v (z,false)).1.getD v 0)).take j).foldl (fun s w=>biMem a b v w s) (q0l a b m v (z,false))).1.getD v 0:Nat) (shlU 1 (y:Nat))))=(((memL ((q0l a b m v (z,false)).1.getD v 0)).take (j+1)).foldl (fun s w=>biMem a b v w s) (q0l a b m v (z,false))).1.map u64:=by rw[hval,hst2,biClr,List.map_set];rfl
     refine⟨Plan.lin 0 9,[8],by kernel_rfl,?_⟩
     (try conv=>whnf);repeat' (first|(apply And.intro<;>try conv=>whnf)|with_reducible assumption)
     refine⟨v,rfl,hv',?_⟩
     (try conv=>whnf);repeat' (first|(apply And.intro<;>try conv=>whnf)|with_reducible assumption|(apply ex2;(focus with_reducible assumption);try conv=>whnf)|fail)
     ·exact (show (0:Int)<=(y:Int) by omega)
     refine⟨v,rfl,hv',?_⟩
     (try conv=>whnf);repeat' (first|(apply And.intro<;>try conv=>whnf)|apply True.intro|with_reducible assumption|exact Nat.le_refl 1|(apply ex2;(focus with_reducible assumption);try conv=>whnf)|fail)
     (refine Wk.of ?_ ?_ rfl rfl rfl<;>repeat' (first|exact trivial|exact WkD.same _|exact WkO.same _ _ rfl|refine WkO.vars rfl ?_|refine⟨?_,?_⟩|fail))
     ·exact WkO.same _ _ (congrArg (fun z=>some (DObj.arr 1 z)) hset)
     ·exact WkD.eq (congrArg (fun q:BiS=>DV.pv (.bool q.2)) hst2.symm)
    ·have hmt:biMt a b (((memL ((q0l a b m v (z,false)).1.getD v 0)).take j).foldl (fun s w=>biMem a b v w s) (q0l a b m v (z,false))).1 v y=true:=by simpa using h
     have hst2:(((memL ((q0l a b m v (z,false)).1.getD v 0)).take (j+1)).foldl (fun s w=>biMem a b v w s) (q0l a b m v (z,false)))=(((memL ((q0l a b m v (z,false)).1.getD v 0)).take j).foldl (fun s w=>biMem a b v w s) (q0l a b m v (z,false))):=by rw[hst,hmt];rfl
     (refine Wk.of ?_ ?_ rfl rfl rfl<;>repeat' (first|exact trivial|exact WkD.same _|exact WkO.same _ _ rfl|refine WkO.vars rfl ?_|refine⟨?_,?_⟩|fail))
     ·exact WkO.same _ _ (congrArg (fun q:BiS=>some (DObj.arr 1 (q.1.map u64))) hst2.symm)
     ·exact WkD.eq (congrArg (fun q:BiS=>DV.pv (.bool q.2)) hst2.symm)
   ·intro v' _;have hfe:(((memL ((q0l a b m v (z,false)).1.getD v 0)).take ((memL ((q0l a b m v (z,false)).1.getD v 0)).map Int.ofNat).length).foldl (fun s w=>biMem a b v w s) (q0l a b m v (z,false)))=q0l a b m (v+1) (z,false):=by rw[List.length_map,List.take_length];exact hsu.symm
    try conv=>whnf
    refine⟨⟨v+1,hv'⟩,by show n-(v+1)<n-v;omega,?_⟩
    (refine Wk.of ?_ ?_ rfl rfl rfl<;>repeat' (first|exact trivial|exact WkD.same _|exact WkO.same _ _ rfl|refine WkD.int ?_|refine WkO.vars rfl ?_|refine⟨?_,?_⟩|(apply q0h;(focus simp;done);all_goals (try dsimp only);omega)|fail))
    ·exact WkO.same _ _ (congrArg (fun q:BiS=>some (DObj.arr 1 (q.1.map u64))) hfe)
    ·exact WkD.eq (congrArg (fun q:BiS=>DV.pv (.bool q.2)) hfe)
  ·have hv':v=n:=q0k h hv;subst hv';refine⟨Unit,fun _=>[(2,.ref 0 0),(3,.ref 1 0),(7,.ref 3 0),(62,.pv (.bool (q0l a b m v (z,false)).2))],fun _=>4,fun _=>[(0,.var (q0e a)),(1,.var (q0e b)),(2,.arr 1 ((q0l a b m v (z,false)).1.map u64)),(3,.var [.buf 2 v])],?_,?_⟩
   ·try conv=>whnf
    exact⟨(),(by exact Wk.s rfl)⟩
   rintro⟨⟩;have hst:=biEnd_step (a:=a) (b:=b) hz;have hch:ch=true:=by assumption
   obtain⟨P,hP⟩:∃ P,P=q0l a b m v (z,false):=⟨_,rfl⟩;rw[<- hP] at hst hOv hzv;rw[hyR] at hst;rw[<- hP];obtain⟨pz,pc⟩:=P;simp only at hst
   try conv=>whnf
   refine⟨⟨(pz,pc),hOv.tab,fun h => ?_,fun h => ?_⟩,?_,(by exact Wk.s rfl)⟩
   ·have h:pc=true:=h;rw[hst,h];rfl
   ·have h:pc=false:=h;rw[h] at hst;exact (hOv.no h).trans hst.symm
   ·show 2*biCnt pz v m+(bif pc then 1 else 0)<2*biCnt z v m+(bif ch then 1 else 0)
    rw[hch]
    cases hq:pc with
    |true=>have h9:biCnt pz v m<biCnt z v m:=hOv.yes hq;simp only[cond_true];omega
    |false=>have h9:pz=z:=hOv.no hq;rw[h9];simp only[cond_true,cond_false];omega
 ·have hzz:z=Z:=hno h
  try conv=>whnf
  rw[hR]
  show PLe (.tup [.sl (z.map u64),.int .i64 0]) _
  rw[hzz];exact .refl _
theorem bi_ff4 {a b c d:Bool} (h:(bif (bif (bif a then true else b) then true else c) then true else d)=false):a=false/\b=false/\c=false/\d=false:=by
 cases a<;>cases b<;>cases c<;>cases d<;>simp_all
def bisB (a b:Mo) (v w:Nat):Bool:=((biAll a b).getD v 0).testBit w
def bisE (a:Mo) (v:Int) (b:Mo) (w:Int):Int:=bif biErr a b != 0 then biErr a b else bif (bif (bif (bif decide (v<0) then true else decide (v>=a.n)) then true else decide (w<0)) then true else decide (w>=b.n)) then 2 else 0
def bisP (a:Mo) (v:Int) (b:Mo) (w:Int):PV:=.tup [.bool (bif bisE a v b w != 0 then false else bisB a b v.toNat w.toNat),.int .i64 (bisE a v b w)]
theorem bs_Bisimilar (a b:Mo) (v w:Int) (hfa:FitM a) (hfb:FitM b):PureFn Tryz.prog 42 [a.pv,.int .i64 v,b.pv,.int .i64 w] (bisP a v b w):=by
 have hBt:=bs_Between a b hfa hfb;obtain⟨R,hR⟩:∃ R,bisP a v b w=R:=⟨_,rfl⟩;rw[hR];have hbad:∀ c,bisE a v b w=c->(c != 0)=true->R=.tup [.bool false,.int .i64 c]:=fun c h hc=>by rw[<- hR,bisP,h,hc];rfl
 have hgood:bisE a v b w=0->R=.tup [.bool (bisB a b v.toNat w.toNat),.int .i64 0]:=fun h=>by rw[<- hR,bisP,h];rfl
 have hE:bisE a v b w=bif biErr a b != 0 then biErr a b else bif (bif (bif (bif decide (v<0) then true else decide (v>=a.n)) then true else decide (w<0)) then true else decide (w>=b.n)) then 2 else 0:=rfl
 have hok:=biErr_ok (a:=a) (b:=b)
 obtain⟨q,hq,hq0,hq1⟩:∃ q,biP a b=.tup [q,.int .i64 (biErr a b)]/\(biErr a b=0->q=.sl ((biAll a b).map u64))/\(biErr a b≠0->q=.nil):=by
  unfold biP
  by_cases h:biErr a b=0
  ·rw[h];exact⟨_,rfl,fun _=>rfl,fun h=>absurd rfl h⟩
  ·rw[show (biErr a b != 0)=true by simpa using h];exact⟨_,rfl,fun h2=>absurd h2 h,fun _=>rfl⟩
 rw[hq] at hBt;clear hR hq;generalize biErr a b=c at hBt hE hok hq0 hq1;refine PureFn.introC [2,4] mixed (fn:=Tryz.f42) rfl rfl rfl fun M w0 => ?_
 try conv=>whnf
 refine⟨Unit,fun _=>[(1,.pv (.int .i64 v)),(3,.pv (.int .i64 w)),(4,.ref 0 0),(6,.ref 1 0),(10,.pv q),(11,.pv (.int .i64 c))],fun _=>2,fun _=>[(0,.var (q0e a)),(1,.var (q0e b))],?_,?_⟩
 ·by_cases hc0:c=0
  ·obtain rfl:=hq0 hc0
   (try conv=>whnf);repeat' (first|(refine PureFn.dy hBt rfl ?_;try conv=>whnf)|fail)
   exact⟨(),(by exact Wk.s rfl)⟩
  ·obtain rfl:=hq1 hc0
   (try conv=>whnf);repeat' (first|(refine PureFn.dy hBt rfl ?_;try conv=>whnf)|fail)
   exact⟨(),(by exact Wk.s rfl)⟩
 rintro⟨⟩
 try conv=>whnf
 refine⟨{ _x:Unit // c=0 },fun _=>[(1,.pv (.int .i64 v)),(3,.pv (.int .i64 w)),(4,.ref 0 0),(6,.ref 1 0),(10,.pv (.sl ((biAll a b).map u64)))],fun _=>2,fun _=>[(0,.var (q0e a)),(1,.var (q0e b))],?_,?_⟩
 ·(try conv=>whnf);repeat' (first|((first|apply And.intro|intro h)<;>try conv=>whnf))
  ·have hc:(c != 0)=true:=h;rw[hbad c (by rw[hE,hc];rfl) hc];exact .refl _
  ·have hc:c=0:=by simpa using h
   refine⟨⟨(),hc⟩,?_⟩
   (refine Wk.of ?_ ?_ rfl rfl rfl<;>repeat' (first|exact trivial|exact WkD.same _|exact WkO.same _ _ rfl|refine⟨?_,?_⟩|fail))
   exact WkD.eq (congrArg DV.pv (hq0 hc))
 rintro⟨_,hc⟩;subst hc;have hE:bisE a v b w=bif (bif (bif (bif decide (v<0) then true else decide (v>=a.n)) then true else decide (w<0)) then true else decide (w>=b.n)) then 2 else 0:=hE
 obtain⟨⟨n,hA⟩,⟨m,hB⟩,_,_⟩:=hok rfl;have hnn:=hA.nn;have hmm:=hB.nn;have hn64:=hA.n64;have hm64:=hB.n64;have hZ:=biAll_tab a b;rw[hnn,hmm,Int.toNat_natCast,Int.toNat_natCast] at hZ
 (try conv=>whnf);repeat' (first|((first|apply And.intro|intro h)<;>try conv=>whnf)|apply True.intro|(apply q0i;rfl)|(apply WhenQ.mk;(try conv=>whnf);rotate_left;(try conv=>whnf);rotate_right)|with_reducible assumption|(apply q0x;with_reducible assumption))
 ·rw[hbad 2 (by rw[hE,show (bif (bif (bif decide (v<0) then true else decide (v>=a.n)) then true else decide (w<0)) then true else decide (w>=b.n))=true from h];rfl) rfl];exact .refl _
 have h0:=bi_ff4 h;rw[show (bif (bif (bif decide (v<0) then true else decide (v>=a.n)) then true else decide (w<0)) then true else decide (w>=b.n))=false from h] at hE;obtain⟨v',rfl⟩:∃ v':Nat,v=(v':Int):=⟨v.toNat,by have:=of_decide_eq_false h0.1;omega⟩;obtain⟨w',rfl⟩:∃ w':Nat,w=(w':Int):=⟨w.toNat,by have:=of_decide_eq_false h0.2.2.1;omega⟩;have hvn:v'<n:=by have:=of_decide_eq_false h0.2.1;omega
 have hwm:w'<m:=by have:=of_decide_eq_false h0.2.2.2;omega
 obtain⟨t1,t2⟩:=hZ.at hvn;have hbit:=bit_and ((biAll a b).getD v' 0) w' (Nat.lt_of_lt_of_le t2 (z0j hm64)) (by omega);refine⟨_,_,rfl,q0a t1,rfl,?_⟩
 (try conv=>whnf);repeat' (first|(apply And.intro<;>try conv=>whnf))
 ·exact Int.natCast_nonneg _
 rw[hgood hE]
 have e:(andU (shrU ((biAll a b).getD v' 0:Nat) (w':Nat)) 1==1)=bisB a b (v':Int).toNat (w':Int).toNat:=by
  rw[hbit,Int.toNat_natCast,Int.toNat_natCast,bisB]
  cases ((biAll a b).getD v' 0).testBit w'<;>rfl
 rw[<- e];exact .refl _
set_option maxHeartbeats 4000000
theorem rm_Has (s w:Nat) (hw:w<64):PureFn Tryz.prog 100 [u64 s,.int .i64 (w:Nat)] (.bool (s.testBit w)):=by
 refine PureFn.intro mixed (fn:=Tryz.f100) rfl rfl rfl fun M w0 => ?_
 have h1:decide ((w:Int)>=0)=true:=decide_eq_true (by omega);have h2:decide ((w:Int)<64)=true:=decide_eq_true (by omega)
 (try conv=>whnf);repeat' (first|(apply And.intro<;>try conv=>whnf)|(intro h;first|exact litz h rfl|try conv=>whnf)|apply True.intro|(apply WhenQ.mk;(try conv=>whnf);rotate_left;(try conv=>whnf);rotate_right)|with_reducible assumption)
 ·exact Int.natCast_nonneg _
 ·refine z0n ?_;rw[h1,h2];exact bit_rem (by omega)
theorem rc_Box (n:Nat) (r:List Nat) (s:Nat) (hn:n<=64) (hl:r.length=n) (hb:∀ s,s∈r->s<2^64):PureFn Tryz.prog 227 [q0b r,i64 n,u64 s] (u64 (boxN n r s)):=by
 refine PureFn.intro mixed (fn:=Tryz.f227) rfl rfl rfl fun M w0 => ?_
 try conv=>whnf
 refine⟨{ i:Nat // i<=n },fun i=>[(0,.pv (q0b r)),(1,.pv (i64 n)),(2,.pv (u64 s)),(7,.pv (u64 (z0g (fun w=>subM (r.getD w 0) s) i.1))),(8,.pv (i64 i.1))],fun _=>0,fun _=>[],fun i=>n-i.1,⟨⟨0,Nat.zero_le _⟩,(by exact Wk.s rfl)⟩,?_⟩;rintro⟨i,hi⟩
 (try conv=>whnf);repeat' (first|((first|apply And.intro|intro h)<;>try conv=>whnf)|(apply q0i;rfl))
 ·have hi':i<n:=q0j h;obtain⟨x,hm,hx⟩:∃ x,r[i]? = some x/\r.getD i 0=x:=⟨_,q0f (by omega),rfl⟩;have hxb:x<2^64:=hb x (List.mem_iff_getElem?.2 ⟨i,hm⟩);have hsb:(z0z (x:Nat) (s:Nat)==0)=subM x s:=andNotU_sub hxb;refine⟨_,_,rfl,q0a hm,rfl,?_⟩
  (try conv=>whnf);repeat' (first|((first|apply And.intro|intro h)<;>try conv=>whnf))
  ·exact Int.natCast_nonneg _
  ·have hq:subM (r.getD i 0) s=true:=by rw[hx,<- hsb];exact h
   refine⟨⟨i+1,hi'⟩,by show n-(i+1)<n-i;omega,?_⟩
   (refine Wk.of ?_ ?_ rfl rfl rfl<;>repeat' (first|exact trivial|exact WkD.same _|refine WkD.int ?_|refine⟨?_,?_⟩|(apply q0h;(focus simp;done);all_goals (try dsimp only);omega)|fail))
   exact or_shl (q:=fun w=>subM (r.getD w 0) s) (w:=i) (by omega) hq
  ·have hq:subM (r.getD i 0) s=false:=by rw[hx,<- hsb];exact h
   refine⟨⟨i+1,hi'⟩,by show n-(i+1)<n-i;omega,?_⟩
   (refine Wk.of ?_ ?_ rfl rfl rfl<;>repeat' (first|exact trivial|exact WkD.same _|refine WkD.int ?_|refine⟨?_,?_⟩|(apply q0h;(focus simp;done);all_goals (try dsimp only);omega)|fail))
   exact congrArg (fun z:Nat=>(z:Int)) (mask_no (q:=fun w=>subM (r.getD w 0) s) hq)
 ·have hi':i=n:=q0k h hi;subst hi';exact .refl _
theorem rnd_one {r:List Nat} {c s e:Nat}:rndR [r.map fun a=>a&&&c] s (e+1)=bif (rndR [r.map fun a=>a&&&c] s e).testBit e then rndR [r.map fun a=>a&&&c] s e |||(r.getD e 0&&&c) else rndR [r.map fun a=>a&&&c] s e:=by
 rw[rndR,inP]
 have:orA [r.map fun a=>a&&&c] e ([r.map fun a=>a&&&c]:List (List Nat)).length=r.getD e 0&&&c:=by
  rw[show ([r.map fun a=>a&&&c]:List (List Nat)).length=1 from rfl,orA_one]
 rw[this]
theorem rc_Paths (n:Nat) (r:List Nat) (c w:Nat) (hn:n<=64) (hl:r.length=n) (hb:∀ s,s∈r->s<2^n) (hc:c<2^64) (hw:w<n):PureFn Tryz.prog 237 [q0b r,i64 n,i64 w,u64 c] (u64 (pathN n r c w)):=by
 refine PureFn.intro mixed (fn:=Tryz.f237) rfl rfl rfl fun M w0 => ?_
 obtain⟨x,hm,hx⟩:∃ x,r[w]? = some x/\r.getD w 0=x:=⟨_,q0f (by omega),rfl⟩;have hb64:∀ s,s∈r->s<2^64:=fun s hs=>Nat.lt_of_lt_of_le (hb s hs) (z0j hn)
 have hxb:x<2^64:=hb64 x (List.mem_iff_getElem?.2 ⟨w,hm⟩);have hxn:x&&&c<2^n:=Nat.lt_of_le_of_lt Nat.and_le_left (hb x (List.mem_iff_getElem?.2 ⟨w,hm⟩));have hR:=rel1_Rel (c:=c) hl hb;have h0:andU (x:Nat) (c:Nat)=((x&&&c:Nat):Int):=andU_nat hxb hc;rw[pathN,hx];generalize hp:x&&&c=p at hxn h0
 (try conv=>whnf);repeat' (first|(apply And.intro<;>try conv=>whnf)|(apply q0i;rfl)|(refine⟨_,_,rfl,q0a (by with_reducible assumption),rfl,?_⟩;try conv=>whnf)|fail)
 refine⟨{ i:Nat // i<=n },fun i=>[(0,.pv (q0b r)),(1,.pv (i64 n)),(3,.pv (u64 c)),(9,.pv (u64 (seqR [r.map fun a=>a&&&c] n p i.1))),(10,.pv (i64 i.1))],fun _=>0,fun _=>[],fun i=>n-i.1,⟨⟨0,Nat.zero_le _⟩,?_⟩,?_⟩
 ·(refine Wk.of ?_ ?_ rfl rfl rfl<;>repeat' (first|exact trivial|exact WkD.same _|refine WkD.int ?_|refine⟨?_,?_⟩|fail))
  exact h0
 rintro⟨i,hi⟩
 (try conv=>whnf);repeat' (first|((first|apply And.intro|intro h)<;>try conv=>whnf))
 ·have hi':i<n:=q0j h;have hsl:=seqR_lt hR hxn i;have hsn:seqR [r.map fun a=>a&&&c] n p (i+1)=rndR [r.map fun a=>a&&&c] (seqR [r.map fun a=>a&&&c] n p i) n:=rfl;refine⟨{ j:Nat // j<=n },fun j=>[(0,.pv (q0b r)),(1,.pv (i64 n)),(3,.pv (u64 c)),(9,.pv (u64 (rndR [r.map fun a=>a&&&c] (seqR [r.map fun a=>a&&&c] n p i) j.1))),(10,.pv (i64 i)),(11,.pv (i64 j.1))],fun _=>0,fun _=>[],fun j=>n-j.1,⟨⟨0,Nat.zero_le _⟩,(by exact Wk.s rfl)⟩,?_⟩;intro j;have hj:=j.2
  (try conv=>whnf);repeat' (first|((first|apply And.intro|intro h)<;>try conv=>whnf))
  ·have hj':j.1<n:=q0j h;obtain⟨y,hy,hyw⟩:∃ y,r[j.1]? = some y/\r.getD j.1 0=y:=⟨_,q0f (by omega),rfl⟩;have hyb:y<2^64:=hb64 y (List.mem_iff_getElem?.2 ⟨j.1,hy⟩);have hr1:=rnd_one (r:=r) (c:=c) (s:=seqR [r.map fun a=>a&&&c] n p i) (e:=j.1);have hrl:rndR [r.map fun a=>a&&&c] (seqR [r.map fun a=>a&&&c] n p i) j.1<2^64:=Nat.lt_of_lt_of_le (rndR_lt hR hsl j.1) (z0j hn);have hH:=rm_Has (rndR [r.map fun a=>a&&&c] (seqR [r.map fun a=>a&&&c] n p i) j.1) j.1 (by omega);have hyc:y&&&c<2^64:=Nat.lt_of_le_of_lt Nat.and_le_left hyb
   (try conv=>whnf);repeat' (first|((first|apply And.intro|intro h)<;>try conv=>whnf)|(apply q0i;rfl)|(refine⟨_,_,rfl,q0a (by with_reducible assumption),rfl,?_⟩;try conv=>whnf)|(refine PureFn.dy hH rfl ?_;try conv=>whnf)|fail)
   ·refine⟨⟨j.1+1,hj'⟩,by show n-(j.1+1)<n-j.1;omega,?_⟩
    (refine Wk.of ?_ ?_ rfl rfl rfl<;>repeat' (first|exact trivial|exact WkD.same _|refine WkD.int ?_|refine⟨?_,?_⟩|(apply q0h;(focus simp;done);all_goals (try dsimp only);omega)|fail))
    rw[hr1,show (rndR [r.map fun a=>a&&&c] (seqR [r.map fun a=>a&&&c] n p i) j.1).testBit j.1=true from h,cond_true,hyw]
    show orU _ (andU (y:Nat) (c:Nat))=_
    rw[andU_nat hyb hc];exact orU_nat hrl hyc
   ·refine⟨⟨j.1+1,hj'⟩,by show n-(j.1+1)<n-j.1;omega,?_⟩
    (refine Wk.of ?_ ?_ rfl rfl rfl<;>repeat' (first|exact trivial|exact WkD.same _|refine WkD.int ?_|refine⟨?_,?_⟩|(apply q0h;(focus simp;done);all_goals (try dsimp only);omega)|fail))
    rw[hr1,show (rndR [r.map fun a=>a&&&c] (seqR [r.map fun a=>a&&&c] n p i) j.1).testBit j.1=false from h];rfl
  ·have hj':j.1=n:=q0k h hj;refine⟨⟨i+1,hi'⟩,by show n-(i+1)<n-i;omega,?_⟩
   (refine Wk.of ?_ ?_ rfl rfl rfl<;>repeat' (first|exact trivial|exact WkD.same _|refine WkD.int ?_|refine⟨?_,?_⟩|(apply q0h;(focus simp;done);all_goals (try dsimp only);omega)|fail))
   show ((rndR [r.map fun a=>a&&&c] (seqR [r.map fun a=>a&&&c] n p i) j.1:Nat):Int)=_
   rw[hj',hsn]
 ·have hi':i=n:=q0k h hi;subst hi';exact .refl _
theorem pathN_lt {n:Nat} {r:List Nat} {c w:Nat} (hl:r.length=n) (hb:∀ s,s∈r->s<2^n):pathN n r c w<2^n:=by
 refine seqR_lt (rel1_Rel hl hb) ?_ n;exact Nat.lt_of_le_of_lt Nat.and_le_left (getD_lt (Nat.two_pow_pos n) hb)
theorem rc_common (n:Nat) (r:List Nat) (c s:Nat) (hn:n<=64) (hl:r.length=n) (hb:∀ s,s∈r->s<2^n) (hc:c<2^64):PureFn Tryz.prog 230 [q0b r,i64 n,u64 c,u64 s] (u64 (comN n r c s)):=by
 refine PureFn.intro mixed (fn:=Tryz.f230) rfl rfl rfl fun M w0 => ?_
 try conv=>whnf
 refine⟨{ i:Nat // i<=n },fun i=>[(0,.pv (q0b r)),(1,.pv (i64 n)),(2,.pv (u64 c)),(3,.pv (u64 s)),(9,.pv (u64 (z0g (fun w=>subM (pathN n r c w) s) i.1))),(10,.pv (i64 i.1))],fun _=>0,fun _=>[],fun i=>n-i.1,⟨⟨0,Nat.zero_le _⟩,(by exact Wk.s rfl)⟩,?_⟩;rintro⟨i,hi⟩
 (try conv=>whnf);repeat' (first|((first|apply And.intro|intro h)<;>try conv=>whnf))
 ·have hi':i<n:=q0j h;have hP:=rc_Paths n r c i hn hl hb hc hi';have hxb:pathN n r c i<2^64:=Nat.lt_of_lt_of_le (pathN_lt hl hb) (z0j hn);have hsb:(z0z (pathN n r c i:Nat) (s:Nat)==0)=subM (pathN n r c i) s:=andNotU_sub hxb;apply PureFn.dcb hP rfl
  ·exact⟨PLe.refl _,PLe.refl _,PLe.refl _,PLe.refl _,trivial⟩
  (try conv=>whnf);repeat' (first|((first|apply And.intro|intro h)<;>try conv=>whnf))
  ·exact Int.natCast_nonneg _
  ·have hq:subM (pathN n r c i) s=true:=by rw[<- hsb];exact h
   refine⟨⟨i+1,hi'⟩,by show n-(i+1)<n-i;omega,?_⟩
   (refine Wk.of ?_ ?_ rfl rfl rfl<;>repeat' (first|exact trivial|exact WkD.same _|refine WkD.int ?_|refine⟨?_,?_⟩|(apply q0h;(focus simp;done);all_goals (try dsimp only);omega)|fail))
   exact or_shl (q:=fun w=>subM (pathN n r c w) s) (w:=i) (by omega) hq
  ·have hq:subM (pathN n r c i) s=false:=by rw[<- hsb];exact h
   refine⟨⟨i+1,hi'⟩,by show n-(i+1)<n-i;omega,?_⟩
   (refine Wk.of ?_ ?_ rfl rfl rfl<;>repeat' (first|exact trivial|exact WkD.same _|refine WkD.int ?_|refine⟨?_,?_⟩|(apply q0h;(focus simp;done);all_goals (try dsimp only);omega)|fail))
   exact congrArg (fun z:Nat=>(z:Int)) (mask_no (q:=fun w=>subM (pathN n r c w) s) hq)
 ·have hi':i=n:=q0k h hi;subst hi';exact .refl _
theorem bif_ff (c:Bool):(bif c then false else false)=false:=by cases c<;>rfl
theorem allN_lt {n:Nat} (hn:n<=64):2^n-1<2^64:=by
 have:=z0j hn;have:=Nat.two_pow_pos n;omega
theorem rm_groupOr (m:Mo) (n:Nat) (hM:OkM m n) (g:Int):PureFn Tryz.prog 236 [m.pv,.int .i64 g,.bool false] (q0b (grpM orF m g 0)):=by
 refine PureFn.introC [3,10,13,15] mixed (fn:=Tryz.f236) rfl rfl rfl fun M w0 => ?_
 have hC:=rm_Check m hM.fit;rw[ok_moI hM] at hC;have e3:((m.rel.map q0b).length:Int)=(m.rel.length:Int):=by simp
 have hag:=hM.ag;have hn64:=hM.n64;have hnn:=hM.nn;have hbad:badGM m g=(bif decide (g<1) then true else decide (g>=shl64 1 (m.rel.length:Int))):=by rw[badGM,ok_moI hM];cases decide (g<1)<;>rfl
 try conv=>whnf
 refine⟨{ _x:Unit // badGM m g=false },fun _=>[(1,.pv (.int .i64 g)),(2,.pv (.bool false)),(3,.ref 0 0)],fun _=>1,fun _=>HM m,?_,?_⟩
 ·(try conv=>whnf);repeat' (first|((first|apply And.intro|intro h)<;>try conv=>whnf)|apply True.intro|(apply WhenQ.mk;(try conv=>whnf);rotate_left;(try conv=>whnf);rotate_right)|with_reducible assumption|(apply q0x;with_reducible assumption)|(refine PureFn.dy hC rfl ?_;try conv=>whnf)|fail)
  ·exact Int.natCast_nonneg _
  ·have hb:badGM m g=true:=by rw[hbad,<- e3];exact h
   rw[grpM,hb];exact .nil
  ·have hb:badGM m g=false:=by rw[hbad,<- e3];exact h
   exact⟨⟨(),hb⟩,(by exact Wk.s rfl)⟩
 rintro⟨_,hb⟩
 have hg:∃ k:Nat,g=(k:Int)/\k<2^62:=by
  rw[hbad] at hb
  cases h1:decide (g<1) with
  |true=>rw[h1] at hb;cases hb
  |false =>
   rw[h1] at hb;have h3:=of_decide_eq_false h1;have h4:=of_decide_eq_false (show decide (g>=shl64 1 (m.rel.length:Int))=false from hb);rw[shl_n hag] at h4;have h5:2^m.rel.length<=2^4:=Nat.pow_le_pow_right (by decide) hag;exact⟨g.toNat,by omega,by omega⟩
 obtain⟨k,rfl,hk⟩:=hg;obtain⟨first,hfi⟩:∃ first:Nat,first=0:=⟨_,rfl⟩
 have hfl:first<2^64:=by rw[hfi];exact Nat.two_pow_pos 64
 have hR:q0b (grpM orF m (k:Int) 0)=.sl ((List.range n).map fun e=>u64 (z0d orF m.rel (k:Int) first e m.rel.length)):=by
  rw[grpM,hb,q0b,hnn,<- hfi]
  show PV.sl (List.map u64 (List.map _ _))=_
  rw[List.map_map];rfl
 rw[hR];have hAll:=rm_All n hn64
 try conv=>whnf
 refine⟨{ e:Nat // e<=n },fun e=>[(1,.pv (i64 k)),(2,.pv (.bool false)),(3,.ref 0 0),(7,.buf 1 ((List.range e.1).map fun e=>u64 (z0d orF m.rel (k:Int) first e m.rel.length)).length),(8,.pv (i64 e.1))],fun _=>2,fun e=>[(0,.var (q0e m)),(1,.arr 1 ((List.range e.1).map fun e=>u64 (z0d orF m.rel (k:Int) first e m.rel.length)))],fun e=>n-e.1,⟨⟨0,Nat.zero_le _⟩,(by refine Wk.of ?_ ?_ rfl rfl rfl<;>repeat' (first|exact trivial|exact WkD.same _|exact WkO.same _ _ rfl|exact WkD.new' rfl rfl rfl|exact WkO.new _ _ rfl|exact rfl|refine⟨?_,?_⟩|fail))⟩,?_⟩;rintro⟨e,he⟩;have hel:((List.range e).map fun e=>u64 (z0d orF m.rel (k:Int) first e m.rel.length)).length<=64:=by simp;omega
 have hes:((List.range e).map fun e=>u64 (z0d orF m.rel (k:Int) first e m.rel.length))++[u64 (z0d orF m.rel (k:Int) first e m.rel.length)]=(List.range (e+1)).map fun e=>u64 (z0d orF m.rel (k:Int) first e m.rel.length):=by rw[List.range_succ,List.map_append];rfl
 (try conv=>whnf);repeat' (first|((first|apply And.intro|intro h)<;>try conv=>whnf)|(apply bleI;rfl))
 ·have hi':e<n:=by rw[hnn] at h;exact q0j h
  refine⟨Unit,fun _=>[(1,.pv (i64 k)),(2,.pv (.bool false)),(3,.ref 0 0),(7,.buf 1 ((List.range e).map fun e=>u64 (z0d orF m.rel (k:Int) first e m.rel.length)).length),(8,.pv (i64 e)),(9,.pv (u64 first))],fun _=>2,fun _=>[(0,.var (q0e m)),(1,.arr 1 ((List.range e).map fun e=>u64 (z0d orF m.rel (k:Int) first e m.rel.length)))],?_,?_⟩
  ·have hAll2:PureFn Tryz.prog 130 [.int .i64 m.n] (u64 (2^n-1)):=by rw[hnn];exact hAll
   (try conv=>whnf);repeat' (first|(apply And.intro<;>try conv=>whnf)|(intro h;first|with_reducible exact ft0 h|try conv=>whnf))
   all_goals subst hfi
   all_goals exact⟨(),(by exact Wk.s rfl)⟩
  rintro⟨⟩
  try conv=>whnf
  refine⟨{ i:Nat // i<=m.rel.length },fun i=>[(1,.pv (i64 k)),(2,.pv (.bool false)),(3,.ref 0 0),(7,.buf 1 ((List.range e).map fun e=>u64 (z0d orF m.rel (k:Int) first e m.rel.length)).length),(8,.pv (i64 e)),(9,.pv (u64 (z0d orF m.rel (k:Int) first e i.1))),(10,.pv (i64 i.1))],fun _=>2,fun _=>[(0,.var (q0e m)),(1,.arr 1 ((List.range e).map fun e=>u64 (z0d orF m.rel (k:Int) first e m.rel.length)))],fun i=>m.rel.length-i.1,⟨⟨0,Nat.zero_le _⟩,(by exact Wk.s rfl)⟩,?_⟩;rintro⟨i,hi⟩;refine⟨{ _x:Unit // i<m.rel.length },fun _=>[(1,.pv (i64 k)),(2,.pv (.bool false)),(3,.ref 0 0),(7,.buf 1 ((List.range e).map fun e=>u64 (z0d orF m.rel (k:Int) first e m.rel.length)).length),(8,.pv (i64 e)),(9,.pv (u64 (z0d orF m.rel (k:Int) first e i))),(10,.pv (i64 i))],fun _=>2,fun _=>[(0,.var (q0e m)),(1,.arr 1 ((List.range e).map fun e=>u64 (z0d orF m.rel (k:Int) first e m.rel.length)))],?_,?_⟩
  ·(try conv=>whnf);repeat' (first|((first|apply And.intro|intro h)<;>try conv=>whnf)|(apply q0p;rfl)|(apply szI;rfl))
   ·exact⟨⟨(),by simpa using q0j h⟩,(by exact Wk.s rfl)⟩
   ·exact z0l (n:=64) hel (by decide)
   ·have hi2:i=m.rel.length:=by
     have:=q0k (m:=(m.rel.map q0b).length) h (by simpa using hi);simpa using this
    subst hi2;refine⟨⟨e+1,hi'⟩,by show n-(e+1)<n-e;omega,?_⟩
    (refine Wk.of ?_ ?_ rfl rfl rfl<;>repeat' (first|exact trivial|exact WkD.same _|exact WkO.same _ _ rfl|exact WkD.eq (congrArg (fun z:List PV=>DV.buf _ z.length) hes)|exact WkO.same _ _ (congrArg (fun z=>some (DObj.arr _ z)) hes)|refine WkD.int ?_|refine⟨?_,?_⟩|(apply q0h;(focus simp;done);all_goals (try dsimp only);omega)|fail))
  rintro⟨_,hi2⟩;obtain⟨r,hn,hr⟩:∃ r,m.rel[i]? = some r/\m.rel.getD i []=r:=⟨_,q0f hi2,rfl⟩;have hrm:r∈m.rel:=List.mem_iff_getElem?.2 ⟨i,hn⟩;obtain⟨x,hm,hx⟩:∃ x,r[e]? = some x/\r.getD e 0=x:=⟨_,q0f (by rw[hM.rows r hrm];exact hi'),rfl⟩;have hxf:x<2^64:=hM.fit.2 r hrm x (List.mem_iff_getElem?.2 ⟨e,hm⟩);have hjl:z0d orF m.rel (k:Int) first e i<2^64:=joinA_lt (fun x y hx hy=>Nat.or_lt_two_pow hx hy) hM.fit.2 hfl i
  have hjs:z0d orF m.rel (k:Int) first e (i+1)=bif k.testBit i then orF (z0d orF m.rel (k:Int) first e i) x else z0d orF m.rel (k:Int) first e i:=by
   rw[z0d,hr,hx,bit64_one hk (by omega)]
  have hbz:(Int.tmod (shr64 (k:Int) i) 2==1)=k.testBit i:=by rw[bit64_rem (by omega)];cases k.testBit i<;>rfl
  refine⟨Unit,fun _=>[(1,.pv (i64 k)),(2,.pv (.bool false)),(3,.ref 0 0),(7,.buf 1 ((List.range e).map fun e=>u64 (z0d orF m.rel (k:Int) first e m.rel.length)).length),(8,.pv (i64 e)),(9,.pv (u64 (z0d orF m.rel (k:Int) first e i))),(10,.pv (i64 i))],fun _=>2,fun _=>[(0,.var (q0e m)),(1,.arr 1 ((List.range e).map fun e=>u64 (z0d orF m.rel (k:Int) first e m.rel.length)))],?_,?_⟩
  ·(try conv=>whnf);repeat' (first|(apply And.intro<;>try conv=>whnf)|(intro h;first|exact litz h rfl|try conv=>whnf)|apply True.intro|(apply q0i;rfl)|(apply WhenQ.mk;(try conv=>whnf);rotate_left;(try conv=>whnf);rotate_right)|with_reducible assumption|(refine⟨_,_,rfl,q0a (by with_reducible assumption),rfl,?_⟩;try conv=>whnf)|fail)
   ·exact Int.natCast_nonneg _
   ·exact absurd ((bif_ff _).symm.trans h) (by decide)
   ·exact⟨(),(by exact Wk.s rfl)⟩
  rintro⟨⟩
  (try conv=>whnf);repeat' (first|(apply And.intro<;>try conv=>whnf)|(intro h;first|exact litz h rfl|try conv=>whnf)|apply True.intro|(apply q0i;rfl)|(apply WhenQ.mk;(try conv=>whnf);rotate_left;(try conv=>whnf);rotate_right)|with_reducible assumption|(refine⟨_,_,rfl,q0a (by with_reducible assumption),rfl,?_⟩;try conv=>whnf)|fail)
  ·exact Int.natCast_nonneg _
  ·have h9:(bif (Int.tmod (shr64 (k:Int) i) 2==1) then !false else false)=true:=h;rw[hbz] at h9;have ht:k.testBit i=true:=by cases q:k.testBit i<;>rw[q] at h9<;>first|rfl|cases h9
   refine⟨⟨i+1,hi2⟩,by show m.rel.length-(i+1)<m.rel.length-i;omega,?_⟩
   (refine Wk.of ?_ ?_ rfl rfl rfl<;>repeat' (first|exact trivial|exact WkD.same _|exact WkO.same _ _ rfl|refine WkD.int ?_|refine⟨?_,?_⟩|(apply q0h;(focus simp;done);all_goals (try dsimp only);omega)|fail))
   rw[hjs,ht,cond_true];exact orU_nat hjl hxf
  ·have h9:(bif (Int.tmod (shr64 (k:Int) i) 2==1) then !false else false)=false:=h;rw[hbz] at h9;have ht:k.testBit i=false:=by cases q:k.testBit i<;>rw[q] at h9<;>first|rfl|cases h9
   refine⟨⟨i+1,hi2⟩,by show m.rel.length-(i+1)<m.rel.length-i;omega,?_⟩
   (refine Wk.of ?_ ?_ rfl rfl rfl<;>repeat' (first|exact trivial|exact WkD.same _|exact WkO.same _ _ rfl|refine WkD.int ?_|refine⟨?_,?_⟩|(apply q0h;(focus simp;done);all_goals (try dsimp only);omega)|fail))
   rw[hjs,ht,cond_false]
 ·have hi':e=n:=by rw[hnn] at h;exact q0k h he
  subst hi';exact .refl _
theorem rm_groupAnd (m:Mo) (n:Nat) (hM:OkM m n) (g:Int):PureFn Tryz.prog 236 [m.pv,.int .i64 g,.bool true] (q0b (grpM andF m g (2^n-1))):=by
 refine PureFn.introC [3,10,13,15] mixed (fn:=Tryz.f236) rfl rfl rfl fun M w0 => ?_
 have hC:=rm_Check m hM.fit;rw[ok_moI hM] at hC;have e3:((m.rel.map q0b).length:Int)=(m.rel.length:Int):=by simp
 have hag:=hM.ag;have hn64:=hM.n64;have hnn:=hM.nn;have hbad:badGM m g=(bif decide (g<1) then true else decide (g>=shl64 1 (m.rel.length:Int))):=by rw[badGM,ok_moI hM];cases decide (g<1)<;>rfl
 try conv=>whnf
 refine⟨{ _x:Unit // badGM m g=false },fun _=>[(1,.pv (.int .i64 g)),(2,.pv (.bool true)),(3,.ref 0 0)],fun _=>1,fun _=>HM m,?_,?_⟩
 ·(try conv=>whnf);repeat' (first|((first|apply And.intro|intro h)<;>try conv=>whnf)|apply True.intro|(apply WhenQ.mk;(try conv=>whnf);rotate_left;(try conv=>whnf);rotate_right)|with_reducible assumption|(apply q0x;with_reducible assumption)|(refine PureFn.dy hC rfl ?_;try conv=>whnf)|fail)
  ·exact Int.natCast_nonneg _
  ·have hb:badGM m g=true:=by rw[hbad,<- e3];exact h
   rw[grpM,hb];exact .nil
  ·have hb:badGM m g=false:=by rw[hbad,<- e3];exact h
   exact⟨⟨(),hb⟩,(by exact Wk.s rfl)⟩
 rintro⟨_,hb⟩
 have hg:∃ k:Nat,g=(k:Int)/\k<2^62:=by
  rw[hbad] at hb
  cases h1:decide (g<1) with
  |true=>rw[h1] at hb;cases hb
  |false =>
   rw[h1] at hb;have h3:=of_decide_eq_false h1;have h4:=of_decide_eq_false (show decide (g>=shl64 1 (m.rel.length:Int))=false from hb);rw[shl_n hag] at h4;have h5:2^m.rel.length<=2^4:=Nat.pow_le_pow_right (by decide) hag;exact⟨g.toNat,by omega,by omega⟩
 obtain⟨k,rfl,hk⟩:=hg;obtain⟨first,hfi⟩:∃ first:Nat,first=(2^n-1):=⟨_,rfl⟩
 have hfl:first<2^64:=by rw[hfi];exact allN_lt hM.n64
 have hR:q0b (grpM andF m (k:Int) (2^n-1))=.sl ((List.range n).map fun e=>u64 (z0d andF m.rel (k:Int) first e m.rel.length)):=by
  rw[grpM,hb,q0b,hnn,<- hfi]
  show PV.sl (List.map u64 (List.map _ _))=_
  rw[List.map_map];rfl
 rw[hR];have hAll:=rm_All n hn64
 try conv=>whnf
 refine⟨{ e:Nat // e<=n },fun e=>[(1,.pv (i64 k)),(2,.pv (.bool true)),(3,.ref 0 0),(7,.buf 1 ((List.range e.1).map fun e=>u64 (z0d andF m.rel (k:Int) first e m.rel.length)).length),(8,.pv (i64 e.1))],fun _=>2,fun e=>[(0,.var (q0e m)),(1,.arr 1 ((List.range e.1).map fun e=>u64 (z0d andF m.rel (k:Int) first e m.rel.length)))],fun e=>n-e.1,⟨⟨0,Nat.zero_le _⟩,(by refine Wk.of ?_ ?_ rfl rfl rfl<;>repeat' (first|exact trivial|exact WkD.same _|exact WkO.same _ _ rfl|exact WkD.new' rfl rfl rfl|exact WkO.new _ _ rfl|exact rfl|refine⟨?_,?_⟩|fail))⟩,?_⟩;rintro⟨e,he⟩;have hel:((List.range e).map fun e=>u64 (z0d andF m.rel (k:Int) first e m.rel.length)).length<=64:=by simp;omega
 have hes:((List.range e).map fun e=>u64 (z0d andF m.rel (k:Int) first e m.rel.length))++[u64 (z0d andF m.rel (k:Int) first e m.rel.length)]=(List.range (e+1)).map fun e=>u64 (z0d andF m.rel (k:Int) first e m.rel.length):=by rw[List.range_succ,List.map_append];rfl
 (try conv=>whnf);repeat' (first|((first|apply And.intro|intro h)<;>try conv=>whnf)|(apply bleI;rfl))
 ·have hi':e<n:=by rw[hnn] at h;exact q0j h
  refine⟨Unit,fun _=>[(1,.pv (i64 k)),(2,.pv (.bool true)),(3,.ref 0 0),(7,.buf 1 ((List.range e).map fun e=>u64 (z0d andF m.rel (k:Int) first e m.rel.length)).length),(8,.pv (i64 e)),(9,.pv (u64 first))],fun _=>2,fun _=>[(0,.var (q0e m)),(1,.arr 1 ((List.range e).map fun e=>u64 (z0d andF m.rel (k:Int) first e m.rel.length)))],?_,?_⟩
  ·have hAll2:PureFn Tryz.prog 130 [.int .i64 m.n] (u64 (2^n-1)):=by rw[hnn];exact hAll
   (try conv=>whnf);repeat' (first|(apply And.intro<;>try conv=>whnf)|(intro h;first|with_reducible exact tf0 h|try conv=>whnf)|(refine PureFn.dy hAll2 rfl ?_;try conv=>whnf)|fail)
   all_goals subst hfi
   all_goals exact⟨(),(by exact Wk.s rfl)⟩
  rintro⟨⟩
  try conv=>whnf
  refine⟨{ i:Nat // i<=m.rel.length },fun i=>[(1,.pv (i64 k)),(2,.pv (.bool true)),(3,.ref 0 0),(7,.buf 1 ((List.range e).map fun e=>u64 (z0d andF m.rel (k:Int) first e m.rel.length)).length),(8,.pv (i64 e)),(9,.pv (u64 (z0d andF m.rel (k:Int) first e i.1))),(10,.pv (i64 i.1))],fun _=>2,fun _=>[(0,.var (q0e m)),(1,.arr 1 ((List.range e).map fun e=>u64 (z0d andF m.rel (k:Int) first e m.rel.length)))],fun i=>m.rel.length-i.1,⟨⟨0,Nat.zero_le _⟩,(by exact Wk.s rfl)⟩,?_⟩;rintro⟨i,hi⟩;refine⟨{ _x:Unit // i<m.rel.length },fun _=>[(1,.pv (i64 k)),(2,.pv (.bool true)),(3,.ref 0 0),(7,.buf 1 ((List.range e).map fun e=>u64 (z0d andF m.rel (k:Int) first e m.rel.length)).length),(8,.pv (i64 e)),(9,.pv (u64 (z0d andF m.rel (k:Int) first e i))),(10,.pv (i64 i))],fun _=>2,fun _=>[(0,.var (q0e m)),(1,.arr 1 ((List.range e).map fun e=>u64 (z0d andF m.rel (k:Int) first e m.rel.length)))],?_,?_⟩
  ·(try conv=>whnf);repeat' (first|((first|apply And.intro|intro h)<;>try conv=>whnf)|(apply q0p;rfl)|(apply szI;rfl))
   ·exact⟨⟨(),by simpa using q0j h⟩,(by exact Wk.s rfl)⟩
   ·exact z0l (n:=64) hel (by decide)
   ·have hi2:i=m.rel.length:=by
     have:=q0k (m:=(m.rel.map q0b).length) h (by simpa using hi);simpa using this
    subst hi2;refine⟨⟨e+1,hi'⟩,by show n-(e+1)<n-e;omega,?_⟩
    (refine Wk.of ?_ ?_ rfl rfl rfl<;>repeat' (first|exact trivial|exact WkD.same _|exact WkO.same _ _ rfl|exact WkD.eq (congrArg (fun z:List PV=>DV.buf _ z.length) hes)|exact WkO.same _ _ (congrArg (fun z=>some (DObj.arr _ z)) hes)|refine WkD.int ?_|refine⟨?_,?_⟩|(apply q0h;(focus simp;done);all_goals (try dsimp only);omega)|fail))
  rintro⟨_,hi2⟩;obtain⟨r,hn,hr⟩:∃ r,m.rel[i]? = some r/\m.rel.getD i []=r:=⟨_,q0f hi2,rfl⟩;have hrm:r∈m.rel:=List.mem_iff_getElem?.2 ⟨i,hn⟩;obtain⟨x,hm,hx⟩:∃ x,r[e]? = some x/\r.getD e 0=x:=⟨_,q0f (by rw[hM.rows r hrm];exact hi'),rfl⟩;have hxf:x<2^64:=hM.fit.2 r hrm x (List.mem_iff_getElem?.2 ⟨e,hm⟩);have hjl:z0d andF m.rel (k:Int) first e i<2^64:=joinA_lt (fun x y hx _=>Nat.lt_of_le_of_lt Nat.and_le_left hx) hM.fit.2 hfl i
  have hjs:z0d andF m.rel (k:Int) first e (i+1)=bif k.testBit i then andF (z0d andF m.rel (k:Int) first e i) x else z0d andF m.rel (k:Int) first e i:=by
   rw[z0d,hr,hx,bit64_one hk (by omega)]
  have hbz:(Int.tmod (shr64 (k:Int) i) 2==1)=k.testBit i:=by rw[bit64_rem (by omega)];cases k.testBit i<;>rfl
  refine⟨Unit,fun _=>[(1,.pv (i64 k)),(2,.pv (.bool true)),(3,.ref 0 0),(7,.buf 1 ((List.range e).map fun e=>u64 (z0d andF m.rel (k:Int) first e m.rel.length)).length),(8,.pv (i64 e)),(9,.pv (u64 (z0d andF m.rel (k:Int) first e (i+1)))),(10,.pv (i64 i))],fun _=>2,fun _=>[(0,.var (q0e m)),(1,.arr 1 ((List.range e).map fun e=>u64 (z0d andF m.rel (k:Int) first e m.rel.length)))],?_,?_⟩
  ·(try conv=>whnf);repeat' (first|(apply And.intro<;>try conv=>whnf)|(intro h;first|exact litz h rfl|try conv=>whnf)|apply True.intro|(apply q0i;rfl)|(apply WhenQ.mk;(try conv=>whnf);rotate_left;(try conv=>whnf);rotate_right)|with_reducible assumption|(refine⟨_,_,rfl,q0a (by with_reducible assumption),rfl,?_⟩;try conv=>whnf)|fail)
   ·exact Int.natCast_nonneg _
   ·have h9:(bif (Int.tmod (shr64 (k:Int) i) 2==1) then true else false)=true:=h;rw[hbz] at h9;have ht:k.testBit i=true:=by cases q:k.testBit i<;>rw[q] at h9<;>first|rfl|cases h9
    refine⟨(),?_⟩
    (refine Wk.of ?_ ?_ rfl rfl rfl<;>repeat' (first|exact trivial|exact WkD.same _|exact WkO.same _ _ rfl|refine WkD.int ?_|refine⟨?_,?_⟩|fail))
    rw[hjs,ht,cond_true];exact andU_nat hjl hxf
   ·have h9:(bif (Int.tmod (shr64 (k:Int) i) 2==1) then true else false)=false:=h;rw[hbz] at h9;have ht:k.testBit i=false:=by cases q:k.testBit i<;>rw[q] at h9<;>first|rfl|cases h9
    refine⟨(),?_⟩
    (refine Wk.of ?_ ?_ rfl rfl rfl<;>repeat' (first|exact trivial|exact WkD.same _|exact WkO.same _ _ rfl|refine WkD.int ?_|refine⟨?_,?_⟩|fail))
    rw[hjs,ht,cond_false]
  rintro⟨⟩
  (try conv=>whnf);repeat' (first|(apply And.intro<;>try conv=>whnf)|(intro h;first|exact litz h rfl|try conv=>whnf)|apply True.intro|(apply q0i;rfl)|(apply WhenQ.mk;(try conv=>whnf);rotate_left;(try conv=>whnf);rotate_right)|with_reducible assumption|(refine⟨_,_,rfl,q0a (by with_reducible assumption),rfl,?_⟩;try conv=>whnf)|fail)
  ·exact Int.natCast_nonneg _
  ·exact absurd ((bif_ff _).symm.trans h) (by decide)
  ·exact⟨⟨i+1,hi2⟩,by show m.rel.length-(i+1)<m.rel.length-i;omega,(by refine Wk.of ?_ ?_ rfl rfl rfl<;>repeat' (first|exact trivial|exact WkD.same _|exact WkO.same _ _ rfl|refine WkD.int ?_|refine⟨?_,?_⟩|(apply q0h;(focus simp;done);all_goals (try dsimp only);omega)|fail))⟩
 ·have hi':e=n:=by rw[hnn] at h;exact q0k h he
  subst hi';exact .refl _
theorem rm_Group (m:Mo) (n:Nat) (hM:OkM m n) (g:Int):PureFn Tryz.prog 228 [m.pv,.int .i64 g] (q0b (grpM orF m g 0)):=by
 refine PureFn.intro mixed (fn:=Tryz.f228) rfl rfl rfl fun M w0 => ?_
 have hG:=rm_groupOr m n hM g;generalize grpM orF m g 0=G at hG
 (try conv=>whnf);repeat' (first|(refine PureFn.dy hG rfl ?_;try conv=>whnf)|fail)
 exact .refl _
theorem rm_Meet (m:Mo) (n:Nat) (hM:OkM m n) (g:Int):PureFn Tryz.prog 229 [m.pv,.int .i64 g] (q0b (grpM andF m g (2^n-1))):=by
 refine PureFn.intro mixed (fn:=Tryz.f229) rfl rfl rfl fun M w0 => ?_
 have hG:=rm_groupAnd m n hM g;generalize grpM andF m g (2^n-1)=G at hG
 (try conv=>whnf);repeat' (first|(refine PureFn.dy hG rfl ?_;try conv=>whnf)|fail)
 exact .refl _
set_option maxHeartbeats 8000000
theorem shl64_nat {i:Nat} (hi:i<62):shl64 1 (i:Nat)=((2^i:Nat):Int):=by
 have:=shl64_one (i:=(i:Int)) (by omega) (by omega);rw[Int.toNat_natCast] at this;exact this
theorem rm_Facts (m:Mo) (n w:Nat) (hf:FitM m) (hM:OkM m n) (hw:w<n):PureFn Tryz.prog 173 [m.pv,.int .i64 (w:Nat)] (.int .i64 (facN m w m.val.length:Nat)):=by
 refine PureFn.introC [3,6] mixed (fn:=Tryz.f173) rfl rfl rfl fun M w0 => ?_
 have hC:=rm_Check m hf;rw[ok_moI hM] at hC;have hnn:=hM.nn;have hfa:=hM.fa;have hn64:=hM.n64
 try conv=>whnf
 refine⟨Unit,fun _=>[(1,.pv (.int .i64 (w:Nat))),(2,.ref 0 0)],fun _=>1,fun _=>[(0,.var (q0e m))],?_,?_⟩
 ·(try conv=>whnf);repeat' (first|((first|apply And.intro|intro h)<;>try conv=>whnf)|apply True.intro|(apply WhenQ.mk;(try conv=>whnf);rotate_left;(try conv=>whnf);rotate_right)|with_reducible assumption|(apply q0x;with_reducible assumption)|(refine PureFn.dy hC rfl ?_;try conv=>whnf)|fail)
  ·exfalso;rw[show decide ((w:Int)<0)=false from decide_eq_false (by omega),show decide ((w:Int)>=m.n)=false from decide_eq_false (by omega)] at h;exact absurd (show false=true from h) (by decide)
  ·exact⟨(),(by exact Wk.s rfl)⟩
 rintro⟨⟩
 try conv=>whnf
 refine⟨{ i:Nat // i<=m.val.length },fun i=>[(1,.pv (.int .i64 (w:Nat))),(2,.ref 0 0),(5,.pv (i64 (facN m w i.1))),(6,.pv (i64 i.1))],fun _=>1,fun _=>[(0,.var (q0e m))],fun i=>m.val.length-i.1,⟨⟨0,Nat.zero_le _⟩,(by exact Wk.s rfl)⟩,?_⟩;rintro⟨i,hi⟩
 (try conv=>whnf);repeat' (first|((first|apply And.intro|intro h)<;>try conv=>whnf))
 ·have hi':i<m.val.length:=by simpa using q0j h
  have hm:m.val[i]? = some m.val[i]:=List.getElem?_eq_getElem hi';have hg:m.val.getD i 0=m.val[i]:=by rw[List.getD_eq_getElem?_getD,hm];rfl
  have hH:=rm_Has m.val[i] w (by omega);have hF:facN m w i<2^i:=maskOf_lt _ _
  have hst:facN m w (i+1)=bif (m.val[i]).testBit w then facN m w i+2^i else facN m w i:=by
   rw[<- hg]
   show z0g _ (i+1)=_
   rw[z0g];have e:=Nat.two_pow_add_eq_or_of_lt hF 1;rw[Nat.mul_one] at e
   cases hb:(m.val.getD i 0).testBit w with
   |true=>show facN m w i |||2^i=facN m w i+2^i;rw[Nat.or_comm,<- e];omega
   |false=>rfl
  generalize m.val[i]=x at hm hH hst;have hF2:facN m w i<2^8:=Nat.lt_of_lt_of_le hF (Nat.pow_le_pow_right (by decide) (by omega));have hi8:2^i<=2^7:=Nat.pow_le_pow_right (by decide) (by omega);have hsh:=shl64_nat (show i<62 by omega)
  have hwr:IntKind.wrap .i64 ((facN m w i:Nat)+shl64 1 (i:Nat))=((facN m w i+2^i:Nat):Int):=by
   rw[hsh];exact q0h (by omega) (by omega) (by omega)
  refine⟨Unit,fun _=>[(1,.pv (.int .i64 (w:Nat))),(2,.ref 0 0),(5,.pv (i64 (facN m w (i+1)))),(6,.pv (i64 i))],fun _=>1,fun _=>[(0,.var (q0e m))],?_,?_⟩
  ·(try conv=>whnf);repeat' (first|((first|apply And.intro|intro h)<;>try conv=>whnf)|(apply q0i;rfl)|(refine⟨_,_,rfl,q0a (by with_reducible assumption),rfl,?_⟩;try conv=>whnf)|(refine PureFn.dy hH rfl ?_;try conv=>whnf)|fail)
   ·exact (show (0:Int)<=(i:Int) by omega)
   ·refine⟨(),?_⟩
    (refine Wk.of ?_ ?_ rfl rfl rfl<;>repeat' (first|exact trivial|exact WkD.same _|exact WkO.same _ _ rfl|refine WkD.int ?_|refine⟨?_,?_⟩|fail))
    have hb:x.testBit w=true:=h;rw[hb,cond_true] at hst;exact hwr.trans (congrArg (fun q:Nat=>(q:Int)) hst.symm)
   ·refine⟨(),?_⟩
    (refine Wk.of ?_ ?_ rfl rfl rfl<;>repeat' (first|exact trivial|exact WkD.same _|exact WkO.same _ _ rfl|refine WkD.int ?_|refine⟨?_,?_⟩|fail))
    have hb:x.testBit w=false:=h;rw[hb,cond_false] at hst;exact congrArg (fun q:Nat=>(q:Int)) hst.symm
  rintro⟨⟩
  try conv=>whnf
  exact⟨⟨i+1,hi'⟩,by show m.val.length-(i+1)<m.val.length-i;omega,(by refine Wk.of ?_ ?_ rfl rfl rfl<;>repeat' (first|exact trivial|exact WkD.same _|exact WkO.same _ _ rfl|refine WkD.int ?_|refine⟨?_,?_⟩|(apply q0h;(focus simp;done);all_goals (try dsimp only);omega)|fail))⟩
 ·have hi':i=m.val.length:=by have:=q0k (m:=(m.val.map u64).length) h (by simpa using hi);simpa using this
  subst hi';exact .refl _
theorem rb_fits (a b:Mo) (hfa:FitM a) (hfb:FitM b):PureFn Tryz.prog 134 [a.pv,b.pv] (.int .i64 (biErr a b)):=by
 have hCa:=rm_Check a hfa;have hCb:=rm_Check b hfb;have e1:((a.rel.map q0b).length:Int)=(a.rel.length:Int):=by simp
 have e2:((b.rel.map q0b).length:Int)=(b.rel.length:Int):=by simp
 have e3:((a.val.map u64).length:Int)=(a.val.length:Int):=by simp
 have e4:((b.val.map u64).length:Int)=(b.val.length:Int):=by simp
 have hR:biErr a b=bif moI a != 0 then moI a else bif moI b != 0 then moI b else bif (bif (((a.rel.map q0b).length:Int) != ((b.rel.map q0b).length:Int)) then true else (((a.val.map u64).length:Int) != ((b.val.map u64).length:Int))) then 1 else 0:=by rw[e1,e2,e3,e4];rfl
 rw[hR];clear hR e1 e2 e3 e4;generalize moI a=ea at hCa |-;generalize moI b=eb at hCb |-;refine PureFn.introC [2,5] mixed (fn:=Tryz.f134) rfl rfl rfl fun M w0 => ?_
 try conv=>whnf
 refine⟨Unit,fun _=>[(2,.ref 0 0),(3,.ref 1 0),(5,.pv (.int .i64 ea))],fun _=>2,fun _=>[(0,.var (q0e a)),(1,.var (q0e b))],?_,?_⟩
 ·(try conv=>whnf);repeat' (first|(refine PureFn.dy hCa rfl ?_;try conv=>whnf)|fail)
  exact⟨(),(by exact Wk.s rfl)⟩
 rintro⟨⟩
 (try conv=>whnf);repeat' (first|((first|apply And.intro|intro h)<;>try conv=>whnf))
 ·have h':(ea != 0)=true:=h;rw[h',cond_true];exact .refl _
 have h1:(ea != 0)=false:=h;rw[h1,cond_false];refine⟨Unit,fun _=>[(2,.ref 0 0),(3,.ref 1 0),(6,.pv (.int .i64 eb))],fun _=>2,fun _=>[(0,.var (q0e a)),(1,.var (q0e b))],?_,?_⟩
 ·(try conv=>whnf);repeat' (first|(refine PureFn.dy hCb rfl ?_;try conv=>whnf)|fail)
  exact⟨(),(by exact Wk.s rfl)⟩
 rintro⟨⟩
 (try conv=>whnf);repeat' (first|((first|apply And.intro|intro h)<;>try conv=>whnf)|apply True.intro|(apply WhenQ.mk;(try conv=>whnf);rotate_left;(try conv=>whnf);rotate_right)|with_reducible assumption|(apply q0x;with_reducible assumption))
 ·have h':(eb != 0)=true:=h;rw[h',cond_true];exact .refl _
 ·have h2:(eb != 0)=false:=by assumption
  rw[h2,cond_false,show (bif (((a.rel.map q0b).length:Int) != ((b.rel.map q0b).length:Int)) then true else (((a.val.map u64).length:Int) != ((b.val.map u64).length:Int)))=true from h];exact .refl _
 ·have h2:(eb != 0)=false:=by assumption
  rw[h2,cond_false,show (bif (((a.rel.map q0b).length:Int) != ((b.rel.map q0b).length:Int)) then true else (((a.val.map u64).length:Int) != ((b.val.map u64).length:Int)))=false from h];exact .refl _
def biTak (p:Nat->Bool) (x:Nat):List Nat:=(List.range x).filter p
theorem biTak_yes {p:Nat->Bool} {x:Nat} (h:p x=true):biTak p (x+1)=biTak p x++[x]:=by rw[biTak,List.range_succ,List.filter_append];simp[biTak,h]
theorem biTak_no {p:Nat->Bool} {x:Nat} (h:p x=false):biTak p (x+1)=biTak p x:=by rw[biTak,List.range_succ,List.filter_append];simp[biTak,h]
theorem biTak_mem {p:Nat->Bool} {x n:Nat} (hx:x<n) (h:p x=true):x∈biTak p n:=List.mem_filter.2 ⟨List.mem_range.2 hx,h⟩
theorem biMeet_add (z:List Nat) (s:Nat) (l:List Nat) (x:Nat):biMeet z s (l++[x])=(biMeet z s l && (z.getD x 0&&&s != 0)):=by rw[biMeet,List.all_append];simp[biMeet]
theorem biOr_add (z l:List Nat) (x:Nat):biOr z (l++[x])=biOr z l |||z.getD x 0:=by rw[biOr,List.foldl_append];rfl
theorem rb_forth (a b:Mo) (n m:Nat) (hA:OkM a n) (hB:OkM b m) (hr:a.rel.length=b.rel.length) (z:List Nat) (hz:BiTab z n m) (i v w:Nat) (hi:i<a.rel.length) (hv:v<n) (hw:w<m) :
  PureFn Tryz.prog 174 [a.pv,b.pv,.sl (z.map u64),i64 i,i64 v,i64 w] (.bool (biForth a b z v w i)):=by
 obtain⟨ra,hai,hav,hal⟩:=biR_at hA hi hv;obtain⟨rb,hbi,hbw,hbl⟩:=biR_at hB (show i<b.rel.length by omega) hw;have hn64:=hA.n64;have hm64:=hB.n64;have hnn:=hA.nn;have ha64:biR a i v<2^64:=Nat.lt_of_lt_of_le hal (z0j hn64);have hb64:biR b i w<2^64:=Nat.lt_of_lt_of_le hbl (z0j hm64);have hfi:biForth a b z v w i=bif biMeet z (biR b i w) (memL (biR a i v)) then biR b i w&&&biOr z (memL (biR a i v))==biR b i w else false:=rfl
 rw[hfi,memL_range hal hn64];clear hfi;generalize biR a i v=sa at *;generalize biR b i w=sb at *;have horl:∀ j,biOr z (biTak sa.testBit j)<2^64:=fun j=>Nat.lt_of_lt_of_le (biOr_lt hz.low' _ _ (Nat.two_pow_pos m)) (z0j hm64)
 obtain⟨R,hR⟩:∃ R,(bif biMeet z sb (biTak sa.testBit n) then sb&&&biOr z (biTak sa.testBit n)==sb else false)=R:=⟨_,rfl⟩;rw[show (List.range n).filter sa.testBit=biTak sa.testBit n from rfl,hR];refine PureFn.introC [2] mixed (fn:=Tryz.f174) rfl rfl rfl fun M w0 => ?_
 try conv=>whnf
 refine⟨Unit,fun _=>[(2,.pv (.sl (z.map u64))),(6,.ref 0 0),(7,.ref 1 0),(13,.pv (u64 sa)),(14,.pv (u64 sb))],fun _=>2,fun _=>[(0,.var (q0e a)),(1,.var (q0e b))],?_,?_⟩
 ·(try conv=>whnf);repeat' (first|(apply And.intro<;>try conv=>whnf)|(apply q0i;rfl)|(refine q0w (by kernel_rfl) ?_;try conv=>whnf)|(refine⟨_,_,rfl,q0a (by with_reducible assumption),rfl,?_⟩;try conv=>whnf)|fail)
  exact⟨(),(by exact Wk.s rfl)⟩
 rintro⟨⟩
 try conv=>whnf
 refine⟨{ x:Nat // x<=n/\biMeet z sb (biTak sa.testBit x)=true },fun x=>[(2,.pv (.sl (z.map u64))),(6,.ref 0 0),(7,.ref 1 0),(13,.pv (u64 sa)),(14,.pv (u64 sb)),(15,.pv (u64 (biOr z (biTak sa.testBit x.1)))),(16,.pv (i64 x.1))],fun _=>2,fun _=>[(0,.var (q0e a)),(1,.var (q0e b))],fun x=>n-x.1,⟨⟨0,Nat.zero_le _,rfl⟩,(by exact Wk.s rfl)⟩,?_⟩;rintro⟨x,hx,hme⟩
 (try conv=>whnf);repeat' (first|((first|apply And.intro|intro h)<;>try conv=>whnf))
 ·have hx':x<n:=by
   have h2:decide ((x:Int)<a.n)=true:=h;have:=of_decide_eq_true h2;omega
  have hH:=rm_Has sa x (by omega);obtain⟨hzx,hzl⟩:=hz.at hx';have hz64:z.getD x 0<2^64:=Nat.lt_of_lt_of_le hzl (z0j hm64);have hand:andU (z.getD x 0:Nat) (sb:Nat)=((z.getD x 0&&&sb:Nat):Int):=andU_nat hz64 hb64;have hox:=horl x;have hor:orU (biOr z (biTak sa.testBit x):Nat) (z.getD x 0:Nat)=((biOr z (biTak sa.testBit x) |||z.getD x 0:Nat):Int):=orU_nat hox hz64
  (try conv=>whnf);repeat' (first|((first|apply And.intro|intro h)<;>try conv=>whnf)|(apply q0i;rfl)|(refine⟨_,_,rfl,q0a (by with_reducible assumption),rfl,?_⟩;try conv=>whnf)|(refine PureFn.dy hH rfl ?_;try conv=>whnf)|fail)
  ·have hb:sa.testBit x=false:=by simpa using h
   have e:=biTak_no hb;refine⟨⟨x+1,hx',by rw[e];exact hme⟩,by show n-(x+1)<n-x;omega,?_⟩
   (refine Wk.of ?_ ?_ rfl rfl rfl<;>repeat' (first|exact trivial|exact WkD.same _|exact WkO.same _ _ rfl|refine WkD.int ?_|refine⟨?_,?_⟩|(apply q0h;(focus simp;done);all_goals (try dsimp only);omega)|fail))
   exact congrArg (fun l=>((biOr z l:Nat):Int)) e.symm
  ·have hb:sa.testBit x=true:=by
    have h3:(!sa.testBit x)=false:=by assumption
    simpa using h3
   have h2:(andU (z.getD x 0:Nat) (sb:Nat)==0)=true:=h;rw[hand] at h2
   have hm0:biMeet z sb (biTak sa.testBit n)=false:=by
    rw[biMeet,List.all_eq_false];exact⟨x,biTak_mem hx' hb,by simp at h2 |-;omega⟩
   rw[<- hR,hm0];exact .refl _
  ·have hb:sa.testBit x=true:=by
    have h3:(!sa.testBit x)=false:=by assumption
    simpa using h3
   have h2:(andU (z.getD x 0:Nat) (sb:Nat)==0)=false:=h;rw[hand] at h2;have e:=biTak_yes hb;refine⟨⟨x+1,hx',by rw[e,biMeet_add,hme,Bool.true_and];simp at h2 |-;omega⟩,by show n-(x+1)<n-x;omega,?_⟩
   (refine Wk.of ?_ ?_ rfl rfl rfl<;>repeat' (first|exact trivial|exact WkD.same _|exact WkO.same _ _ rfl|refine WkD.int ?_|refine⟨?_,?_⟩|(apply q0h;(focus simp;done);all_goals (try dsimp only);omega)|fail))
   exact hor.trans (congrArg (fun q:Nat=>(q:Int)) (by rw[e,biOr_add]))
 ·have hx':x=n:=by
   have h2:decide ((x:Int)<a.n)=false:=h;have:=of_decide_eq_false h2;omega
  subst hx';have han:andU (sb:Nat) (biOr z (biTak sa.testBit x):Nat)=((sb&&&biOr z (biTak sa.testBit x):Nat):Int):=andU_nat hb64 (horl x)
  have e:(andU (sb:Nat) (biOr z (biTak sa.testBit x):Nat)==(sb:Int))=R:=by
   rw[han,<- hR,hme,cond_true]
   by_cases q:sb&&&biOr z (biTak sa.testBit x)=sb
   ·rw[q];simp
   ·rw[show ((sb&&&biOr z (biTak sa.testBit x)==sb):Bool)=false by simpa using q];simp;omega
  rw[<- e];exact .refl _
theorem rb_pair (a b:Mo) (n m:Nat) (hfa:FitM a) (hfb:FitM b) (hA:OkM a n) (hB:OkM b m) (hr:a.rel.length=b.rel.length) (z:List Nat) (hz:BiTab z n m) (v w:Nat) (hv:v<n) (hw:w<m) :
  PureFn Tryz.prog 135 [a.pv,b.pv,.sl (z.map u64),i64 v,i64 w] (.bool (biMt a b z v w)):=by
 have hFa:=rm_Facts a n v hfa hA hv;have hFb:=rm_Facts b m w hfb hB hw;have hag:=hA.ag;obtain⟨R,hR⟩:∃ R,biMt a b z v w=R:=⟨_,rfl⟩;have hfe:(facN a v a.val.length==facN b w b.val.length)=false->R=false:=fun h=>by rw[<- hR,biMt,h];rfl
 have hall:facN a v a.val.length=facN b w b.val.length->(∀ i,i<a.rel.length->biForth a b z v w i=true)->R=true:=fun h1 h2=>by rw[<- hR];exact biForth_all h1 h2
 have hone:∀ i,i<a.rel.length->biForth a b z v w i=false->R=false:=fun i h1 h2=>by rw[<- hR];exact biForth_one h1 h2
 rw[hR];clear hR;generalize facN a v a.val.length=fa at hFa hfe hall;generalize facN b w b.val.length=fb at hFb hfe hall;refine PureFn.introC [3] mixed (fn:=Tryz.f135) rfl rfl rfl fun M w0 => ?_
 try conv=>whnf
 refine⟨{ _x:Unit // fa=fb },fun _=>[(2,.pv (.sl (z.map u64))),(3,.pv (i64 v)),(4,.pv (i64 w)),(5,.ref 0 0),(6,.ref 1 0)],fun _=>2,fun _=>[(0,.var (q0e a)),(1,.var (q0e b))],?_,?_⟩
 ·(try conv=>whnf);repeat' (first|((first|apply And.intro|intro h)<;>try conv=>whnf)|(refine q0w (by kernel_rfl) ?_;try conv=>whnf)|(refine⟨_,(by (conv=>whnf);exact hFa),rfl,?_⟩;try conv=>whnf)|(refine⟨_,(by (conv=>whnf);exact hFb),rfl,?_⟩;try conv=>whnf)|fail)
  ·rw[hfe (by
    have h2:((fa:Int) != (fb:Int))=true:=h
    simp at h2 |-;omega)]
   exact .refl _
  ·exact⟨⟨(),by
    have h2:((fa:Int) != (fb:Int))=false:=h
    simp at h2;omega⟩,(by exact Wk.s rfl)⟩
 rintro⟨_,hff⟩;have hall:=hall hff
 try conv=>whnf
 refine⟨{ i:Nat // i<=a.rel.length/\∀ j,j<i->biForth a b z v w j=true },fun i=>[(2,.pv (.sl (z.map u64))),(3,.pv (i64 v)),(4,.pv (i64 w)),(5,.ref 0 0),(6,.ref 1 0),(21,.pv (i64 (a.rel.map q0b).length)),(22,.pv (i64 i.1))],fun _=>2,fun _=>[(0,.var (q0e a)),(1,.var (q0e b))],fun i=>a.rel.length-i.1,⟨⟨0,Nat.zero_le _,fun j h=>by omega⟩,(by exact Wk.s rfl)⟩,?_⟩;rintro⟨i,hi,hfo⟩
 (try conv=>whnf);repeat' (first|((first|apply And.intro|intro h)<;>try conv=>whnf))
 ·have hi':i<a.rel.length:=by simpa using q0j h
  have hFo:=rb_forth a b n m hA hB hr z hz i v w hi' hv hw;have hone:=hone i hi'
  have hfo2:∀ j,j<i+1->biForth a b z v w i=true->biForth a b z v w j=true:=fun j hj hq=>by
   by_cases e:j<i
   ·exact hfo j e
   ·rw[show j=i by omega];exact hq
  generalize biForth a b z v w i=q at hFo hone hfo2
  (try conv=>whnf);repeat' (first|((first|apply And.intro|intro h)<;>try conv=>whnf)|(refine PureFn.dy hFo rfl ?_;try conv=>whnf)|fail)
  ·rw[hone (by simpa using h)];exact .refl _
  ·exact⟨⟨i+1,hi',fun j hj=>hfo2 j hj (by simpa using h)⟩,by show a.rel.length-(i+1)<a.rel.length-i;omega,(by refine Wk.of ?_ ?_ rfl rfl rfl<;>repeat' (first|exact trivial|exact WkD.same _|exact WkO.same _ _ rfl|refine WkD.int ?_|refine⟨?_,?_⟩|(apply q0h;(focus simp;done);all_goals (try dsimp only);omega)|fail))⟩
 ·have hi':i=a.rel.length:=by have:=q0k (m:=(a.rel.map q0b).length) h (by simpa using hi);simpa using this
  rw[hall fun j hj=>hfo j (by omega)];exact .refl _
theorem sub_bit {s w:Nat} (hs:s<2^64) (h:s.testBit w=true):s-2^w=s ^^^ (s&&&2^w)/\2^w<=s:=by
 have hw:w<64:=Nat.lt_of_not_le fun q=>by
  rw[Nat.testBit_lt_two_pow (Nat.lt_of_lt_of_le hs (Nat.pow_le_pow_right (by decide) q))] at h;cases h
 have hand:s&&&2^w=2^w:=by
  apply Nat.eq_of_testBit_eq;intro i;rw[Nat.testBit_and,Nat.testBit_two_pow]
  by_cases e:w=i
  ·subst e;rw[h];rfl
  ·simp[e]
 have h2w:2^w<2^64:=Nat.pow_lt_pow_right (by decide) hw;have ht:s ^^^ 2^w<2^64:=Nat.xor_lt_two_pow hs h2w
 have key:BitVec.ofNat 66 (s ^^^ 2^w)+BitVec.ofNat 66 (2^w)=BitVec.ofNat 66 (s ^^^ 2^w) |||BitVec.ofNat 66 (2^w):=by
  apply BitVec.add_eq_or_of_and_eq_zero;apply BitVec.eq_of_getLsbD_eq;intro i hi;rw[BitVec.getLsbD_and,BitVec.getLsbD_ofNat,BitVec.getLsbD_ofNat,Nat.testBit_xor,Nat.testBit_two_pow]
  by_cases e:w=i
  ·subst e;rw[h];simp
  ·simp[e]
 have k2:=congrArg BitVec.toNat key;rw[BitVec.toNat_add,BitVec.toNat_or,BitVec.toNat_ofNat,BitVec.toNat_ofNat,Nat.mod_eq_of_lt (show s ^^^ 2^w<2^66 by omega),Nat.mod_eq_of_lt (show 2^w<2^66 by omega),Nat.mod_eq_of_lt (by omega)] at k2
 have k3:(s ^^^ 2^w) |||2^w=s:=by
  apply Nat.eq_of_testBit_eq;intro i;rw[Nat.testBit_or,Nat.testBit_xor,Nat.testBit_two_pow]
  by_cases e:w=i
  ·subst e;rw[h];simp
  ·simp[e]
 rw[k3] at k2;rw[hand];omega
theorem sub_u {x p q:Nat} (h1:x<2^64) (h2:p<=x) (h3:x-p=q):IntKind.wrap .u64 ((x:Int)-(p:Int))=(q:Int):=by
 subst h3;rw[wrapU (by omega) (by omega)];omega
theorem rb_Between (a b:Mo) (hfa:FitM a) (hfb:FitM b):PureFn Tryz.prog 101 [a.pv,b.pv] (biP a b):=by
 have hBo:=rb_fits a b hfa hfb;obtain⟨R,hR⟩:∃ R,biP a b=R:=⟨_,rfl⟩;rw[hR];rw[biP] at hR;have hok:=biErr_ok (a:=a) (b:=b);generalize biErr a b=c at hBo hR hok;refine PureFn.introC [2,4,10] mixed (fn:=Tryz.f101) rfl rfl rfl fun M w0 => ?_
 try conv=>whnf
 refine⟨{ _x:Unit // c=0 },fun _=>[(2,.ref 0 0),(3,.ref 1 0)],fun _=>2,fun _=>[(0,.var (q0e a)),(1,.var (q0e b))],?_,?_⟩
 ·try conv=>whnf
  refine⟨Unit,fun _=>[(2,.ref 0 0),(3,.ref 1 0),(6,.pv (.int .i64 c))],fun _=>2,fun _=>[(0,.var (q0e a)),(1,.var (q0e b))],?_,?_⟩
  ·(try conv=>whnf);repeat' (first|(refine PureFn.dy hBo rfl ?_;try conv=>whnf)|fail)
   exact⟨(),(by exact Wk.s rfl)⟩
  rintro⟨⟩
  (try conv=>whnf);repeat' (first|((first|apply And.intro|intro h)<;>try conv=>whnf))
  ·have h1:(c != 0)=true:=h;rw[<- hR,h1];exact .refl _
  ·exact⟨⟨(),by simpa using h⟩,(by exact Wk.s rfl)⟩
 rintro⟨_,hc⟩;obtain⟨⟨n,hA⟩,⟨m,hB⟩,hr,_⟩:=hok hc;have hR:R=.tup [.sl ((biAll a b).map u64),.int .i64 0]:=by rw[<- hR,hc];rfl
 have hn64:=hA.n64;have hm64:=hB.n64;have hnn:=hA.nn;have hmm:=hB.nn;have hn1:=hA.n1;have hN:a.n.toNat=n:=by rw[hnn];rfl
 have hbi:biAll a b=biEnd a b n m (biZ0 n m):=by rw[biAll,hnn,hmm];rfl
 have hAl:PureFn Tryz.prog 130 [.int .i64 b.n] (u64 (2^m-1)):=by rw[hmm];exact rm_All m hm64
 have hmx:=fun i=>(mixV_len n (fun _=>u64 (2^m-1)) (fun _=>u64 0) i).symm
 have hz1:List.replicate a.n.toNat (PV.int .u64 0)=mixV n (fun _=>u64 (2^m-1)) (fun _=>u64 0) 0:=by rw[hN];exact mixV_rep _ _ _
 have hz2:mixV n (fun _=>u64 (2^m-1)) (fun _=>u64 0) n=(biZ0 n m).map u64:=by rw[mixV_full,biZ0,List.map_replicate];apply List.ext_getElem? ;intro i;rw[List.getElem?_map,List.getElem?_replicate];by_cases hi:i<n<;>simp[hi]
 (try conv=>whnf);repeat' (first|(apply And.intro<;>try conv=>whnf)|(apply Or.inl;try conv=>whnf)|fail)
 ·exact rfl
 ·rw[hnn];exact Int.natCast_nonneg _
 ·show a.n<=((4294967296:Nat):Int)
  omega
 refine⟨Unit,fun _=>[(2,.ref 0 0),(3,.ref 1 0),(7,.buf 2 n)],fun _=>3,fun _=>[(0,.var (q0e a)),(1,.var (q0e b)),(2,.arr 1 ((biZ0 n m).map u64))],?_,?_⟩
 ·try conv=>whnf
  refine⟨{ i:Nat // i<=n },fun i=>[(2,.ref 0 0),(3,.ref 1 0),(7,.buf 2 n),(22,.pv (i64 n)),(23,.pv (i64 i.1))],fun _=>3,fun i=>[(0,.var (q0e a)),(1,.var (q0e b)),(2,.arr 1 (mixV n (fun _=>u64 (2^m-1)) (fun _=>u64 0) i.1))],fun i=>n-i.1,⟨⟨0,Nat.zero_le _⟩,?_⟩,?_⟩
  ·(refine Wk.of ?_ ?_ rfl rfl rfl<;>repeat' (first|exact trivial|exact WkD.same _|exact WkO.same _ _ rfl|refine WkD.int ?_|refine⟨?_,?_⟩|fail))
   all_goals first
    |exact congrArg (fun z:Nat=>(z:Int)) ((List.length_replicate ..).trans hN)
    |exact WkO.same _ _ (congrArg (fun z=>some (DObj.arr 1 z)) hz1)
    |exact WkD.eq (congrArg (DV.buf 2) ((List.length_replicate ..).trans hN))
  rintro⟨i,hi⟩;have hmi:=hmx i;have hmo:=fun h=>mixV_old (n:=n) (p:=fun _=>u64 (2^m-1)) (q:=fun _=>u64 0) (e:=i) h
  have hms:=mixV_set (n:=n) (p:=fun _=>u64 (2^m-1)) (q:=fun _=>u64 0) (e:=i)
  (try conv=>whnf);repeat' (first|((first|apply And.intro|intro h)<;>try conv=>whnf))
  ·have hi':i<n:=q0j h;have hmo:=hmo hi'
   (try conv=>whnf);repeat' (first|(apply And.intro<;>try conv=>whnf)|with_reducible assumption|(refine PureFn.dy hAl rfl ?_;try conv=>whnf)|fail)
   refine⟨i,rfl,hi',?_⟩
   (try conv=>whnf);repeat' (first|(apply And.intro<;>try conv=>whnf)|with_reducible assumption|exact Nat.le_refl 1|(apply ex2;(focus with_reducible assumption);try conv=>whnf)|fail)
   refine⟨⟨i+1,hi'⟩,by show n-(i+1)<n-i;omega,?_⟩
   (refine Wk.of ?_ ?_ rfl rfl rfl<;>repeat' (first|exact trivial|exact WkD.same _|exact WkO.same _ _ rfl|refine WkD.int ?_|refine⟨?_,?_⟩|(apply q0h;(focus simp;done);all_goals (try dsimp only);omega)|fail))
   exact WkO.same _ _ (congrArg (fun z=>some (DObj.arr 1 z)) hms)
  ·have hi':i=n:=q0k h hi;subst hi';refine⟨(),?_⟩
   (refine Wk.of ?_ ?_ rfl rfl rfl<;>repeat' (first|exact trivial|exact WkD.same _|exact WkO.same _ _ rfl|refine⟨?_,?_⟩|fail))
   exact WkO.same _ _ (congrArg (fun z=>some (DObj.arr 1 z)) hz2)
 rintro⟨⟩;clear hz1 hz2 hmx;have hT0:=biZ0_tab n m;obtain⟨Z,hZ⟩:∃ Z,biEnd a b n m (biZ0 n m)=Z:=⟨_,rfl⟩;rw[hbi,hZ] at hR
 try conv=>whnf
 refine⟨{ x:List Nat×Bool // BiTab x.1 n m/\(x.2=true->biEnd a b n m x.1=Z)/\(x.2=false->x.1=Z) },fun x=>[(2,.ref 0 0),(3,.ref 1 0),(7,.buf 2 n),(9,.pv (.bool x.1.2))],fun _=>3,fun x=>[(0,.var (q0e a)),(1,.var (q0e b)),(2,.arr 1 (x.1.1.map u64))],fun x=>2*biCnt x.1.1 n m+(bif x.1.2 then 1 else 0),⟨⟨(biZ0 n m,true),hT0,fun _=>hZ,fun h=>(by cases h)⟩,(by exact Wk.s rfl)⟩,?_⟩;rintro⟨⟨z,ch⟩,hz,hy,hno⟩;simp only at hz hy hno;have hzl:n=(z.map u64).length:=by rw[List.length_map,hz.len]
 (try conv=>whnf);repeat' (first|((first|apply And.intro|intro h)<;>try conv=>whnf)|(apply bleI;rfl)|with_reducible assumption)
 ·have hyR:=hy h;have hO:=fun (k:Nat) (hk:k<=n)=>(BiOk.start hz).pass (a:=a) (b:=b) (k:=k) hk
  refine⟨{ v:Nat // v<=n },fun v=>[(2,.ref 0 0),(3,.ref 1 0),(7,.buf 2 n),(9,.pv (.bool (q0l a b m v.1 (z,false)).2)),(35,.pv (i64 n)),(36,.pv (i64 v.1))],fun _=>3,fun v=>[(0,.var (q0e a)),(1,.var (q0e b)),(2,.arr 1 ((q0l a b m v.1 (z,false)).1.map u64))],fun v=>n-v.1,⟨⟨0,Nat.zero_le _⟩,(by exact Wk.s rfl)⟩,?_⟩;rintro⟨v,hv⟩;have hOv:=hO v hv;have hzv:n=((q0l a b m v (z,false)).1.map u64).length:=by rw[List.length_map,hOv.tab.len]
  (try conv=>whnf);repeat' (first|((first|apply And.intro|intro h)<;>try conv=>whnf))
  ·have hv':v<n:=q0j h;refine⟨{ w:Nat // w<=m },fun w=>[(2,.ref 0 0),(3,.ref 1 0),(7,.buf 2 n),(9,.pv (.bool (biRow a b v w.1 (q0l a b m v (z,false))).2)),(35,.pv (i64 n)),(36,.pv (i64 v)),(10,.pv (i64 v)),(11,.pv (i64 w.1))],fun _=>3,fun w=>[(0,.var (q0e a)),(1,.var (q0e b)),(2,.arr 1 ((biRow a b v w.1 (q0l a b m v (z,false))).1.map u64))],fun w=>m-w.1,⟨⟨0,Nat.zero_le _⟩,(by exact Wk.s rfl)⟩,?_⟩;rintro⟨w,hw⟩;have hOw:=hOv.row (a:=a) (b:=b) hv' (k:=w) (by omega);have hFl:n=((biRow a b v w (q0l a b m v (z,false))).1.map u64).length:=by rw[List.length_map,hOw.tab.len]
   obtain⟨t3,t4⟩:=hOw.tab.at hv';have t5:=q0a (g:=u64) t3
   (try conv=>whnf);repeat' (first|((first|apply And.intro|intro h)<;>try conv=>whnf)|with_reducible assumption)
   ·have hw':w<m:=by
     have h2:decide ((w:Int)<b.n)=true:=h;have:=of_decide_eq_true h2;omega
    have hMt:=rb_pair a b n m hfa hfb hA hB hr (biRow a b v w (q0l a b m v (z,false))).1 hOw.tab v w hv' hw';have hH:=rm_Has ((biRow a b v w (q0l a b m v (z,false))).1.getD v 0) w (by omega);have hst:(biRow a b v (w+1) (q0l a b m v (z,false)))=biStep a b v w (biRow a b v w (q0l a b m v (z,false))):=rfl;rw[biStep] at hst;refine⟨v,rfl,hv',?_⟩
    (try conv=>whnf);repeat' (first|((first|apply And.intro|intro h)<;>try conv=>whnf)|apply True.intro|(apply WhenQ.mk;(try conv=>whnf);rotate_left;(try conv=>whnf);rotate_right)|with_reducible assumption|(apply ex2;(focus with_reducible assumption);try conv=>whnf)|(refine PureFn.dy hH rfl ?_;try conv=>whnf)|(exact PureFn.dcb hMt rfl (by (conv=>whnf);exact⟨hFl,PLe.refl _,PLe.refl _,PLe.refl _,PLe.refl _,PLe.refl _,trivial⟩) ⟨rfl,rfl⟩;try conv=>whnf)|fail)
    ·have hs2:(biRow a b v (w+1) (q0l a b m v (z,false)))=(biClr (biRow a b v w (q0l a b m v (z,false))).1 v w,true):=by rw[hst,show (bif ((biRow a b v w (q0l a b m v (z,false))).1.getD v 0).testBit w then !biMt a b (biRow a b v w (q0l a b m v (z,false))).1 v w else false)=true from h];rfl
     have hb:((biRow a b v w (q0l a b m v (z,false))).1.getD v 0).testBit w=true:=by
      have h3:(bif ((biRow a b v w (q0l a b m v (z,false))).1.getD v 0).testBit w then !biMt a b (biRow a b v w (q0l a b m v (z,false))).1 v w else false)=true:=h
      cases hq:((biRow a b v w (q0l a b m v (z,false))).1.getD v 0).testBit w with
      |true=>rfl
      |false=>rw[hq] at h3;cases h3
     have h64:(biRow a b v w (q0l a b m v (z,false))).1.getD v 0<2^64:=Nat.lt_of_lt_of_le t4 (z0j hm64);obtain⟨h4,h5⟩:=sub_bit h64 hb
     have hval:IntKind.wrap .u64 (((biRow a b v w (q0l a b m v (z,false))).1.getD v 0:Nat)-shlU 1 (w:Nat))=(((biRow a b v w (q0l a b m v (z,false))).1.getD v 0 ^^^ ((biRow a b v w (q0l a b m v (z,false))).1.getD v 0&&&2^w):Nat):Int):=by
      rw[shlU_one (by omega)];exact sub_u h64 h5 h4
     have hset:((biRow a b v w (q0l a b m v (z,false))).1.map u64).set v (PV.int .u64 (IntKind.wrap .u64 (((biRow a b v w (q0l a b m v (z,false))).1.getD v 0:Nat)-shlU 1 (w:Nat))))=(biRow a b v (w+1) (q0l a b m v (z,false))).1.map u64:=by rw[hval,hs2,biClr,List.map_set];rfl
     refine⟨Plan.lin 0 9,[8],by kernel_rfl,?_⟩
     (try conv=>whnf);repeat' (first|(apply And.intro<;>try conv=>whnf)|with_reducible assumption)
     refine⟨v,rfl,hv',?_⟩
     (try conv=>whnf);repeat' (first|(apply And.intro<;>try conv=>whnf)|with_reducible assumption|(apply ex2;(focus with_reducible assumption);try conv=>whnf)|fail)
     ·exact (show (0:Int)<=(w:Int) by omega)
     refine⟨v,rfl,hv',?_⟩
     (try conv=>whnf);repeat' (first|(apply And.intro<;>try conv=>whnf)|with_reducible assumption|exact Nat.le_refl 1|(apply ex2;(focus with_reducible assumption);try conv=>whnf)|fail)
     refine⟨⟨w+1,hw'⟩,by show m-(w+1)<m-w;omega,?_⟩
     (refine Wk.of ?_ ?_ rfl rfl rfl<;>repeat' (first|exact trivial|exact WkD.same _|exact WkO.same _ _ rfl|refine WkD.int ?_|refine⟨?_,?_⟩|(apply q0h;(focus simp;done);all_goals (try dsimp only);omega)|fail))
     all_goals first
      |exact WkO.same _ _ (congrArg (fun z=>some (DObj.arr 1 z)) hset)
      |exact WkD.eq (congrArg (fun q:BiS=>DV.pv (.bool q.2)) hs2.symm)
    ·have hs2:(biRow a b v (w+1) (q0l a b m v (z,false)))=(biRow a b v w (q0l a b m v (z,false))):=by rw[hst,show (bif ((biRow a b v w (q0l a b m v (z,false))).1.getD v 0).testBit w then !biMt a b (biRow a b v w (q0l a b m v (z,false))).1 v w else false)=false from h];rfl
     refine⟨⟨w+1,hw'⟩,by show m-(w+1)<m-w;omega,?_⟩
     (refine Wk.of ?_ ?_ rfl rfl rfl<;>repeat' (first|exact trivial|exact WkD.same _|exact WkO.same _ _ rfl|refine WkD.int ?_|refine⟨?_,?_⟩|(apply q0h;(focus simp;done);all_goals (try dsimp only);omega)|fail))
     all_goals first
      |exact WkO.same _ _ (congrArg (fun q:BiS=>some (DObj.arr 1 (q.1.map u64))) hs2.symm)
      |exact WkD.eq (congrArg (fun q:BiS=>DV.pv (.bool q.2)) hs2.symm)
   ·have hw':w=m:=by
     have h2:decide ((w:Int)<b.n)=false:=h;have:=of_decide_eq_false h2;omega
    subst hw';refine⟨⟨v+1,hv'⟩,by show n-(v+1)<n-v;omega,(by refine Wk.of ?_ ?_ rfl rfl rfl<;>repeat' (first|exact trivial|exact WkD.same _|exact WkO.same _ _ rfl|refine WkD.int ?_|refine⟨?_,?_⟩|(apply q0h;(focus simp;done);all_goals (try dsimp only);omega)|fail))⟩
  ·have hv':v=n:=q0k h hv;subst hv';have hst:=biEnd_step (a:=a) (b:=b) hz;have hch:ch=true:=by assumption
   rw[hyR] at hst;refine⟨⟨q0l a b m v (z,false),hOv.tab,fun h => ?_,fun h => ?_⟩,?_,(by exact Wk.s rfl)⟩
   ·rw[hst,show (q0l a b m v (z,false)).2=true from h];rfl
   ·rw[show (q0l a b m v (z,false)).2=false from h] at hst;exact (hOv.no h).trans hst.symm
   ·show 2*biCnt (q0l a b m v (z,false)).1 v m+(bif (q0l a b m v (z,false)).2 then 1 else 0)<2*biCnt z v m+(bif ch then 1 else 0)
    rw[hch]
    cases hq:(q0l a b m v (z,false)).2 with
    |true=>have h9:=hOv.yes hq;simp only[cond_true];omega
    |false=>have h9:=hOv.no hq;rw[h9];simp only[cond_true,cond_false];omega
 ·have hzz:z=Z:=hno h
  try conv=>whnf
  rw[hR]
  show PLe (.tup [.sl (z.map u64),.int .i64 0]) _
  rw[hzz];exact .refl _
theorem rb_Bisimilar (a b:Mo) (v w:Int) (hfa:FitM a) (hfb:FitM b):PureFn Tryz.prog 47 [a.pv,.int .i64 v,b.pv,.int .i64 w] (bisP a v b w):=by
 have hBt:=rb_Between a b hfa hfb;obtain⟨R,hR⟩:∃ R,bisP a v b w=R:=⟨_,rfl⟩;rw[hR];have hbad:∀ c,bisE a v b w=c->(c != 0)=true->R=.tup [.bool false,.int .i64 c]:=fun c h hc=>by rw[<- hR,bisP,h,hc];rfl
 have hgood:bisE a v b w=0->R=.tup [.bool (bisB a b v.toNat w.toNat),.int .i64 0]:=fun h=>by rw[<- hR,bisP,h];rfl
 have hE:bisE a v b w=bif biErr a b != 0 then biErr a b else bif (bif (bif (bif decide (v<0) then true else decide (v>=a.n)) then true else decide (w<0)) then true else decide (w>=b.n)) then 2 else 0:=rfl
 have hok:=biErr_ok (a:=a) (b:=b)
 obtain⟨q,hq,hq0,hq1⟩:∃ q,biP a b=.tup [q,.int .i64 (biErr a b)]/\(biErr a b=0->q=.sl ((biAll a b).map u64))/\(biErr a b≠0->q=.nil):=by
  unfold biP
  by_cases h:biErr a b=0
  ·rw[h];exact⟨_,rfl,fun _=>rfl,fun h=>absurd rfl h⟩
  ·rw[show (biErr a b != 0)=true by simpa using h];exact⟨_,rfl,fun h2=>absurd h2 h,fun _=>rfl⟩
 rw[hq] at hBt;clear hR hq;generalize biErr a b=c at hBt hE hok hq0 hq1;refine PureFn.introC [2,4] mixed (fn:=Tryz.f47) rfl rfl rfl fun M w0 => ?_
 try conv=>whnf
 refine⟨Unit,fun _=>[(1,.pv (.int .i64 v)),(3,.pv (.int .i64 w)),(4,.ref 0 0),(6,.ref 1 0),(10,.pv q),(11,.pv (.int .i64 c))],fun _=>2,fun _=>[(0,.var (q0e a)),(1,.var (q0e b))],?_,?_⟩
 ·by_cases hc0:c=0
  ·obtain rfl:=hq0 hc0
   (try conv=>whnf);repeat' (first|(refine PureFn.dy hBt rfl ?_;try conv=>whnf)|fail)
   exact⟨(),(by exact Wk.s rfl)⟩
  ·obtain rfl:=hq1 hc0
   (try conv=>whnf);repeat' (first|(refine PureFn.dy hBt rfl ?_;try conv=>whnf)|fail)
   exact⟨(),(by exact Wk.s rfl)⟩
 rintro⟨⟩
 try conv=>whnf
 refine⟨{ _x:Unit // c=0 },fun _=>[(1,.pv (.int .i64 v)),(3,.pv (.int .i64 w)),(4,.ref 0 0),(6,.ref 1 0),(10,.pv (.sl ((biAll a b).map u64)))],fun _=>2,fun _=>[(0,.var (q0e a)),(1,.var (q0e b))],?_,?_⟩
 ·(try conv=>whnf);repeat' (first|((first|apply And.intro|intro h)<;>try conv=>whnf))
  ·have hc:(c != 0)=true:=h;rw[hbad c (by rw[hE,hc];rfl) hc];exact .refl _
  ·have hc:c=0:=by simpa using h
   refine⟨⟨(),hc⟩,?_⟩
   (refine Wk.of ?_ ?_ rfl rfl rfl<;>repeat' (first|exact trivial|exact WkD.same _|exact WkO.same _ _ rfl|refine⟨?_,?_⟩|fail))
   exact WkD.eq (congrArg DV.pv (hq0 hc))
 rintro⟨_,hc⟩;subst hc;have hE:bisE a v b w=bif (bif (bif (bif decide (v<0) then true else decide (v>=a.n)) then true else decide (w<0)) then true else decide (w>=b.n)) then 2 else 0:=hE
 obtain⟨⟨n,hA⟩,⟨m,hB⟩,_,_⟩:=hok rfl;have hnn:=hA.nn;have hmm:=hB.nn;have hn64:=hA.n64;have hm64:=hB.n64;have hZ:=biAll_tab a b;rw[hnn,hmm,Int.toNat_natCast,Int.toNat_natCast] at hZ
 (try conv=>whnf);repeat' (first|((first|apply And.intro|intro h)<;>try conv=>whnf)|apply True.intro|(apply q0i;rfl)|(apply WhenQ.mk;(try conv=>whnf);rotate_left;(try conv=>whnf);rotate_right)|with_reducible assumption|(apply q0x;with_reducible assumption))
 ·rw[hbad 2 (by rw[hE,show (bif (bif (bif decide (v<0) then true else decide (v>=a.n)) then true else decide (w<0)) then true else decide (w>=b.n))=true from h];rfl) rfl];exact .refl _
 have h0:=bi_ff4 h;rw[show (bif (bif (bif decide (v<0) then true else decide (v>=a.n)) then true else decide (w<0)) then true else decide (w>=b.n))=false from h] at hE;obtain⟨v',rfl⟩:∃ v':Nat,v=(v':Int):=⟨v.toNat,by have:=of_decide_eq_false h0.1;omega⟩;obtain⟨w',rfl⟩:∃ w':Nat,w=(w':Int):=⟨w.toNat,by have:=of_decide_eq_false h0.2.2.1;omega⟩;have hvn:v'<n:=by have:=of_decide_eq_false h0.2.1;omega
 have hwm:w'<m:=by have:=of_decide_eq_false h0.2.2.2;omega
 obtain⟨t1,t2⟩:=hZ.at hvn;have hH:=rm_Has ((biAll a b).getD v' 0) w' (by omega);refine⟨_,_,rfl,q0a t1,rfl,?_⟩
 (try conv=>whnf);repeat' (first|(refine PureFn.dy hH rfl ?_;try conv=>whnf)|fail)
 rw[hgood hE];exact .refl _
end Go.Proofs.YtejbieopeicgkaaGreatDoor
