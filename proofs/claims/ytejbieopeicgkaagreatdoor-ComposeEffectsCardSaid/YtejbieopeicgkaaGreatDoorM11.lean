/- Parts of the proof, one after the other: Alike events: some and matched of the program walked. Alike events: matched of the program walked. Alike events: the table, and what sweeping it comes to (plain). Bisimulations between two models: the sweeps of the program (plain). Bisimulations between two models: members and matched of the program walked. Bisimulations between two models: both, Between and Bisimilar of the program walked. Bisimulations between two models: each lies below the one that the sweeps end with (plain). Alike events: alike of the program walked. Alike events: Alike of the program walked. Alike events: the table that the sweeps end with is stable, and the greatest (plain). -/
import Derived.Test.YtejbieopeicgkaaGreatDoorM10
set_option maxRecDepth 100000
set_option maxHeartbeats 4000000
namespace Go.Proofs.YtejbieopeicgkaaGreatDoor
open Go Go.Dv
def rowB (r:List Bool):PV:=.sl (r.map .bool)
def tabPV (z:List (List Bool)):PV:=.sl (z.map rowB)
def zAt (z:List (List Bool)) (g h:Nat):Bool:=(z.getD g []).getD h false
def HAl (a b:Act) (z:List (List Bool)) (g:Nat):List (Nat×DObj):=[(0,.var (cellsA a)),(1,.var (cellsA b)),(2,.var [.pv (tabPV z)]),(3,.var [.pv (i64 g)])]
def anyN (p:Nat→Bool):Nat→Bool
 |0=>false
 |n+1=>bif anyN p n then true else p n
theorem anyN_of {p:Nat→Bool} {k:Nat} (h:p k=true):∀ {n:Nat},k<n→anyN p n=true
 |n+1,hk=>by
  rw[anyN]
  by_cases e:k<n
  ·rw[anyN_of h e];rfl
  ·have:k=n:=by omega
   subst this
   rw[h];cases anyN p k<;>rfl
theorem anyN_no {p:Nat→Bool} {n:Nat} (h1:anyN p n=false) (h2:p n=false):anyN p (n+1)=false:=by rw[anyN,h1,h2];rfl
def someN (s:Nat) (p:Nat→Bool) (n:Nat):Bool:=anyN (fun e=>bif s.testBit e then p e else false) n
structure Tab (z:List (List Bool)) (n m:Nat):Prop where
 len:z.length=n
 row:∀ r,r∈z→r.length=m
theorem Tab.at {z:List (List Bool)} {n m g h:Nat} (hz:Tab z n m) (hg:g<n) (hh:h<m):z[g]? = some (z.getD g [])∧(z.getD g [])[h]? = some (zAt z g h):=by
 have h1:z[g]? = some (z.getD g []):=getD_mem (by rw[hz.len];exact hg)
 refine⟨h1,getD_mem ?_⟩
 rw[hz.row _ (List.mem_iff_getElem?.2 ⟨_,h1⟩)];exact hh
theorem clo_m1 {M:Nat→Prop} {w0:W0} (a b:Act) (z:List (List Bool)) {n m:Nat} (hz:Tab z n m) (g h:Nat) (hg:g<n) (hh:h<m) (base:Nat) (K:DV→DH→Prop) (hK:K (.pv (.bool (zAt z g h))) ⟨4,0,base,objsOf (HAl a b z g)⟩) :
  DC Tryz.prog M w0 144 [.pv (i64 h),.ref 2 0,.ref 3 0] ⟨4,0,base,objsOf (HAl a b z g)⟩ K:=by
 obtain⟨h1,h2⟩:=hz.at hg hh
 generalize zAt z g h=v at h2 hK
 generalize hr:z.getD g []=r at h1 h2
 have i1:=idx_map (g:=rowB) h1
 have i2:=idx_map (g:=PV.bool) h2
 refine DC.weaken (DC.intro mixed (fn:=Tryz.f144) rfl rfl rfl ?_)
 (try conv=>whnf);repeat' (first|(apply And.intro<;>try conv=>whnf)|(apply infoT;rfl)|(refine⟨_,_,rfl,idx_map (by with_reducible assumption),rfl,?_⟩;try conv=>whnf)|fail)
 exact⟨.pv (.bool v),4,HAl a b z g,(by exact Wk.sm rfl rfl rfl rfl rfl),hK⟩
theorem clo_m2 {M:Nat→Prop} {w0:W0} (a b:Act) (z:List (List Bool)) {n m:Nat} (hz:Tab z n m) (g h:Nat) (hg:g<n) (hh:h<m) (base:Nat) (K:DV→DH→Prop) (hK:K (.pv (.bool (zAt z g h))) ⟨4,0,base,objsOf (HAl a b z h)⟩) :
  DC Tryz.prog M w0 145 [.pv (i64 g),.ref 2 0,.ref 3 0] ⟨4,0,base,objsOf (HAl a b z h)⟩ K:=by
 obtain⟨h1,h2⟩:=hz.at hg hh
 generalize zAt z g h=v at h2 hK
 generalize hr:z.getD g []=r at h1 h2
 have i1:=idx_map (g:=rowB) h1
 have i2:=idx_map (g:=PV.bool) h2
 refine DC.weaken (DC.intro mixed (fn:=Tryz.f145) rfl rfl rfl ?_)
 (try conv=>whnf);repeat' (first|(apply And.intro<;>try conv=>whnf)|(apply infoT;rfl)|(refine lin_plan (by kernel_rfl) ?_;try conv=>whnf)|(refine⟨_,_,rfl,idx_map (by with_reducible assumption),rfl,?_⟩;try conv=>whnf)|fail)
 exact⟨.pv (.bool v),4,HAl a b z h,(by exact Wk.sm rfl rfl rfl rfl rfl),hK⟩
theorem cp_some {M:Nat→Prop} {w0:W0} (a b:Act) (z:List (List Bool)) (k:Nat) (s:Nat) (hs:s<2^8) (p:Nat→Bool) (fid:Nat)
  (hc:∀ e,e<8→s.testBit e=true→∀ (M:Nat→Prop) (w0:W0) (base:Nat) (K:DV→DH→Prop),K (.pv (.bool (p e))) ⟨4,0,base,objsOf (HAl a b z k)⟩→DC Tryz.prog M w0 fid [.pv (i64 e),.ref 2 0,.ref 3 0] ⟨4,0,base,objsOf (HAl a b z k)⟩ K)
  (base:Nat) (K:DV→DH→Prop) (hK:K (.pv (.bool (someN s p 8))) ⟨4,0,base,objsOf (HAl a b z k)⟩) :
  DC Tryz.prog M w0 143 [.pv (u64 s),.clo fid [] [.ref 2 0,.ref 3 0]] ⟨4,0,base,objsOf (HAl a b z k)⟩ K:=by
 refine DC.weaken (DC.intro mixed (fn:=Tryz.f143) rfl rfl rfl ?_)
 try conv=>whnf
 refine⟨{ i:Nat // i≤8∧someN s p i=false },fun i=>[(0,.pv (u64 s)),(1,.clo fid [] [.ref 2 0,.ref 3 0]),(6,.pv (i64 i.1))],fun _=>4,fun _=>HAl a b z k,fun i=>8-i.1,⟨⟨0,Nat.zero_le _,rfl⟩,(by exact Wk.sm rfl rfl rfl rfl rfl)⟩,?_⟩
 rintro⟨i,hi,hn⟩
 have hs64:s<2^64:=Nat.lt_of_lt_of_le hs (by decide)
 (try conv=>whnf);repeat' (first|(apply And.intro<;>try conv=>whnf)|(intro h;try conv=>whnf)|apply True.intro|(apply WhenQ.mk;(try conv=>whnf);rotate_left;(try conv=>whnf);rotate_right)|with_reducible assumption|fail)
 ·exact Int.natCast_nonneg _
 ·rename_i h8
  have hi':i<8:=by have:=of_decide_eq_true (show decide ((i:Int)<8)=true from h8);omega
  have hb:s.testBit i=true:=by
   have h2:(andU (shrU s i) 1==1)=true:=h
   rwa [bit_one hs64 (by omega)] at h2
  refine hc i hi' hb _ _ _ _ ?_
  exact⟨rfl,rfl⟩
 ·have hi':i<8:=by have:=of_decide_eq_true (show decide ((i:Int)<8)=true from h);omega
  have hbit:(andU (shrU s i) 1==1)=s.testBit i:=bit_one hs64 (by omega)
  (try conv=>whnf);repeat' (first|(apply And.intro<;>try conv=>whnf)|(intro h;try conv=>whnf)|with_reducible assumption|fail)
  ·have h2:(bif (andU (shrU s i) 1==1) then p i else false)=true:=h
   rw[hbit] at h2
   have:someN s p 8=true:=anyN_of (p:=fun e=>bif s.testBit e then p e else false) h2 hi'
   rw[this] at hK
   exact⟨.pv (.bool true),4,HAl a b z k,(by exact Wk.sm rfl rfl rfl rfl rfl),hK⟩
  ·have h2:(bif (andU (shrU s i) 1==1) then p i else false)=false:=h
   rw[hbit] at h2
   exact⟨⟨i+1,hi',anyN_no hn h2⟩,by show 8-(i+1)<8-i;omega,(by refine Wk.of ?_ ?_ rfl rfl rfl<;>repeat' (first|exact trivial|exact WkD.same _|exact WkO.same _ _ rfl|refine WkD.int ?_|refine⟨?_,?_⟩|(refine wrapA ?_ ?_ ?_;(focus simp;done);(focus (try dsimp only);omega);(focus (try dsimp only);omega))|fail))⟩
 ·have hi':i=8:=by have:=of_decide_eq_false (show decide ((i:Int)<8)=false from h);omega
  subst hi'
  rw[hn] at hK
  exact⟨.pv (.bool false),4,HAl a b z k,(by exact Wk.sm rfl rfl rfl rfl rfl),hK⟩
theorem DC.callA {P:Program} {M:Nat→Prop} {w0:W0} {f:FuncId} {args:List DV} {L:DH} {K:DV→DH→Prop} {q:DV} (n:Nat) (Hl:List (Nat×DObj)) (hag:agr (objsOf Hl) L.get n) (hu:wkU n [] Hl=true) (hnx:Nat.ble n L.next=true) (hlo:Nat.ble L.lo n=true) (hargs:DV.unders n args=true)
  (h:∀ M (K':DV→DH→Prop),K' q ⟨n,L.lo,n,objsOf Hl⟩→DC P M w0.no f args ⟨n,L.lo,n,objsOf Hl⟩ K') (hK:K q L):DC P M w0 f args L K:=by
 simp only[wkU,List.all_nil,Bool.true_and,List.all_eq_true,Bool.and_eq_true] at hu
 exact DC.callS n Hl (fun k hk=>agr_lt hag k hk) (fun q hq=>⟨by have:=(hu q hq).1;rwa [Nat.blt_eq] at this,(hu q hq).2⟩) hnx hlo hargs h hK
def relA (a:Act) (i e:Nat):Nat:=(a.rel.getD i []).getD e 0
def misF (a b:Act) (z:List (List Bool)) (e f i g:Nat):Bool:=bif (relA a i e).testBit g then !someN (relA b i f) (fun h=>zAt z g h) 8 else false
def misB (a b:Act) (z:List (List Bool)) (e f i h:Nat):Bool:=bif (relA b i f).testBit h then !someN (relA a i e) (fun g=>zAt z g h) 8 else false
def misR (a b:Act) (z:List (List Bool)) (e f i:Nat):Bool:=bif anyN (misF a b z e f i) a.pre.length then true else anyN (misB a b z e f i) b.pre.length
def mtI (a b:Act) (z:List (List Bool)) (e f:Nat):Bool:=!anyN (misR a b z e f) a.rel.length
theorem Shp.at {a:Act} {n i e:Nat} (hA:Shp a n) (hi:i<a.rel.length) (he:e<n):(a.rel.map rowPV)[i]? = some (rowPV (a.rel.getD i []))∧((a.rel.getD i []).map u64)[e]? = some (u64 (relA a i e))∧relA a i e<2^n:=by
 have h1:a.rel[i]? = some (a.rel.getD i []):=getD_mem hi
 have hm:=List.mem_iff_getElem?.2 ⟨_,h1⟩
 have h2:(a.rel.getD i [])[e]? = some (relA a i e):=getD_mem (by rw[hA.rows _ hm];exact he)
 exact⟨idx_map h1,idx_map h2,hA.bits _ hm _ (List.mem_iff_getElem?.2 ⟨_,h2⟩)⟩
theorem bitLtN {s n k:Nat} (hs:s<2^n) (h:s.testBit k=true):k<n:=by
 by_cases q:k<n
 ·exact q
 ·have:=Nat.testBit_lt_two_pow (Nat.lt_of_lt_of_le hs (Nat.pow_le_pow_right (by decide) (by omega:n≤k)))
  rw[this] at h;cases h
theorem cp_matched (a b:Act) (n m:Nat) (hA:Shp a n) (hB:Shp b m) (hr:a.rel.length=b.rel.length) (z:List (List Bool)) (hz:Tab z n m) (e f:Nat) (he:e<n) (hf:f<m):PureFn Tryz.prog 108 [a.pv,b.pv,tabPV z,i64 e,i64 f] (.bool (mtI a b z e f)):=by
 have n8:=hA.n8
 have m8:=hB.n8
 have hpa:=hA.pre
 have hpb:=hB.pre
 refine PureFn.intro mixed (fn:=Tryz.f108) rfl rfl rfl fun M w0 => ?_
 try conv=>whnf
 refine⟨{ i:Nat // i≤a.rel.length∧anyN (misR a b z e f) i=false },fun i=>[(3,.pv (i64 e)),(4,.pv (i64 f)),(5,.ref 0 0),(6,.ref 1 0),(7,.ref 2 0),(16,.pv (i64 (a.rel.map rowPV).length)),(17,.pv (i64 i.1))],fun _=>3,fun _=>[(0,.var (cellsA a)),(1,.var (cellsA b)),(2,.var [.pv (tabPV z)])],fun i=>a.rel.length-i.1,⟨⟨0,Nat.zero_le _,rfl⟩,(by exact Wk.sm rfl rfl rfl rfl rfl)⟩,?_⟩
 rintro⟨i,hi,hni⟩
 (try conv=>whnf);repeat' (first|(apply And.intro<;>try conv=>whnf)|(intro h;try conv=>whnf)|fail)
 ·have hi':i<a.rel.length:=by simpa using lt_dec h
  obtain⟨a1,a2,a3⟩:=hA.at hi' he
  obtain⟨b1,b2,b3⟩:=hB.at (by omega:i<b.rel.length) hf
  have hsa:relA a i e<2^8:=Nat.lt_of_lt_of_le a3 (Nat.pow_le_pow_right (by decide) n8)
  have hsb:relA b i f<2^8:=Nat.lt_of_lt_of_le b3 (Nat.pow_le_pow_right (by decide) m8)
  refine⟨{ g:Nat // g≤a.pre.length∧anyN (misF a b z e f i) g=false },fun g=>[(3,.pv (i64 e)),(4,.pv (i64 f)),(5,.ref 0 0),(6,.ref 1 0),(7,.ref 2 0),(16,.pv (i64 (a.rel.map rowPV).length)),(17,.pv (i64 i)),(11,.pv (i64 i)),(22,.pv (i64 (a.pre.map fpv).length)),(23,.pv (i64 g.1))],fun _=>3,fun _=>[(0,.var (cellsA a)),(1,.var (cellsA b)),(2,.var [.pv (tabPV z)])],fun g=>a.pre.length-g.1,⟨⟨0,Nat.zero_le _,rfl⟩,(by exact Wk.sm rfl rfl rfl rfl rfl)⟩,?_⟩
  rintro⟨g,hg,hng⟩
  (try conv=>whnf);repeat' (first|(apply And.intro<;>try conv=>whnf)|(intro h;try conv=>whnf)|fail)
  ·have hg':g<a.pre.length:=by simpa using lt_dec h
   refine⟨Plan.lin 0 25,[22],by kernel_rfl,?_⟩
   have hbit:(andU (shrU (relA a i e) g) 1==1)=(relA a i e).testBit g:=bit_one (Nat.lt_of_lt_of_le hsa (by decide)) (by omega)
   have hso:=fun (M:Nat→Prop) (w0:W0) (base:Nat) (K:DV→DH→Prop)=>cp_some (M:=M) (w0:=w0) a b z g (relA b i f) hsb (fun h=>zAt z g h) 144 (fun h _ hb M w0 base K hK=>clo_m1 a b z hz g h (by omega) (bitLtN b3 hb) base K hK) base K
   generalize hra:a.rel.getD i []=ra at a1 a2
   generalize hrb:b.rel.getD i []=rb at b1 b2
   (try conv=>whnf);repeat' (first|(apply And.intro<;>try conv=>whnf)|(intro h;try conv=>whnf)|apply True.intro|(apply infoT;rfl)|(apply WhenQ.mk;(try conv=>whnf);rotate_left;(try conv=>whnf);rotate_right)|with_reducible assumption|(refine⟨i,_,rfl,a1,rfl,?_⟩;try conv=>whnf)|(refine⟨i,_,rfl,b1,rfl,?_⟩;try conv=>whnf)|(refine⟨e,_,rfl,a2,rfl,?_⟩;try conv=>whnf)|(refine⟨f,_,rfl,b2,rfl,?_⟩;try conv=>whnf)|(refine DC.callA (q:=.pv (.bool (someN (relA b i f) (fun h=>zAt z g h) 8))) 4 (HAl a b z g) ⟨rfl,rfl,rfl,rfl,trivial⟩ rfl rfl rfl rfl (fun M' K' hK'=>hso M' _ _ K' hK') ?_;try conv=>whnf)|fail)
   ·exact Int.natCast_nonneg _
   ·have h2:(bif (andU (shrU (relA a i e) g) 1==1) then !someN (relA b i f) (fun h=>zAt z g h) 8 else false)=true:=h
    rw[hbit] at h2
    have h3:misF a b z e f i g=true:=h2
    have h4:misR a b z e f i=true:=by rw[misR,anyN_of h3 hg'];rfl
    exact le_bool (by rw[mtI,anyN_of h4 hi'];rfl)
   ·have h2:(bif (andU (shrU (relA a i e) g) 1==1) then !someN (relA b i f) (fun h=>zAt z g h) 8 else false)=false:=h
    rw[hbit] at h2
    exact⟨⟨g+1,hg',anyN_no hng h2⟩,by show a.pre.length-(g+1)<a.pre.length-g;omega,(by refine Wk.of ?_ ?_ rfl rfl rfl<;>repeat' (first|exact trivial|exact WkD.same _|exact WkO.same _ _ rfl|refine WkD.int ?_|refine⟨?_,?_⟩|(refine wrapA ?_ ?_ ?_;(focus simp;done);(focus (try dsimp only);omega);(focus (try dsimp only);omega))|fail))⟩
  ·have hg':g=a.pre.length:=by have:=ge_dec (m:=(a.pre.map fpv).length) h (by simpa using hg);simpa using this
   subst hg'
   refine⟨{ k:Nat // k≤b.pre.length∧anyN (misB a b z e f i) k=false },fun k=>[(3,.pv (i64 e)),(4,.pv (i64 f)),(5,.ref 0 0),(6,.ref 1 0),(7,.ref 2 0),(16,.pv (i64 (a.rel.map rowPV).length)),(17,.pv (i64 i)),(11,.pv (i64 i)),(54,.pv (i64 (b.pre.map fpv).length)),(55,.pv (i64 k.1))],fun _=>3,fun _=>[(0,.var (cellsA a)),(1,.var (cellsA b)),(2,.var [.pv (tabPV z)])],fun k=>b.pre.length-k.1,⟨⟨0,Nat.zero_le _,rfl⟩,(by exact Wk.sm rfl rfl rfl rfl rfl)⟩,?_⟩
   rintro⟨k,hk,hnk⟩
   (try conv=>whnf);repeat' (first|(apply And.intro<;>try conv=>whnf)|(intro h;try conv=>whnf)|fail)
   ·have hk':k<b.pre.length:=by simpa using lt_dec h
    refine⟨Plan.lin 0 25,[22],by kernel_rfl,?_⟩
    have hbit:(andU (shrU (relA b i f) k) 1==1)=(relA b i f).testBit k:=bit_one (Nat.lt_of_lt_of_le hsb (by decide)) (by omega)
    have hso:=fun (M:Nat→Prop) (w0:W0) (base:Nat) (K:DV→DH→Prop)=>cp_some (M:=M) (w0:=w0) a b z k (relA a i e) hsa (fun g=>zAt z g k) 145 (fun g _ hb M w0 base K hK=>clo_m2 a b z hz g k (bitLtN a3 hb) (by omega) base K hK) base K
    generalize hra:a.rel.getD i []=ra at a1 a2
    generalize hrb:b.rel.getD i []=rb at b1 b2
    (try conv=>whnf);repeat' (first|(apply And.intro<;>try conv=>whnf)|(intro h;try conv=>whnf)|apply True.intro|(apply infoT;rfl)|(apply WhenQ.mk;(try conv=>whnf);rotate_left;(try conv=>whnf);rotate_right)|with_reducible assumption|(refine⟨i,_,rfl,a1,rfl,?_⟩;try conv=>whnf)|(refine⟨i,_,rfl,b1,rfl,?_⟩;try conv=>whnf)|(refine⟨e,_,rfl,a2,rfl,?_⟩;try conv=>whnf)|(refine⟨f,_,rfl,b2,rfl,?_⟩;try conv=>whnf)|(refine DC.callA (q:=.pv (.bool (someN (relA a i e) (fun g=>zAt z g k) 8))) 4 (HAl a b z k) ⟨rfl,rfl,rfl,rfl,trivial⟩ rfl rfl rfl rfl (fun M' K' hK'=>hso M' _ _ K' hK') ?_;try conv=>whnf)|fail)
    ·exact Int.natCast_nonneg _
    ·have h2:(bif (andU (shrU (relA b i f) k) 1==1) then !someN (relA a i e) (fun g=>zAt z g k) 8 else false)=true:=h
     rw[hbit] at h2
     have h3:misB a b z e f i k=true:=h2
     have h4:misR a b z e f i=true:=by rw[misR,anyN_of h3 hk'];cases anyN (misF a b z e f i) a.pre.length<;>rfl
     exact le_bool (by rw[mtI,anyN_of h4 hi'];rfl)
    ·have h2:(bif (andU (shrU (relA b i f) k) 1==1) then !someN (relA a i e) (fun g=>zAt z g k) 8 else false)=false:=h
     rw[hbit] at h2
     exact⟨⟨k+1,hk',anyN_no hnk h2⟩,by show b.pre.length-(k+1)<b.pre.length-k;omega,(by refine Wk.of ?_ ?_ rfl rfl rfl<;>repeat' (first|exact trivial|exact WkD.same _|exact WkO.same _ _ rfl|refine WkD.int ?_|refine⟨?_,?_⟩|(refine wrapA ?_ ?_ ?_;(focus simp;done);(focus (try dsimp only);omega);(focus (try dsimp only);omega))|fail))⟩
   ·have hk':k=b.pre.length:=by have:=ge_dec (m:=(b.pre.map fpv).length) h (by simpa using hk);simpa using this
    subst hk'
    have hag:=hA.ag
    exact⟨⟨i+1,hi',anyN_no hni (by rw[misR,hng,hnk];rfl)⟩,by show a.rel.length-(i+1)<a.rel.length-i;omega,(by refine Wk.of ?_ ?_ rfl rfl rfl<;>repeat' (first|exact trivial|exact WkD.same _|exact WkO.same _ _ rfl|refine WkD.int ?_|refine⟨?_,?_⟩|(refine wrapA ?_ ?_ ?_;(focus simp;done);(focus (try dsimp only);omega);(focus (try dsimp only);omega))|fail))⟩
 ·have hi':i=a.rel.length:=by have:=ge_dec (m:=(a.rel.map rowPV).length) h (by simpa using hi);simpa using this
  subst hi'
  refine le_bool ?_
  rw[mtI,hni];rfl
set_option maxHeartbeats 400000
def z0B (a b:Act) (e f:Nat):Bool:=bif eqL asS (a.post.getD e []) (b.post.getD f []) then same (a.pre.getD e []) (b.pre.getD f []) else false
def row0 (a b:Act) (e:Nat):List Bool:=(List.range b.pre.length).map (z0B a b e)
def tab0 (a b:Act):List (List Bool):=(List.range a.pre.length).map (row0 a b)
def clrT (z:List (List Bool)) (e f:Nat):List (List Bool):=z.set e ((z.getD e []).set f false)
def stepZ (a b:Act) (e f:Nat) (s:List (List Bool)×Bool):List (List Bool)×Bool:=bif (bif zAt s.1 e f then !mtI a b s.1 e f else false) then (clrT s.1 e f,true) else s
def rowZ (a b:Act) (e:Nat):Nat→List (List Bool)×Bool→List (List Bool)×Bool
 |0,s=>s
 |k+1,s=>stepZ a b e k (rowZ a b e k s)
def passZ (a b:Act) (m:Nat):Nat→List (List Bool)×Bool→List (List Bool)×Bool
 |0,s=>s
 |k+1,s=>rowZ a b k m (passZ a b m k s)
def iterZ (a b:Act) (n m:Nat):Nat→List (List Bool)→List (List Bool)
 |0,z=>z
 |k+1,z=>bif (passZ a b m n (z,false)).2 then iterZ a b n m k (passZ a b m n (z,false)).1 else z
def cntR (p:Nat→Bool):Nat→Nat
 |0=>0
 |n+1=>cntR p n+(bif p n then 1 else 0)
theorem cntR_le {p q:Nat→Bool}:∀ {n:Nat},(∀ k,k<n→q k=true→p k=true)→cntR q n≤cntR p n
 |0,_=>Nat.le_refl _
 |n+1,h=>by
  have ih:=cntR_le (n:=n) fun k hk=>h k (by omega)
  have hn:=h n (by omega)
  rw[cntR,cntR]
  cases hq:q n with
  |true=>rw[hn hq];simp only[cond_true];omega
  |false=>cases p n<;>simp only[cond_true,cond_false]<;>omega
theorem cntR_lt {p q:Nat→Bool} {k:Nat} (hp:p k=true) (hq:q k=false):∀ {n:Nat},k<n→(∀ k,k<n→q k=true→p k=true)→cntR q n<cntR p n
 |n+1,hk,h=>by
  rw[cntR,cntR]
  by_cases e:k=n
  ·subst e
   have ih:=cntR_le (n:=k) fun j hj=>h j (by omega)
   rw[hp,hq];simp only[cond_true,cond_false];omega
  ·have ih:=cntR_lt hp hq (n:=n) (by omega) fun j hj=>h j (by omega)
   have hn:=h n (by omega)
   cases hqn:q n with
   |true=>rw[hn hqn];simp only[cond_true];omega
   |false=>cases p n<;>simp only[cond_true,cond_false]<;>omega
def cntZ (z:List (List Bool)) (n m:Nat):Nat:=cntR (fun k=>zAt z (k / m) (k % m)) (n*m)
theorem zAt_clr (z:List (List Bool)) (e f e' f':Nat):zAt (clrT z e f) e' f'=true→zAt z e' f'=true∧¬ (e'=e∧f'=f):=by
 unfold zAt clrT
 intro h
 simp only[List.getD_eq_getElem?_getD,List.getElem?_set] at h ⊢
 by_cases q:e=e'
 ·subst q
  by_cases q2:e<z.length
  ·rw[if_pos rfl,if_pos q2] at h
   simp only[Option.getD_some,List.getElem?_set] at h
   by_cases q3:f=f'
   ·subst q3
    rw[if_pos rfl] at h
    split at h<;>cases h
   ·rw[if_neg q3] at h
    exact⟨h,fun g=>q3 g.2.symm⟩
  ·rw[if_pos rfl,if_neg q2] at h
   cases h
 ·rw[if_neg q] at h
  exact⟨h,fun g=>q g.1.symm⟩
theorem Tab.clr {z:List (List Bool)} {n m:Nat} (hz:Tab z n m) {e:Nat} (f:Nat) (he:e<n):Tab (clrT z e f) n m:=by
 refine⟨by rw[clrT,List.length_set,hz.len],fun r hr => ?_⟩
 rcases List.mem_or_eq_of_mem_set hr with hr|hr
 ·exact hz.row r hr
 ·have he:e<z.length:=by rw[hz.len];exact he
  rw[hr,List.length_set]
  exact hz.row _ (by rw[List.getD_eq_getElem?_getD,List.getElem?_eq_getElem he];exact List.getElem_mem he)
structure OkS (n m:Nat) (z:List (List Bool)) (s:List (List Bool)×Bool):Prop where
 tab:Tab s.1 n m
 sub:∀ e f,zAt s.1 e f=true→zAt z e f=true
 yes:s.2=true→cntZ s.1 n m<cntZ z n m
 no:s.2=false→s.1=z
theorem OkS.step {a b:Act} {n m:Nat} {z:List (List Bool)} {s:List (List Bool)×Bool} (h:OkS n m z s) {e f:Nat} (he:e<n) (hf:f<m):OkS n m z (stepZ a b e f s):=by
 unfold stepZ
 cases hz:zAt s.1 e f with
 |false=>exact h
 |true =>
  cases hm:mtI a b s.1 e f with
  |true=>exact h
  |false =>
   show OkS n m z (clrT s.1 e f,true)
   refine⟨h.tab.clr f he,fun e' f' h'=>h.sub e' f' (zAt_clr _ _ _ _ _ h').1,fun _ => ?_,fun h'=>by cases h'⟩
   have hk:e*m+f<n*m:=by
    have:=Nat.mul_le_mul_right m (show e+1≤n from he)
    rw[Nat.add_mul,Nat.one_mul] at this
    omega
   have hd:(e*m+f) / m=e:=by rw[Nat.add_comm,Nat.add_mul_div_right _ _ (by omega),Nat.div_eq_of_lt hf,Nat.zero_add]
   have hr:(e*m+f) % m=f:=by rw[Nat.add_comm,Nat.add_mul_mod_self_right,Nat.mod_eq_of_lt hf]
   refine Nat.lt_of_lt_of_le (cntR_lt (k:=e*m+f) (p:=fun k=>zAt s.1 (k / m) (k % m)) (by simp only[hd,hr];exact hz) ?_ hk fun k _ hq=>(zAt_clr _ _ _ _ _ hq).1) (cntR_le fun k _ hq=>h.sub _ _ hq)
   simp only[hd,hr]
   cases hq:zAt (clrT s.1 e f) e f with
   |false=>rfl
   |true=>exact absurd ⟨rfl,rfl⟩ (zAt_clr _ _ _ _ _ hq).2
theorem OkS.row {a b:Act} {n m:Nat} {z:List (List Bool)} {e:Nat} (he:e<n):∀ {k:Nat} {s:List (List Bool)×Bool},OkS n m z s→k≤m→OkS n m z (rowZ a b e k s)
 |0,_,h,_=>h
 |k+1,_,h,hk=>(h.row he (k:=k) (by omega)).step he (by omega)
theorem OkS.pass {a b:Act} {n m:Nat} {z:List (List Bool)}:∀ {k:Nat} {s:List (List Bool)×Bool},OkS n m z s→k≤n→OkS n m z (passZ a b m k s)
 |0,_,h,_=>h
 |k+1,_,h,hk=>(h.pass (k:=k) (by omega)).row (by omega) (Nat.le_refl m)
theorem OkS.start {n m:Nat} {z:List (List Bool)} (hz:Tab z n m):OkS n m z (z,false):=⟨hz,fun _ _ h=>h,fun h=>(by cases h),fun _=>rfl⟩
def alkI (a b:Act) (z:List (List Bool)):List (List Bool):=iterZ a b a.pre.length b.pre.length (cntZ z a.pre.length b.pre.length+1) z
theorem iter_more {a b:Act} {n m:Nat}:∀ (k:Nat) (z:List (List Bool)),Tab z n m→cntZ z n m<k→iterZ a b n m k z=iterZ a b n m (cntZ z n m+1) z
 |k+1,z,hz,hk=>by
  have hO:=(OkS.start hz).pass (a:=a) (b:=b) (k:=n) (Nat.le_refl n)
  rw[iterZ,iterZ]
  cases h:(passZ a b m n (z,false)).2 with
  |false=>rfl
  |true =>
   have hc:=hO.yes h
   rw[cond_true,cond_true,iter_more k _ hO.tab (by omega)]
   by_cases e:cntZ (passZ a b m n (z,false)).1 n m+1=cntZ z n m
   ·rw[e]
   ·exact (iter_more (cntZ z n m) _ hO.tab hc).symm
theorem alk_step {a b:Act} {z:List (List Bool)} (hz:Tab z a.pre.length b.pre.length):alkI a b z=bif (passZ a b b.pre.length a.pre.length (z,false)).2 then alkI a b (passZ a b b.pre.length a.pre.length (z,false)).1 else z:=by
 have hO:=(OkS.start hz).pass (a:=a) (b:=b) (k:=a.pre.length) (Nat.le_refl _)
 rw[alkI,iterZ]
 cases h:(passZ a b b.pre.length a.pre.length (z,false)).2 with
 |false=>rfl
 |true=>exact iter_more _ _ hO.tab (hO.yes h)
theorem tab0_tab (a b:Act):Tab (tab0 a b) a.pre.length b.pre.length:=⟨by simp[tab0],fun r hr=>by
 obtain⟨e,_,rfl⟩:=List.mem_map.1 hr
 simp[row0]⟩
theorem iter_tab {a b:Act} {n m:Nat}:∀ (k:Nat) (z:List (List Bool)),Tab z n m→Tab (iterZ a b n m k z) n m
 |0,_,hz=>hz
 |k+1,z,hz=>by
  have hO:=(OkS.start hz).pass (a:=a) (b:=b) (k:=n) (Nat.le_refl n)
  rw[iterZ]
  cases (passZ a b m n (z,false)).2 with
  |false=>exact hz
  |true=>exact iter_tab k _ hO.tab
theorem alk_tab (a b:Act):Tab (alkI a b (tab0 a b)) a.pre.length b.pre.length:=iter_tab _ _ (tab0_tab a b)
def biR (m:Mo) (i v:Nat):Nat:=(m.rel.getD i []).getD v 0
def biOr (z:List Nat) (l:List Nat):Nat:=l.foldl (fun s x=>s |||z.getD x 0) 0
def biMeet (z:List Nat) (s:Nat) (l:List Nat):Bool:=l.all fun x=>z.getD x 0&&&s != 0
def biForth (a b:Mo) (z:List Nat) (v w i:Nat):Bool:=bif biMeet z (biR b i w) (memL (biR a i v)) then biR b i w&&&biOr z (memL (biR a i v))==biR b i w else false
def biMt (a b:Mo) (z:List Nat) (v w:Nat):Bool:=bif facN a v a.val.length==facN b w b.val.length then (List.range a.rel.length).all (biForth a b z v w) else false
def biClr (z:List Nat) (v w:Nat):List Nat:=z.set v (z.getD v 0 ^^^ (z.getD v 0&&&2^w))
abbrev BiS:=List Nat×Bool
def biStep (a b:Mo) (v w:Nat) (s:BiS):BiS:=bif (bif (s.1.getD v 0).testBit w then !biMt a b s.1 v w else false) then (biClr s.1 v w,true) else s
def biRow (a b:Mo) (v:Nat):Nat→BiS→BiS
 |0,s=>s
 |k+1,s=>biStep a b v k (biRow a b v k s)
def biPass (a b:Mo) (m:Nat):Nat→BiS→BiS
 |0,s=>s
 |k+1,s=>biRow a b k m (biPass a b m k s)
def biIter (a b:Mo) (n m:Nat):Nat→List Nat→List Nat
 |0,z=>z
 |k+1,z=>bif (biPass a b m n (z,false)).2 then biIter a b n m k (biPass a b m n (z,false)).1 else z
structure BiTab (z:List Nat) (n m:Nat):Prop where
 len:z.length=n
 low:∀ s,s∈z→s<2^m
theorem BiTab.at {z:List Nat} {n m v:Nat} (h:BiTab z n m) (hv:v<n):z[v]? = some (z.getD v 0)∧z.getD v 0<2^m:=by
 have h1:z[v]? = some (z.getD v 0):=getD_mem (by rw[h.len];exact hv)
 exact⟨h1,h.low _ (List.mem_iff_getElem?.2 ⟨v,h1⟩)⟩
theorem biSet_getD (z:List Nat) (v x e:Nat):(z.set v x).getD e 0=if e=v∧v<z.length then x else z.getD e 0:=by
 rw[List.getD_eq_getElem?_getD,List.getD_eq_getElem?_getD,List.getElem?_set]
 by_cases h:v=e
 ·subst h
  by_cases h2:v<z.length
  ·rw[if_pos rfl,if_pos h2,if_pos ⟨rfl,h2⟩];rfl
  ·rw[if_pos rfl,if_neg h2,if_neg (fun q=>h2 q.2),List.getElem?_eq_none (by omega)]
 ·rw[if_neg h,if_neg (fun q=>h q.1.symm)]
theorem biFlip_bit (s w j:Nat):(s ^^^ (s&&&2^w)).testBit j=(s.testBit j && !decide (w=j)):=by
 rw[Nat.testBit_xor,Nat.testBit_and,Nat.testBit_two_pow]
 cases s.testBit j<;>cases decide (w=j)<;>rfl
theorem biFlip_lt {s w m:Nat} (h:s<2^m):s ^^^ (s&&&2^w)<2^m:=Nat.xor_lt_two_pow h (Nat.lt_of_le_of_lt Nat.and_le_left h)
theorem BiTab.clr {z:List Nat} {n m:Nat} (h:BiTab z n m) {v w:Nat} (hv:v<n):BiTab (biClr z v w) n m:=by
 refine⟨by rw[biClr,List.length_set,h.len],fun s hs => ?_⟩
 rcases List.mem_or_eq_of_mem_set hs with hs|hs
 ·exact h.low s hs
 ·rw[hs];exact biFlip_lt (h.at hv).2
theorem biClr_bit {z:List Nat} {n m v w:Nat} (h:BiTab z n m) (hv:v<n) (v' w':Nat):((biClr z v w).getD v' 0).testBit w'=bif decide (v'=v∧w'=w) then false else (z.getD v' 0).testBit w':=by
 rw[biClr,biSet_getD,h.len]
 by_cases e:v'=v
 ·subst e
  rw[if_pos ⟨rfl,hv⟩,biFlip_bit]
  by_cases e2:w'=w
  ·subst e2;simp
  ·rw[show decide (w=w')=false from decide_eq_false fun q=>e2 q.symm,Bool.not_false,Bool.and_true]
   simp[e2]
 ·rw[if_neg (fun q=>e q.1)]
  simp[e]
def biCnt (z:List Nat) (n m:Nat):Nat:=cntR (fun k=>(z.getD (k / m) 0).testBit (k % m)) (n*m)
structure BiOk (n m:Nat) (z:List Nat) (s:BiS):Prop where
 tab:BiTab s.1 n m
 sub:∀ e f,(s.1.getD e 0).testBit f=true→(z.getD e 0).testBit f=true
 yes:s.2=true→biCnt s.1 n m<biCnt z n m
 no:s.2=false→s.1=z
theorem BiOk.step {a b:Mo} {n m:Nat} {z:List Nat} {s:BiS} (h:BiOk n m z s) {e f:Nat} (he:e<n) (hf:f<m):BiOk n m z (biStep a b e f s):=by
 unfold biStep
 cases hz:(s.1.getD e 0).testBit f with
 |false=>exact h
 |true =>
  cases hm:biMt a b s.1 e f with
  |true=>exact h
  |false =>
   show BiOk n m z (biClr s.1 e f,true)
   have hbc:=biClr_bit h.tab he (w:=f)
   have hle:∀ e' f',((biClr s.1 e f).getD e' 0).testBit f'=true→(s.1.getD e' 0).testBit f'=true:=fun e' f' h'=>by
    rw[hbc] at h'
    cases hd:decide (e'=e∧f'=f) with
    |true=>rw[hd] at h';cases h'
    |false=>rw[hd] at h';exact h'
   refine⟨h.tab.clr he,fun e' f' h'=>h.sub e' f' (hle e' f' h'),fun _ => ?_,fun h'=>by cases h'⟩
   have hk:e*m+f<n*m:=by
    have:=Nat.mul_le_mul_right m (show e+1≤n from he)
    rw[Nat.add_mul,Nat.one_mul] at this
    omega
   have hd:(e*m+f) / m=e:=by rw[Nat.add_comm,Nat.add_mul_div_right _ _ (by omega),Nat.div_eq_of_lt hf,Nat.zero_add]
   have hr:(e*m+f) % m=f:=by rw[Nat.add_comm,Nat.add_mul_mod_self_right,Nat.mod_eq_of_lt hf]
   refine Nat.lt_of_lt_of_le (cntR_lt (k:=e*m+f) (p:=fun k=>(s.1.getD (k / m) 0).testBit (k % m)) (by simp only[hd,hr];exact hz) ?_ hk fun k _ hq=>hle _ _ hq) (cntR_le fun k _ hq=>h.sub _ _ hq)
   simp only[hd,hr]
   rw[hbc]
   simp
theorem BiOk.row {a b:Mo} {n m:Nat} {z:List Nat} {e:Nat} (he:e<n):∀ {k:Nat} {s:BiS},BiOk n m z s→k≤m→BiOk n m z (biRow a b e k s)
 |0,_,h,_=>h
 |k+1,_,h,hk=>(h.row he (k:=k) (by omega)).step he (by omega)
theorem BiOk.pass {a b:Mo} {n m:Nat} {z:List Nat}:∀ {k:Nat} {s:BiS},BiOk n m z s→k≤n→BiOk n m z (biPass a b m k s)
 |0,_,h,_=>h
 |k+1,_,h,hk=>(h.pass (k:=k) (by omega)).row (by omega) (Nat.le_refl m)
theorem BiOk.start {n m:Nat} {z:List Nat} (hz:BiTab z n m):BiOk n m z (z,false):=⟨hz,fun _ _ h=>h,fun h=>(by cases h),fun _=>rfl⟩
def biEnd (a b:Mo) (n m:Nat) (z:List Nat):List Nat:=biIter a b n m (biCnt z n m+1) z
theorem biIter_more {a b:Mo} {n m:Nat}:∀ (k:Nat) (z:List Nat),BiTab z n m→biCnt z n m<k→biIter a b n m k z=biIter a b n m (biCnt z n m+1) z
 |k+1,z,hz,hk=>by
  have hO:=(BiOk.start hz).pass (a:=a) (b:=b) (k:=n) (Nat.le_refl n)
  rw[biIter,biIter]
  cases h:(biPass a b m n (z,false)).2 with
  |false=>rfl
  |true =>
   have hc:=hO.yes h
   rw[cond_true,cond_true,biIter_more k _ hO.tab (by omega)]
   by_cases e:biCnt (biPass a b m n (z,false)).1 n m+1=biCnt z n m
   ·rw[e]
   ·exact (biIter_more (biCnt z n m) _ hO.tab hc).symm
theorem biEnd_step {a b:Mo} {n m:Nat} {z:List Nat} (hz:BiTab z n m):biEnd a b n m z=bif (biPass a b m n (z,false)).2 then biEnd a b n m (biPass a b m n (z,false)).1 else z:=by
 have hO:=(BiOk.start hz).pass (a:=a) (b:=b) (k:=n) (Nat.le_refl _)
 rw[biEnd,biIter]
 cases h:(biPass a b m n (z,false)).2 with
 |false=>rfl
 |true=>exact biIter_more _ _ hO.tab (hO.yes h)
def biZ0 (n m:Nat):List Nat:=List.replicate n (2^m-1)
theorem biZ0_tab (n m:Nat):BiTab (biZ0 n m) n m:=⟨by simp[biZ0],fun s hs=>by
 rw[List.eq_of_mem_replicate hs]
 have:=Nat.two_pow_pos m
 omega⟩
theorem biIter_tab {a b:Mo} {n m:Nat}:∀ (k:Nat) (z:List Nat),BiTab z n m→BiTab (biIter a b n m k z) n m
 |0,_,hz=>hz
 |k+1,z,hz=>by
  have hO:=(BiOk.start hz).pass (a:=a) (b:=b) (k:=n) (Nat.le_refl n)
  rw[biIter]
  cases (biPass a b m n (z,false)).2 with
  |false=>exact hz
  |true=>exact biIter_tab k _ hO.tab
def biAll (a b:Mo):List Nat:=biEnd a b a.n.toNat b.n.toNat (biZ0 a.n.toNat b.n.toNat)
theorem biAll_tab (a b:Mo):BiTab (biAll a b) a.n.toNat b.n.toNat:=biIter_tab _ _ (biZ0_tab _ _)
def biMem (a b:Mo) (v w:Nat) (s:BiS):BiS:=bif !biMt a b s.1 v w then (biClr s.1 v w,true) else s
theorem biRow_bit {a b:Mo} {n m:Nat} {z:List Nat} {s:BiS} (h:BiOk n m z s) {v:Nat} (hv:v<n) {j:Nat}:∀ {k:Nat},k≤m→k≤j→((biRow a b v k s).1.getD v 0).testBit j=(s.1.getD v 0).testBit j
 |0,_,_=>rfl
 |k+1,hk,hj=>by
  have ih:=biRow_bit (a:=a) (b:=b) h hv (j:=j) (k:=k) (by omega) (by omega)
  have hO:=h.row (a:=a) (b:=b) hv (k:=k) (by omega)
  rw[biRow,biStep]
  cases hz:((biRow a b v k s).1.getD v 0).testBit k with
  |false=>exact ih
  |true =>
   cases hm:biMt a b (biRow a b v k s).1 v k with
   |true=>exact ih
   |false =>
    show ((biClr (biRow a b v k s).1 v k).getD v 0).testBit j=_
    rw[biClr_bit hO.tab hv,show decide (v=v∧j=k)=false from decide_eq_false fun q=>by omega]
    exact ih
theorem biRow_mem {a b:Mo} {n m:Nat} {z:List Nat} {s:BiS} (h:BiOk n m z s) {v:Nat} (hv:v<n):∀ {k:Nat},k≤m→(((List.range k).filter (s.1.getD v 0).testBit).foldl (fun s w=>biMem a b v w s) s)=biRow a b v k s
 |0,_=>rfl
 |k+1,hk=>by
  have ih:=biRow_mem (a:=a) (b:=b) h hv (k:=k) (by omega)
  have hb:=biRow_bit (a:=a) (b:=b) h hv (j:=k) (k:=k) (by omega) (Nat.le_refl k)
  rw[List.range_succ,List.filter_append,List.foldl_append,ih,biRow,biStep,hb]
  cases hq:(s.1.getD v 0).testBit k with
  |false=>rw[show List.filter (s.1.getD v 0).testBit [k]=[] by simp only[List.filter_cons,List.filter_nil,hq];rfl];rfl
  |true=>rw[show List.filter (s.1.getD v 0).testBit [k]=[k] by simp only[List.filter_cons,List.filter_nil,hq];rfl];rfl
theorem biRow_members {a b:Mo} {n m:Nat} {z:List Nat} {s:BiS} (h:BiOk n m z s) {v:Nat} (hv:v<n) (hm:m≤64):(memL (s.1.getD v 0)).foldl (fun s w=>biMem a b v w s) s=biRow a b v m s:=by
 rw[memL_range (h.tab.at hv).2 hm]
 exact biRow_mem h hv (Nat.le_refl m)
theorem biMem_tab {a b:Mo} {n m v w:Nat} {s:BiS} (h:BiTab s.1 n m) (hv:v<n):BiTab (biMem a b v w s).1 n m:=by
 rw[biMem]
 cases biMt a b s.1 v w with
 |true=>exact h
 |false=>exact h.clr hv
theorem biFold_tab {a b:Mo} {n m v:Nat} (hv:v<n):∀ (l:List Nat) (s:BiS),BiTab s.1 n m→BiTab (l.foldl (fun s w=>biMem a b v w s) s).1 n m
 | [],_,h=>h
 |w::r,s,h=>biFold_tab hv r _ (biMem_tab h hv)
theorem biFold_take {a b:Mo} {v:Nat} {l:List Nat} {s:BiS} {j y:Nat} (h:l[j]? = some y):(l.take (j+1)).foldl (fun s w=>biMem a b v w s) s=biMem a b v y ((l.take j).foldl (fun s w=>biMem a b v w s) s):=by
 rw[List.take_add_one,h,List.foldl_append];rfl
set_option maxHeartbeats 8000000
theorem dc_members {M:Nat→Prop} {w0:W0} {L:DH} {K:DV→DH→Prop} (s:Int) (h:K (.clo 163 [] [.ref L.next 0]) (L.push (.var [.pv (.int .u64 s)]))):DC Tryz.prog M w0 128 [.pv (.int .u64 s)] L K:=by
 refine DC.intro mixed (fn:=Tryz.f128) rfl rfl rfl ?_
 try conv=>whnf
 exact h
theorem biR_at {m:Mo} {n i v:Nat} (hM:OkM m n) (hi:i<m.rel.length) (hv:v<n):∃ r,m.rel[i]? = some r∧r[v]? = some (biR m i v)∧biR m i v<2^n:=by
 obtain⟨r,hr⟩:∃ r,m.rel[i]? = some r:=⟨_,List.getElem?_eq_getElem hi⟩
 have hm:=List.mem_iff_getElem?.2 ⟨i,hr⟩
 have hl:=hM.rows r hm
 have e:biR m i v=r.getD v 0:=by rw[biR,show m.rel.getD i []=r by rw[List.getD_eq_getElem?_getD,hr];rfl]
 have h1:r[v]? = some (r.getD v 0):=getD_mem (by omega)
 exact⟨r,hr,by rw[e];exact h1,by rw[e];exact hM.bits r hm _ (List.mem_iff_getElem?.2 ⟨v,h1⟩)⟩
theorem biMem_lt {s n x:Nat} (hs:s<2^n) (hx:x∈memL s):x<n:=by
 have:=(memL_mem.1 hx).2
 apply Nat.lt_of_not_le
 intro h
 rw[Nat.testBit_lt_two_pow (Nat.lt_of_lt_of_le hs (Nat.pow_le_pow_right (by decide) h))] at this
 cases this
theorem biOr_lt {z:List Nat} {m:Nat} (hz:∀ x,z.getD x 0<2^m):∀ (l:List Nat) (s:Nat),s<2^m→l.foldl (fun s x=>s |||z.getD x 0) s<2^m
 | [],s,h=>h
 |x::r,s,h=>biOr_lt hz r _ (Nat.or_lt_two_pow h (hz x))
theorem BiTab.low' {z:List Nat} {n m:Nat} (h:BiTab z n m) (x:Nat):z.getD x 0<2^m:=by
 by_cases hx:x<n
 ·exact (h.at hx).2
 ·rw[List.getD_eq_getElem?_getD,List.getElem?_eq_none (by rw[h.len];omega)]
  exact Nat.two_pow_pos m
theorem biOr_take {z l:List Nat} {j y:Nat} (h:l[j]? = some y):biOr z (l.take (j+1))=biOr z (l.take j) |||z.getD y 0:=by
 rw[biOr,biOr,List.take_add_one,h,List.foldl_append];rfl
theorem biMeet_take {z l:List Nat} {s j y:Nat} (h:l[j]? = some y):biMeet z s (l.take (j+1))=(biMeet z s (l.take j) && (z.getD y 0&&&s != 0)):=by
 rw[biMeet,biMeet,List.take_add_one,h,List.all_append];simp
theorem biMeet_no {z l:List Nat} {s j y:Nat} (h:l[j]? = some y) (h0:z.getD y 0&&&s=0):biMeet z s l=false:=by
 rw[biMeet,List.all_eq_false]
 exact⟨y,List.mem_iff_getElem?.2 ⟨j,h⟩,by rw[h0];simp⟩
theorem andNotU_xor {a b:Nat} (ha:a<2^64):andNotU a b=((a ^^^ (a&&&b):Nat):Int):=by
 have e:∀ x:Nat,(BitVec.ofInt 64 (x:Int))=BitVec.ofNat 64 x:=fun x=>BitVec.ofInt_natCast 64 x
 unfold andNotU
 rw[show IntKind.bits .u64=64 from rfl,e,e]
 have hb:((BitVec.ofNat 64 a &&& ~~~BitVec.ofNat 64 b).toNat:Nat)=a ^^^ (a&&&b):=by
  apply Nat.eq_of_testBit_eq
  intro i
  rw[BitVec.toNat_and,Nat.testBit_and,Nat.testBit_xor,Nat.testBit_and,BitVec.testBit_toNat,BitVec.testBit_toNat,BitVec.getLsbD_not,BitVec.getLsbD_ofNat,BitVec.getLsbD_ofNat]
  by_cases hi:i<64
  ·simp only[hi,decide_true,Bool.true_and]
   cases a.testBit i<;>cases b.testBit i<;>rfl
  ·have:a.testBit i=false:=Nat.testBit_lt_two_pow (Nat.lt_of_lt_of_le ha (Nat.pow_le_pow_right (by decide) (by omega)))
   simp[hi,this]
 rw[hb]
 have hlt:a ^^^ (a&&&b)<2^64:=Nat.xor_lt_two_pow ha (Nat.lt_of_le_of_lt Nat.and_le_left ha)
 exact wrapU (by omega) (by omega)
theorem andNot_no {a b:Nat} (ha:a<2^64):(andNotU a b != 0)=!(a&&&b==a):=by
 rw[andNotU_xor ha]
 by_cases h:a&&&b=a
 ·rw[h,Nat.xor_self];simp
 ·have h2:a ^^^ (a&&&b)≠0:=fun q=>h (by
   have:(a ^^^ (a&&&b)) ^^^ (a&&&b)=a:=by rw[Nat.xor_assoc,Nat.xor_self,Nat.xor_zero]
   rw[q,Nat.zero_xor] at this
   exact this)
  have h3:((a&&&b==a):Bool)=false:=by simpa using h
  rw[h3]
  simpa using h2
theorem biForth_all {a b:Mo} {z:List Nat} {v w:Nat} (h:facN a v a.val.length=facN b w b.val.length) (ha:∀ i,i<a.rel.length→biForth a b z v w i=true):biMt a b z v w=true:=by
 rw[biMt,h]
 simp only[beq_self_eq_true,cond_true,List.all_eq_true]
 exact fun i hi=>ha i (List.mem_range.1 hi)
theorem biForth_one {a b:Mo} {z:List Nat} {v w i:Nat} (hi:i<a.rel.length) (ha:biForth a b z v w i=false):biMt a b z v w=false:=by
 rw[biMt]
 cases (facN a v a.val.length==facN b w b.val.length) with
 |false=>rfl
 |true=>exact List.all_eq_false.2 ⟨i,List.mem_range.2 hi,by rw[ha];decide⟩
theorem bs_matched (a b:Mo) (n m:Nat) (hfa:FitM a) (hfb:FitM b) (hA:OkM a n) (hB:OkM b m) (hr:a.rel.length=b.rel.length) (z:List Nat) (hz:BiTab z n m) (v w:Nat) (hv:v<n) (hw:w<m) :
  PureFn Tryz.prog 129 [a.pv,b.pv,.sl (z.map u64),i64 v,i64 w] (.bool (biMt a b z v w)):=by
 have hFa:=md_Facts a n v hfa hA hv
 have hFb:=md_Facts b m w hfb hB hw
 have hn64:=hA.n64
 have hm64:=hB.n64
 have hag:=hA.ag
 obtain⟨R,hR⟩:∃ R,biMt a b z v w=R:=⟨_,rfl⟩
 have hfe:(facN a v a.val.length==facN b w b.val.length)=false→R=false:=fun h=>by rw[← hR,biMt,h];rfl
 have hall:facN a v a.val.length=facN b w b.val.length→(∀ i,i<a.rel.length→biForth a b z v w i=true)→R=true:=fun h1 h2=>by rw[← hR];exact biForth_all h1 h2
 have hone:∀ i,i<a.rel.length→biForth a b z v w i=false→R=false:=fun i h1 h2=>by rw[← hR];exact biForth_one h1 h2
 rw[hR]
 clear hR
 generalize facN a v a.val.length=fa at hFa hfe hall
 generalize facN b w b.val.length=fb at hFb hfe hall
 refine PureFn.introR [3,12] mixed (fn:=Tryz.f129) rfl rfl rfl fun M w0 => ?_
 try conv=>whnf
 refine⟨{ _x:Unit // fa=fb },fun _=>[(3,.pv (i64 v)),(5,.ref 0 0),(6,.ref 1 0),(7,.ref 2 0),(9,.ref 3 0),(10,.ref 4 0)],fun _=>5,fun _=>[(0,.var (cellsM a)),(1,.var (cellsM b)),(2,.var [.pv (.sl (z.map u64))]),(3,.var [.pv (i64 w)]),(4,.var [.pv (.bool false)])],?_,?_⟩
 ·(try conv=>whnf);repeat' (first|(apply And.intro<;>try conv=>whnf)|(intro h;try conv=>whnf)|(refine lin_plan (by kernel_rfl) ?_;try conv=>whnf)|(refine⟨_,(by (conv=>whnf);exact hFa),rfl,?_⟩;try conv=>whnf)|(refine⟨_,(by (conv=>whnf);exact hFb),rfl,?_⟩;try conv=>whnf)|fail)
  ·rw[hfe (by
    have h2:((fa:Int) != (fb:Int))=true:=h
    simp at h2 ⊢;omega)]
   exact .refl _
  ·exact⟨⟨(),by
    have h2:((fa:Int) != (fb:Int))=false:=h
    simp at h2;omega⟩,(by exact Wk.sm rfl rfl rfl rfl rfl)⟩
 rintro⟨_,hff⟩
 have hall:=hall hff
 try conv=>whnf
 refine⟨{ i:Nat // i≤a.rel.length∧∀ j,j<i→biForth a b z v w j=true },fun i=>[(3,.pv (i64 v)),(5,.ref 0 0),(6,.ref 1 0),(7,.ref 2 0),(9,.ref 3 0),(10,.ref 4 0),(23,.pv (i64 (a.rel.map rowPV).length)),(24,.pv (i64 i.1))],fun _=>5,fun _=>[(0,.var (cellsM a)),(1,.var (cellsM b)),(2,.var [.pv (.sl (z.map u64))]),(3,.var [.pv (i64 w)]),(4,.var [.pv (.bool false)])],fun i=>a.rel.length-i.1,⟨⟨0,Nat.zero_le _,fun j h=>by omega⟩,(by exact Wk.sm rfl rfl rfl rfl rfl)⟩,?_⟩
 rintro⟨i,hi,hfo⟩
 (try conv=>whnf);repeat' (first|(apply And.intro<;>try conv=>whnf)|(intro h;try conv=>whnf)|fail)
 ·have hi':i<a.rel.length:=by simpa using lt_dec h
  obtain⟨ra,hai,hav,hal⟩:=biR_at hA hi' hv
  obtain⟨rb,hbi,hbw,hbl⟩:=biR_at hB (show i<b.rel.length by omega) hw
  have ha64:biR a i v<2^64:=Nat.lt_of_lt_of_le hal (pow64_le hn64)
  have hb64:biR b i w<2^64:=Nat.lt_of_lt_of_le hbl (pow64_le hm64)
  have hfi:biForth a b z v w i=bif biMeet z (biR b i w) (memL (biR a i v)) then biR b i w&&&biOr z (memL (biR a i v))==biR b i w else false:=rfl
  have hone:=hone i hi'
  have hmem:∀ y,y∈memL (biR a i v)→y<n:=fun y hy=>biMem_lt hal hy
  have hit:=it_members (biR a i v) ha64
  generalize biR a i v=sa at *
  generalize biR b i w=sb at *
  generalize hl:memL sa=l at *
  have horl:∀ j,biOr z (l.take j)<2^64:=fun j=>Nat.lt_of_lt_of_le (biOr_lt hz.low' _ _ (Nat.two_pow_pos m)) (pow64_le hm64)
  have horf:biOr z l<2^64:=Nat.lt_of_lt_of_le (biOr_lt hz.low' _ _ (Nat.two_pow_pos m)) (pow64_le hm64)
  try conv=>whnf
  refine⟨{ _x:Unit // biMeet z sb l=true },fun _=>[(3,.pv (i64 v)),(5,.ref 0 0),(6,.ref 1 0),(7,.ref 2 0),(9,.ref 3 0),(10,.ref 4 0),(11,.ref 5 0),(12,.ref 6 0),(23,.pv (i64 (a.rel.map rowPV).length)),(24,.pv (i64 i))],fun _=>7,fun _=>[(0,.var (cellsM a)),(1,.var (cellsM b)),(2,.var [.pv (.sl (z.map u64))]),(3,.var [.pv (i64 w)]),(4,.var [.pv (.bool false)]),(5,.var [.pv (i64 i)]),(6,.var [.pv (u64 (biOr z l))])],?_,?_⟩
  ·(try conv=>whnf);repeat' (first|(apply And.intro<;>try conv=>whnf)|(apply infoT;rfl)|(refine⟨_,_,rfl,idx_map (by with_reducible assumption),rfl,?_⟩;try conv=>whnf)|(refine dc_members _ ?_;try conv=>whnf)|fail)
   refine⟨(sa:Nat),l.map Int.ofNat,[(3,.pv (i64 v)),(5,.ref 0 0),(6,.ref 1 0),(7,.ref 2 0),(9,.ref 3 0),(10,.ref 4 0),(11,.ref 5 0),(12,.ref 6 0),(23,.pv (i64 (a.rel.map rowPV).length)),(24,.pv (i64 i))],8,fun j=>[(0,.var (cellsM a)),(1,.var (cellsM b)),(2,.var [.pv (.sl (z.map u64))]),(3,.var [.pv (i64 w)]),(4,.var [.pv (.bool false)]),(5,.var [.pv (i64 i)]),(6,.var [.pv (u64 (biOr z (l.take j)))])],fun j=>biMeet z sb (l.take j)=true,hit,rfl,(by exact Wk.sm rfl rfl rfl rfl rfl),rfl,?_,?_⟩
   ·intro j x v' hx hI
    obtain⟨y,hy,rfl⟩:∃ y,l[j]? = some y∧x=(y:Int):=by
     rw[List.getElem?_map] at hx
     cases hq:l[j]? with
     |none=>rw[hq] at hx;cases hx
     |some y=>rw[hq] at hx;exact⟨y,rfl,(Option.some.inj hx).symm⟩
    have hyn:=hmem y (List.mem_iff_getElem?.2 ⟨j,hy⟩)
    obtain⟨hzy,hzl⟩:=hz.at hyn
    have hz64:z.getD y 0<2^64:=Nat.lt_of_lt_of_le hzl (pow64_le hm64)
    have hmt:=biMeet_take (z:=z) (s:=sb) hy
    have hmn:=biMeet_no (z:=z) (s:=sb) hy
    have hot:=biOr_take (z:=z) hy
    have hoj:=horl j
    generalize z.getD y 0=zy at *
    have hand:andU (zy:Nat) (sb:Nat)=((zy&&&sb:Nat):Int):=andU_nat hz64 hb64
    (try conv=>whnf);repeat' (first|(apply And.intro<;>try conv=>whnf)|(intro h;try conv=>whnf)|(apply infoT;rfl)|(refine lin_plan (by kernel_rfl) ?_;try conv=>whnf)|(refine⟨_,_,rfl,idx_map (by with_reducible assumption),rfl,?_⟩;try conv=>whnf)|fail)
    ·have h2:(andU (zy:Nat) (sb:Nat)==0)=true:=h
     rw[hand] at h2
     rw[hone (by rw[hfi,hmn (by simp at h2;omega)];rfl)]
     exact .refl _
    ·have h2:(andU (zy:Nat) (sb:Nat)==0)=false:=h
     rw[hand] at h2
     rw[hmt,hI,Bool.true_and]
     simp at h2 ⊢;omega
    ·(refine Wk.of ?_ ?_ rfl rfl rfl<;>repeat' (first|exact trivial|exact WkD.same _|exact WkO.same _ _ rfl|refine WkD.int ?_|refine WkO.vars rfl ?_|refine⟨?_,?_⟩|fail))
     have e1:orU (biOr z (l.take j):Nat) (zy:Nat)=((biOr z (l.take (j+1)):Nat):Int):=by rw[orU_nat hoj hz64,hot]
     exact e1
   ·intro v' hI
    have hlen:l.take (l.map Int.ofNat).length=l:=by rw[List.length_map,List.take_length]
    rw[hlen] at hI
    refine⟨⟨(),hI⟩,?_⟩
    (refine Wk.of ?_ ?_ rfl rfl rfl<;>repeat' (first|exact trivial|exact WkD.same _|exact WkO.same _ _ rfl|refine WkD.int ?_|refine WkO.vars rfl ?_|refine⟨?_,?_⟩|fail))
    exact congrArg (fun q=>((biOr z q:Nat):Int)) hlen
  rintro⟨_,hme⟩
  rw[hme,cond_true] at hfi
  have han:=andNot_no (b:=biOr z l) hb64
  (try conv=>whnf);repeat' (first|(apply And.intro<;>try conv=>whnf)|(intro h;try conv=>whnf)|(apply infoT;rfl)|(refine lin_plan (by kernel_rfl) ?_;try conv=>whnf)|(refine⟨_,_,rfl,idx_map (by with_reducible assumption),rfl,?_⟩;try conv=>whnf)|fail)
  ·have h2:(andNotU (sb:Nat) (biOr z l:Nat) != 0)=true:=h
   rw[han] at h2
   rw[hone (by rw[hfi];simpa using h2)]
   exact .refl _
  ·have h2:(andNotU (sb:Nat) (biOr z l:Nat) != 0)=false:=h
   rw[han] at h2
   refine⟨⟨i+1,hi',fun j hj => ?_⟩,by show a.rel.length-(i+1)<a.rel.length-i;omega,(by refine Wk.of ?_ ?_ rfl rfl rfl<;>repeat' (first|exact trivial|exact WkD.same _|exact WkO.same _ _ rfl|refine WkD.int ?_|refine⟨?_,?_⟩|(refine wrapA ?_ ?_ ?_;(focus simp;done);(focus (try dsimp only);omega);(focus (try dsimp only);omega))|fail))⟩
   by_cases e:j<i
   ·exact hfo j e
   ·rw[show j=i by omega,hfi];simpa using h2
 ·have hi':i=a.rel.length:=by have:=ge_dec (m:=(a.rel.map rowPV).length) h (by simpa using hi);simpa using this
  rw[hall fun j hj=>hfo j (by omega)]
  exact .refl _
def biErr (a b:Mo):Int:=bif moI a != 0 then moI a else bif moI b != 0 then moI b else bif (bif ((a.rel.length:Int) != (b.rel.length:Int)) then true else ((a.val.length:Int) != (b.val.length:Int))) then 1 else 0
theorem biErr_ok {a b:Mo} (h:biErr a b=0):(∃ n,OkM a n)∧(∃ m,OkM b m)∧a.rel.length=b.rel.length∧a.val.length=b.val.length:=by
 unfold biErr at h
 cases h1:(moI a != 0) with
 |true=>rw[h1,cond_true] at h;rw[h] at h1;cases h1
 |false =>
  cases h2:(moI b != 0) with
  |true=>rw[h1,cond_false,h2,cond_true] at h;rw[h] at h2;cases h2
  |false =>
   rw[h1,h2] at h
   simp only[cond_false] at h
   have e1:moI a=0:=by simpa using h1
   have e2:moI b=0:=by simpa using h2
   cases h3:((a.rel.length:Int) != (b.rel.length:Int)) with
   |true=>rw[h3] at h;cases h
   |false =>
    cases h4:((a.val.length:Int) != (b.val.length:Int)) with
    |true=>rw[h3,h4] at h;cases h
    |false=>exact⟨moI_ok e1,moI_ok e2,by simp at h3;omega,by simp at h4;omega⟩
theorem bs_both (a b:Mo) (hfa:FitM a) (hfb:FitM b):PureFn Tryz.prog 127 [a.pv,b.pv] (.int .i64 (biErr a b)):=by
 have hCa:=md_Check a hfa
 have hCb:=md_Check b hfb
 have e1:((a.rel.map rowPV).length:Int)=(a.rel.length:Int):=by simp
 have e2:((b.rel.map rowPV).length:Int)=(b.rel.length:Int):=by simp
 have e3:((a.val.map u64).length:Int)=(a.val.length:Int):=by simp
 have e4:((b.val.map u64).length:Int)=(b.val.length:Int):=by simp
 have hR:biErr a b=bif moI a != 0 then moI a else bif moI b != 0 then moI b else bif (bif (((a.rel.map rowPV).length:Int) != ((b.rel.map rowPV).length:Int)) then true else (((a.val.map u64).length:Int) != ((b.val.map u64).length:Int))) then 1 else 0:=by rw[e1,e2,e3,e4];rfl
 rw[hR]
 clear hR e1 e2 e3 e4
 generalize moI a=ea at hCa ⊢
 generalize moI b=eb at hCb ⊢
 refine PureFn.introC [2,5] mixed (fn:=Tryz.f127) rfl rfl rfl fun M w0 => ?_
 try conv=>whnf
 refine⟨Unit,fun _=>[(2,.ref 0 0),(3,.ref 1 0),(5,.pv (.int .i64 ea))],fun _=>2,fun _=>[(0,.var (cellsM a)),(1,.var (cellsM b))],?_,?_⟩
 ·(try conv=>whnf);repeat' (first|(refine PureFn.dy hCa rfl ?_;try conv=>whnf)|fail)
  exact⟨(),(by exact Wk.sm rfl rfl rfl rfl rfl)⟩
 rintro⟨⟩
 (try conv=>whnf);repeat' (first|(apply And.intro<;>try conv=>whnf)|(intro h;try conv=>whnf)|fail)
 ·have h':(ea != 0)=true:=h
  rw[h',cond_true]
  exact .refl _
 have h1:(ea != 0)=false:=h
 rw[h1,cond_false]
 refine⟨Unit,fun _=>[(2,.ref 0 0),(3,.ref 1 0),(6,.pv (.int .i64 eb))],fun _=>2,fun _=>[(0,.var (cellsM a)),(1,.var (cellsM b))],?_,?_⟩
 ·(try conv=>whnf);repeat' (first|(refine PureFn.dy hCb rfl ?_;try conv=>whnf)|fail)
  exact⟨(),(by exact Wk.sm rfl rfl rfl rfl rfl)⟩
 rintro⟨⟩
 (try conv=>whnf);repeat' (first|(apply And.intro<;>try conv=>whnf)|(intro h;try conv=>whnf)|apply True.intro|(apply WhenQ.mk;(try conv=>whnf);rotate_left;(try conv=>whnf);rotate_right)|with_reducible assumption|(apply not_of;with_reducible assumption)|fail)
 ·have h':(eb != 0)=true:=h
  rw[h',cond_true]
  exact .refl _
 ·have h2:(eb != 0)=false:=by assumption
  rw[h2,cond_false,show (bif (((a.rel.map rowPV).length:Int) != ((b.rel.map rowPV).length:Int)) then true else (((a.val.map u64).length:Int) != ((b.val.map u64).length:Int)))=true from h]
  exact .refl _
 ·have h2:(eb != 0)=false:=by assumption
  rw[h2,cond_false,show (bif (((a.rel.map rowPV).length:Int) != ((b.rel.map rowPV).length:Int)) then true else (((a.val.map u64).length:Int) != ((b.val.map u64).length:Int)))=false from h]
  exact .refl _
theorem ones_u {m:Nat} (hm:m≤64):IntKind.wrap .u64 (shlU 1 (m:Nat)-1)=((2^m-1:Nat):Int):=by
 by_cases h:m=64
 ·subst h;decide +kernel
 ·rw[shlU_one (by omega)]
  have h1:=Nat.two_pow_pos m
  have h2:2^m≤2^63:=Nat.pow_le_pow_right (by decide) (by omega)
  rw[wrapU (by omega) (by omega)];omega
def biP (a b:Mo):PV:=bif biErr a b != 0 then .tup [.nil,.int .i64 (biErr a b)] else .tup [.sl ((biAll a b).map u64),.int .i64 0]
theorem bs_Between (a b:Mo) (hfa:FitM a) (hfb:FitM b):PureFn Tryz.prog 95 [a.pv,b.pv] (biP a b):=by
 have hBo:=bs_both a b hfa hfb
 obtain⟨R,hR⟩:∃ R,biP a b=R:=⟨_,rfl⟩
 rw[hR]
 rw[biP] at hR
 have hok:=biErr_ok (a:=a) (b:=b)
 generalize biErr a b=c at hBo hR hok
 refine PureFn.introR [2,4,10,23] mixed (fn:=Tryz.f95) rfl rfl rfl fun M w0 => ?_
 try conv=>whnf
 refine⟨{ _x:Unit // c=0 },fun _=>[(2,.ref 0 0),(3,.ref 1 0)],fun _=>2,fun _=>[(0,.var (cellsM a)),(1,.var (cellsM b))],?_,?_⟩
 ·try conv=>whnf
  refine⟨Unit,fun _=>[(2,.ref 0 0),(3,.ref 1 0),(6,.pv (.int .i64 c))],fun _=>2,fun _=>[(0,.var (cellsM a)),(1,.var (cellsM b))],?_,?_⟩
  ·(try conv=>whnf);repeat' (first|(refine PureFn.dy hBo rfl ?_;try conv=>whnf)|fail)
   exact⟨(),(by exact Wk.sm rfl rfl rfl rfl rfl)⟩
  rintro⟨⟩
  (try conv=>whnf);repeat' (first|(apply And.intro<;>try conv=>whnf)|(intro h;try conv=>whnf)|fail)
  ·have h1:(c != 0)=true:=h
   rw[← hR,h1]
   exact .refl _
  ·exact⟨⟨(),by simpa using h⟩,(by exact Wk.sm rfl rfl rfl rfl rfl)⟩
 rintro⟨_,hc⟩
 obtain⟨⟨n,hA⟩,⟨m,hB⟩,hr,_⟩:=hok hc
 have hR:R=.tup [.sl ((biAll a b).map u64),.int .i64 0]:=by rw[← hR,hc];rfl
 have hn64:=hA.n64
 have hm64:=hB.n64
 have hnn:=hA.nn
 have hmm:=hB.nn
 have hn1:=hA.n1
 have hN:a.n.toNat=n:=by rw[hnn];rfl
 have hbi:biAll a b=biEnd a b n m (biZ0 n m):=by rw[biAll,hnn,hmm];rfl
 have hones:IntKind.wrap .u64 (shlU 1 b.n-1)=((2^m-1:Nat):Int):=by rw[hmm];exact ones_u hm64
 have hmx:=fun i=>(mixV_len n (fun _=>u64 (2^m-1)) (fun _=>u64 0) i).symm
 have hz1:List.replicate a.n.toNat (PV.int .u64 0)=mixV n (fun _=>u64 (2^m-1)) (fun _=>u64 0) 0:=by rw[hN];exact mixV_rep _ _ _
 have hz2:mixV n (fun _=>u64 (2^m-1)) (fun _=>u64 0) n=(biZ0 n m).map u64:=by rw[mixV_full,biZ0,List.map_replicate];apply List.ext_getElem? ;intro i;rw[List.getElem?_map,List.getElem?_replicate];by_cases hi:i<n<;>simp[hi]
 (try conv=>whnf);repeat' (first|(apply And.intro<;>try conv=>whnf)|(apply Or.inl;try conv=>whnf)|fail)
 ·exact rfl
 ·rw[hnn];exact Int.natCast_nonneg _
 ·show a.n≤((4294967296:Nat):Int)
  omega
 refine⟨Unit,fun _=>[(2,.ref 0 0),(3,.ref 1 0),(7,.ref 3 0)],fun _=>4,fun _=>[(0,.var (cellsM a)),(1,.var (cellsM b)),(2,.arr 1 ((biZ0 n m).map u64)),(3,.var [.buf 2 n])],?_,?_⟩
 ·try conv=>whnf
  refine⟨{ i:Nat // i≤n },fun i=>[(2,.ref 0 0),(3,.ref 1 0),(7,.ref 3 0),(23,.pv (i64 n)),(24,.pv (i64 i.1))],fun _=>4,fun i=>[(0,.var (cellsM a)),(1,.var (cellsM b)),(2,.arr 1 (mixV n (fun _=>u64 (2^m-1)) (fun _=>u64 0) i.1)),(3,.var [.buf 2 n])],fun i=>n-i.1,⟨⟨0,Nat.zero_le _⟩,?_⟩,?_⟩
  ·(refine Wk.of ?_ ?_ rfl rfl rfl<;>repeat' (first|exact trivial|exact WkD.same _|exact WkO.same _ _ rfl|refine WkD.int ?_|refine WkO.vars rfl ?_|refine⟨?_,?_⟩|fail))
   ·exact congrArg (fun z:Nat=>(z:Int)) ((List.length_replicate ..).trans hN)
   ·exact WkO.same _ _ (congrArg (fun z=>some (DObj.arr 1 z)) hz1)
   ·exact WkD.eq (congrArg (DV.buf 2) ((List.length_replicate ..).trans hN))
  rintro⟨i,hi⟩
  have hmi:=hmx i
  have hmo:=fun h=>mixV_old (n:=n) (p:=fun _=>u64 (2^m-1)) (q:=fun _=>u64 0) (e:=i) h
  have hms:=mixV_set (n:=n) (p:=fun _=>u64 (2^m-1)) (q:=fun _=>u64 0) (e:=i)
  (try conv=>whnf);repeat' (first|(apply And.intro<;>try conv=>whnf)|(intro h;try conv=>whnf)|fail)
  ·have hi':i<n:=lt_dec h
   have hmo:=hmo hi'
   refine⟨Plan.lin 0 8,[7],by kernel_rfl,?_⟩
   (try conv=>whnf);repeat' (first|(apply And.intro<;>try conv=>whnf)|with_reducible assumption|fail)
   ·exact (show (0:Int)≤b.n by omega)
   refine⟨i,rfl,hi',?_⟩
   (try conv=>whnf);repeat' (first|(apply And.intro<;>try conv=>whnf)|with_reducible assumption|exact Nat.le_refl 1|(apply ex2;(focus with_reducible assumption);try conv=>whnf)|fail)
   refine⟨⟨i+1,hi'⟩,by show n-(i+1)<n-i;omega,?_⟩
   (refine Wk.of ?_ ?_ rfl rfl rfl<;>repeat' (first|exact trivial|exact WkD.same _|exact WkO.same _ _ rfl|refine WkD.int ?_|refine⟨?_,?_⟩|(refine wrapA ?_ ?_ ?_;(focus simp;done);(focus (try dsimp only);omega);(focus (try dsimp only);omega))|fail))
   refine WkO.same _ _ (congrArg (fun z=>some (DObj.arr 1 z)) (Eq.trans ?_ hms))
   exact congrArg (fun z=>(mixV n (fun _=>u64 (2^m-1)) (fun _=>u64 0) i).set i (PV.int .u64 z)) hones
  ·have hi':i=n:=ge_dec h hi
   subst hi'
   refine⟨(),?_⟩
   (refine Wk.of ?_ ?_ rfl rfl rfl<;>repeat' (first|exact trivial|exact WkD.same _|exact WkO.same _ _ rfl|refine⟨?_,?_⟩|fail))
   exact WkO.same _ _ (congrArg (fun z=>some (DObj.arr 1 z)) hz2)
 rintro⟨⟩
 clear hz1 hz2 hmx
 have hT0:=biZ0_tab n m
 obtain⟨Z,hZ⟩:∃ Z,biEnd a b n m (biZ0 n m)=Z:=⟨_,rfl⟩
 rw[hbi,hZ] at hR
 try conv=>whnf
 refine⟨{ x:List Nat×Bool // BiTab x.1 n m∧(x.2=true→biEnd a b n m x.1=Z)∧(x.2=false→x.1=Z) },fun x=>[(2,.ref 0 0),(3,.ref 1 0),(7,.ref 3 0),(9,.ref 4 0)],fun _=>5,fun x=>[(0,.var (cellsM a)),(1,.var (cellsM b)),(2,.arr 1 (x.1.1.map u64)),(3,.var [.buf 2 n]),(4,.var [.pv (.bool x.1.2)])],fun x=>2*biCnt x.1.1 n m+(bif x.1.2 then 1 else 0),⟨⟨(biZ0 n m,true),hT0,fun _=>hZ,fun h=>(by cases h)⟩,(by exact Wk.sm rfl rfl rfl rfl rfl)⟩,?_⟩
 rintro⟨⟨z,ch⟩,hz,hy,hno⟩
 simp only at hz hy hno
 have hzl:n=(z.map u64).length:=by rw[List.length_map,hz.len]
 (try conv=>whnf);repeat' (first|(apply And.intro<;>try conv=>whnf)|(intro h;try conv=>whnf)|(apply bleI;rfl)|with_reducible assumption|fail)
 ·have hyR:=hy h
  have hO:=fun (k:Nat) (hk:k≤n)=>(BiOk.start hz).pass (a:=a) (b:=b) (k:=k) hk
  refine⟨{ v:Nat // v≤n },fun v=>[(2,.ref 0 0),(3,.ref 1 0),(7,.ref 3 0),(9,.ref 4 0),(36,.buf 2 n),(37,.pv (i64 n)),(38,.pv (i64 v.1))],fun _=>5,fun v=>[(0,.var (cellsM a)),(1,.var (cellsM b)),(2,.arr 1 ((biPass a b m v.1 (z,false)).1.map u64)),(3,.var [.buf 2 n]),(4,.var [.pv (.bool (biPass a b m v.1 (z,false)).2)])],fun v=>n-v.1,⟨⟨0,Nat.zero_le _⟩,(by exact Wk.sm rfl rfl rfl rfl rfl)⟩,?_⟩
  rintro⟨v,hv⟩
  have hOv:=hO v hv
  have hzv:n=((biPass a b m v (z,false)).1.map u64).length:=by rw[List.length_map,hOv.tab.len]
  (try conv=>whnf);repeat' (first|(apply And.intro<;>try conv=>whnf)|(intro h;try conv=>whnf)|with_reducible assumption|fail)
  ·have hv':v<n:=lt_dec h
   obtain⟨t1,t2⟩:=hOv.tab.at hv'
   have hsu:biPass a b m (v+1) (z,false)=(memL ((biPass a b m v (z,false)).1.getD v 0)).foldl (fun s w=>biMem a b v w s) (biPass a b m v (z,false)):=(biRow_members hOv hv' hm64).symm
   have ht:=hOv.tab
   refine⟨v,rfl,hv',?_⟩
   (try conv=>whnf);repeat' (first|(apply And.intro<;>try conv=>whnf)|with_reducible assumption|fail)
   refine⟨_,idx_map t1,?_⟩
   (try conv=>whnf);repeat' (first|(refine dc_members _ ?_;try conv=>whnf)|fail)
   refine⟨((biPass a b m v (z,false)).1.getD v 0:Nat),(memL ((biPass a b m v (z,false)).1.getD v 0)).map Int.ofNat,[(2,.ref 0 0),(3,.ref 1 0),(7,.ref 3 0),(9,.ref 4 0),(10,.ref 5 0),(36,.buf 2 n),(37,.pv (i64 n)),(38,.pv (i64 v))],7,fun j=>[(0,.var (cellsM a)),(1,.var (cellsM b)),(2,.arr 1 ((((memL ((biPass a b m v (z,false)).1.getD v 0)).take j).foldl (fun s w=>biMem a b v w s) (biPass a b m v (z,false))).1.map u64)),(3,.var [.buf 2 n]),(4,.var [.pv (.bool (((memL ((biPass a b m v (z,false)).1.getD v 0)).take j).foldl (fun s w=>biMem a b v w s) (biPass a b m v (z,false))).2)]),(5,.var [.pv (i64 v)])],fun _=>True,it_members _ (Nat.lt_of_lt_of_le t2 (pow64_le hm64)),rfl,(by exact Wk.sm rfl rfl rfl rfl rfl),trivial,?_,?_⟩
   ·intro j x v' hx _
    obtain⟨y,hy,rfl⟩:∃ y,(memL ((biPass a b m v (z,false)).1.getD v 0))[j]? = some y∧x=(y:Int):=by
     rw[List.getElem?_map] at hx
     cases hq:(memL ((biPass a b m v (z,false)).1.getD v 0))[j]? with
     |none=>rw[hq] at hx;cases hx
     |some y=>rw[hq] at hx;exact⟨y,rfl,(Option.some.inj hx).symm⟩
    have hym:y<m:=biMem_lt t2 (List.mem_iff_getElem?.2 ⟨j,hy⟩)
    have hFt:BiTab (((memL ((biPass a b m v (z,false)).1.getD v 0)).take j).foldl (fun s w=>biMem a b v w s) (biPass a b m v (z,false))).1 n m:=biFold_tab hv' _ _ ht
    have hFl:n=((((memL ((biPass a b m v (z,false)).1.getD v 0)).take j).foldl (fun s w=>biMem a b v w s) (biPass a b m v (z,false))).1.map u64).length:=by rw[List.length_map,hFt.len]
    have hMt:=bs_matched a b n m hfa hfb hA hB hr (((memL ((biPass a b m v (z,false)).1.getD v 0)).take j).foldl (fun s w=>biMem a b v w s) (biPass a b m v (z,false))).1 hFt v y hv' hym
    have hst:(((memL ((biPass a b m v (z,false)).1.getD v 0)).take (j+1)).foldl (fun s w=>biMem a b v w s) (biPass a b m v (z,false)))=biMem a b v y (((memL ((biPass a b m v (z,false)).1.getD v 0)).take j).foldl (fun s w=>biMem a b v w s) (biPass a b m v (z,false))):=biFold_take hy
    rw[biMem] at hst
    obtain⟨t3,t4⟩:=hFt.at hv'
    have t5:=idx_map (g:=u64) t3
    (try conv=>whnf);repeat' (first|(apply And.intro<;>try conv=>whnf)|(intro h;try conv=>whnf)|apply True.intro|(refine PureFn.dcb hMt rfl (by (conv=>whnf);exact⟨hFl,PLe.refl _,PLe.refl _,PLe.refl _,PLe.refl _,PLe.refl _,trivial⟩) ?_;try conv=>whnf)|fail)
    ·have hmt:biMt a b (((memL ((biPass a b m v (z,false)).1.getD v 0)).take j).foldl (fun s w=>biMem a b v w s) (biPass a b m v (z,false))).1 v y=false:=by simpa using h
     have hst2:(((memL ((biPass a b m v (z,false)).1.getD v 0)).take (j+1)).foldl (fun s w=>biMem a b v w s) (biPass a b m v (z,false)))=(biClr (((memL ((biPass a b m v (z,false)).1.getD v 0)).take j).foldl (fun s w=>biMem a b v w s) (biPass a b m v (z,false))).1 v y,true):=by rw[hst,hmt];rfl
     have h64:(((memL ((biPass a b m v (z,false)).1.getD v 0)).take j).foldl (fun s w=>biMem a b v w s) (biPass a b m v (z,false))).1.getD v 0<2^64:=Nat.lt_of_lt_of_le t4 (pow64_le hm64)
     have hval:andNotU ((((memL ((biPass a b m v (z,false)).1.getD v 0)).take j).foldl (fun s w=>biMem a b v w s) (biPass a b m v (z,false))).1.getD v 0:Nat) (shlU 1 (y:Nat))=(((((memL ((biPass a b m v (z,false)).1.getD v 0)).take j).foldl (fun s w=>biMem a b v w s) (biPass a b m v (z,false))).1.getD v 0 ^^^ ((((memL ((biPass a b m v (z,false)).1.getD v 0)).take j).foldl (fun s w=>biMem a b v w s) (biPass a b m v (z,false))).1.getD v 0&&&2^y):Nat):Int):=by rw[shlU_one (by omega)];exact andNotU_xor h64
     have hset:((((memL ((biPass a b m v (z,false)).1.getD v 0)).take j).foldl (fun s w=>biMem a b v w s) (biPass a b m v (z,false))).1.map u64).set v (PV.int .u64 (andNotU ((((memL ((biPass a b m v (z,false)).1.getD v 0)).take j).foldl (fun s w=>biMem a b v w s) (biPass a b m v (z,false))).1.getD v 0:Nat) (shlU 1 (y:Nat))))=(((memL ((biPass a b m v (z,false)).1.getD v 0)).take (j+1)).foldl (fun s w=>biMem a b v w s) (biPass a b m v (z,false))).1.map u64:=by rw[hval,hst2,biClr,List.map_set];rfl
     refine⟨Plan.lin 0 9,[8],by kernel_rfl,?_⟩
     (try conv=>whnf);repeat' (first|(apply And.intro<;>try conv=>whnf)|with_reducible assumption|fail)
     refine⟨v,rfl,hv',?_⟩
     (try conv=>whnf);repeat' (first|(apply And.intro<;>try conv=>whnf)|with_reducible assumption|(apply ex2;(focus with_reducible assumption);try conv=>whnf)|fail)
     ·exact (show (0:Int)≤(y:Int) by omega)
     refine⟨v,rfl,hv',?_⟩
     (try conv=>whnf);repeat' (first|(apply And.intro<;>try conv=>whnf)|apply True.intro|with_reducible assumption|exact Nat.le_refl 1|(apply ex2;(focus with_reducible assumption);try conv=>whnf)|fail)
     (refine Wk.of ?_ ?_ rfl rfl rfl<;>repeat' (first|exact trivial|exact WkD.same _|exact WkO.same _ _ rfl|refine WkO.vars rfl ?_|refine⟨?_,?_⟩|fail))
     ·exact WkO.same _ _ (congrArg (fun z=>some (DObj.arr 1 z)) hset)
     ·exact WkD.eq (congrArg (fun q:BiS=>DV.pv (.bool q.2)) hst2.symm)
    ·have hmt:biMt a b (((memL ((biPass a b m v (z,false)).1.getD v 0)).take j).foldl (fun s w=>biMem a b v w s) (biPass a b m v (z,false))).1 v y=true:=by simpa using h
     have hst2:(((memL ((biPass a b m v (z,false)).1.getD v 0)).take (j+1)).foldl (fun s w=>biMem a b v w s) (biPass a b m v (z,false)))=(((memL ((biPass a b m v (z,false)).1.getD v 0)).take j).foldl (fun s w=>biMem a b v w s) (biPass a b m v (z,false))):=by rw[hst,hmt];rfl
     (refine Wk.of ?_ ?_ rfl rfl rfl<;>repeat' (first|exact trivial|exact WkD.same _|exact WkO.same _ _ rfl|refine WkO.vars rfl ?_|refine⟨?_,?_⟩|fail))
     ·exact WkO.same _ _ (congrArg (fun q:BiS=>some (DObj.arr 1 (q.1.map u64))) hst2.symm)
     ·exact WkD.eq (congrArg (fun q:BiS=>DV.pv (.bool q.2)) hst2.symm)
   ·intro v' _
    have hfe:(((memL ((biPass a b m v (z,false)).1.getD v 0)).take ((memL ((biPass a b m v (z,false)).1.getD v 0)).map Int.ofNat).length).foldl (fun s w=>biMem a b v w s) (biPass a b m v (z,false)))=biPass a b m (v+1) (z,false):=by rw[List.length_map,List.take_length];exact hsu.symm
    try conv=>whnf
    refine⟨⟨v+1,hv'⟩,by show n-(v+1)<n-v;omega,?_⟩
    (refine Wk.of ?_ ?_ rfl rfl rfl<;>repeat' (first|exact trivial|exact WkD.same _|exact WkO.same _ _ rfl|refine WkD.int ?_|refine WkO.vars rfl ?_|refine⟨?_,?_⟩|(refine wrapA ?_ ?_ ?_;(focus simp;done);(focus (try dsimp only);omega);(focus (try dsimp only);omega))|fail))
    ·exact WkO.same _ _ (congrArg (fun q:BiS=>some (DObj.arr 1 (q.1.map u64))) hfe)
    ·exact WkD.eq (congrArg (fun q:BiS=>DV.pv (.bool q.2)) hfe)
  ·have hv':v=n:=ge_dec h hv
   subst hv'
   refine⟨Unit,fun _=>[(2,.ref 0 0),(3,.ref 1 0),(7,.ref 3 0),(62,.pv (.bool (biPass a b m v (z,false)).2))],fun _=>4,fun _=>[(0,.var (cellsM a)),(1,.var (cellsM b)),(2,.arr 1 ((biPass a b m v (z,false)).1.map u64)),(3,.var [.buf 2 v])],?_,?_⟩
   ·try conv=>whnf
    exact⟨(),(by exact Wk.sm rfl rfl rfl rfl rfl)⟩
   rintro⟨⟩
   have hst:=biEnd_step (a:=a) (b:=b) hz
   have hch:ch=true:=by assumption
   obtain⟨P,hP⟩:∃ P,P=biPass a b m v (z,false):=⟨_,rfl⟩
   rw[← hP] at hst hOv hzv
   rw[hyR] at hst
   rw[← hP]
   obtain⟨pz,pc⟩:=P
   simp only at hst
   try conv=>whnf
   refine⟨⟨(pz,pc),hOv.tab,fun h => ?_,fun h => ?_⟩,?_,(by exact Wk.sm rfl rfl rfl rfl rfl)⟩
   ·have h:pc=true:=h
    rw[hst,h];rfl
   ·have h:pc=false:=h
    rw[h] at hst
    exact (hOv.no h).trans hst.symm
   ·show 2*biCnt pz v m+(bif pc then 1 else 0)<2*biCnt z v m+(bif ch then 1 else 0)
    rw[hch]
    cases hq:pc with
    |true=>have h9:biCnt pz v m<biCnt z v m:=hOv.yes hq;simp only[cond_true];omega
    |false=>have h9:pz=z:=hOv.no hq;rw[h9];simp only[cond_true,cond_false];omega
 ·have hzz:z=Z:=hno h
  try conv=>whnf
  rw[hR]
  show PLe (.tup [.sl (z.map u64),.int .i64 0]) _
  rw[hzz]
  exact .refl _
theorem bi_ff4 {a b c d:Bool} (h:(bif (bif (bif a then true else b) then true else c) then true else d)=false):a=false∧b=false∧c=false∧d=false:=by
 cases a<;>cases b<;>cases c<;>cases d<;>simp_all
def bisB (a b:Mo) (v w:Nat):Bool:=((biAll a b).getD v 0).testBit w
def bisE (a:Mo) (v:Int) (b:Mo) (w:Int):Int:=bif biErr a b != 0 then biErr a b else bif (bif (bif (bif decide (v<0) then true else decide (v≥a.n)) then true else decide (w<0)) then true else decide (w≥b.n)) then 2 else 0
def bisP (a:Mo) (v:Int) (b:Mo) (w:Int):PV:=.tup [.bool (bif bisE a v b w != 0 then false else bisB a b v.toNat w.toNat),.int .i64 (bisE a v b w)]
theorem bs_Bisimilar (a b:Mo) (v w:Int) (hfa:FitM a) (hfb:FitM b):PureFn Tryz.prog 42 [a.pv,.int .i64 v,b.pv,.int .i64 w] (bisP a v b w):=by
 have hBt:=bs_Between a b hfa hfb
 obtain⟨R,hR⟩:∃ R,bisP a v b w=R:=⟨_,rfl⟩
 rw[hR]
 have hbad:∀ c,bisE a v b w=c→(c != 0)=true→R=.tup [.bool false,.int .i64 c]:=fun c h hc=>by rw[← hR,bisP,h,hc];rfl
 have hgood:bisE a v b w=0→R=.tup [.bool (bisB a b v.toNat w.toNat),.int .i64 0]:=fun h=>by rw[← hR,bisP,h];rfl
 have hE:bisE a v b w=bif biErr a b != 0 then biErr a b else bif (bif (bif (bif decide (v<0) then true else decide (v≥a.n)) then true else decide (w<0)) then true else decide (w≥b.n)) then 2 else 0:=rfl
 have hok:=biErr_ok (a:=a) (b:=b)
 obtain⟨q,hq,hq0,hq1⟩:∃ q,biP a b=.tup [q,.int .i64 (biErr a b)]∧(biErr a b=0→q=.sl ((biAll a b).map u64))∧(biErr a b≠0→q=.nil):=by
  unfold biP
  by_cases h:biErr a b=0
  ·rw[h];exact⟨_,rfl,fun _=>rfl,fun h=>absurd rfl h⟩
  ·rw[show (biErr a b != 0)=true by simpa using h];exact⟨_,rfl,fun h2=>absurd h2 h,fun _=>rfl⟩
 rw[hq] at hBt
 clear hR hq
 generalize biErr a b=c at hBt hE hok hq0 hq1
 refine PureFn.introC [2,4] mixed (fn:=Tryz.f42) rfl rfl rfl fun M w0 => ?_
 try conv=>whnf
 refine⟨Unit,fun _=>[(1,.pv (.int .i64 v)),(3,.pv (.int .i64 w)),(4,.ref 0 0),(6,.ref 1 0),(10,.pv q),(11,.pv (.int .i64 c))],fun _=>2,fun _=>[(0,.var (cellsM a)),(1,.var (cellsM b))],?_,?_⟩
 ·by_cases hc0:c=0
  ·obtain rfl:=hq0 hc0
   (try conv=>whnf);repeat' (first|(refine PureFn.dy hBt rfl ?_;try conv=>whnf)|fail)
   exact⟨(),(by exact Wk.sm rfl rfl rfl rfl rfl)⟩
  ·obtain rfl:=hq1 hc0
   (try conv=>whnf);repeat' (first|(refine PureFn.dy hBt rfl ?_;try conv=>whnf)|fail)
   exact⟨(),(by exact Wk.sm rfl rfl rfl rfl rfl)⟩
 rintro⟨⟩
 try conv=>whnf
 refine⟨{ _x:Unit // c=0 },fun _=>[(1,.pv (.int .i64 v)),(3,.pv (.int .i64 w)),(4,.ref 0 0),(6,.ref 1 0),(10,.pv (.sl ((biAll a b).map u64)))],fun _=>2,fun _=>[(0,.var (cellsM a)),(1,.var (cellsM b))],?_,?_⟩
 ·(try conv=>whnf);repeat' (first|(apply And.intro<;>try conv=>whnf)|(intro h;try conv=>whnf)|fail)
  ·have hc:(c != 0)=true:=h
   rw[hbad c (by rw[hE,hc];rfl) hc]
   exact .refl _
  ·have hc:c=0:=by simpa using h
   refine⟨⟨(),hc⟩,?_⟩
   (refine Wk.of ?_ ?_ rfl rfl rfl<;>repeat' (first|exact trivial|exact WkD.same _|exact WkO.same _ _ rfl|refine⟨?_,?_⟩|fail))
   exact WkD.eq (congrArg DV.pv (hq0 hc))
 rintro⟨_,hc⟩
 subst hc
 have hE:bisE a v b w=bif (bif (bif (bif decide (v<0) then true else decide (v≥a.n)) then true else decide (w<0)) then true else decide (w≥b.n)) then 2 else 0:=hE
 obtain⟨⟨n,hA⟩,⟨m,hB⟩,_,_⟩:=hok rfl
 have hnn:=hA.nn
 have hmm:=hB.nn
 have hn64:=hA.n64
 have hm64:=hB.n64
 have hZ:=biAll_tab a b
 rw[hnn,hmm,Int.toNat_natCast,Int.toNat_natCast] at hZ
 (try conv=>whnf);repeat' (first|(apply And.intro<;>try conv=>whnf)|(intro h;try conv=>whnf)|apply True.intro|(apply infoT;rfl)|(apply WhenQ.mk;(try conv=>whnf);rotate_left;(try conv=>whnf);rotate_right)|with_reducible assumption|(apply not_of;with_reducible assumption)|fail)
 ·rw[hbad 2 (by rw[hE,show (bif (bif (bif decide (v<0) then true else decide (v≥a.n)) then true else decide (w<0)) then true else decide (w≥b.n))=true from h];rfl) rfl]
  exact .refl _
 have h0:=bi_ff4 h
 rw[show (bif (bif (bif decide (v<0) then true else decide (v≥a.n)) then true else decide (w<0)) then true else decide (w≥b.n))=false from h] at hE
 obtain⟨v',rfl⟩:∃ v':Nat,v=(v':Int):=⟨v.toNat,by have:=of_decide_eq_false h0.1;omega⟩
 obtain⟨w',rfl⟩:∃ w':Nat,w=(w':Int):=⟨w.toNat,by have:=of_decide_eq_false h0.2.2.1;omega⟩
 have hvn:v'<n:=by have:=of_decide_eq_false h0.2.1;omega
 have hwm:w'<m:=by have:=of_decide_eq_false h0.2.2.2;omega
 obtain⟨t1,t2⟩:=hZ.at hvn
 have hbit:=bit_and ((biAll a b).getD v' 0) w' (Nat.lt_of_lt_of_le t2 (pow64_le hm64)) (by omega)
 refine⟨_,_,rfl,idx_map t1,rfl,?_⟩
 (try conv=>whnf);repeat' (first|(apply And.intro<;>try conv=>whnf)|fail)
 ·exact Int.natCast_nonneg _
 rw[hgood hE]
 have e:(andU (shrU ((biAll a b).getD v' 0:Nat) (w':Nat)) 1==1)=bisB a b (v':Int).toNat (w':Int).toNat:=by
  rw[hbit,Int.toNat_natCast,Int.toNat_natCast,bisB]
  cases ((biAll a b).getD v' 0).testBit w'<;>rfl
 rw[← e]
 exact .refl _
set_option maxHeartbeats 400000
theorem biOr_acc {z:List Nat} {y:Nat}:∀ (l:List Nat) (s:Nat),(l.foldl (fun s x=>s |||z.getD x 0) s).testBit y=(s.testBit y||l.any fun x=>(z.getD x 0).testBit y)
 | [],s=>by simp
 |x::r,s=>by rw[List.foldl_cons,biOr_acc r,Nat.testBit_or,List.any_cons,Bool.or_assoc]
theorem biOr_bit {z l:List Nat} {y:Nat}:(biOr z l).testBit y=l.any fun x=>(z.getD x 0).testBit y:=by rw[biOr,biOr_acc,Nat.zero_testBit,Bool.false_or]
theorem and_ne {a b y:Nat} (h1:a.testBit y=true) (h2:b.testBit y=true):a&&&b≠0:=fun h=>by
 have:=Nat.testBit_and a b y
 rw[h,h1,h2,Nat.zero_testBit] at this
 cases this
theorem and_sub {a b:Nat} (h:∀ y,a.testBit y=true→b.testBit y=true):a&&&b=a:=Nat.eq_of_testBit_eq fun y=>by
 rw[Nat.testBit_and]
 cases hq:a.testBit y with
 |false=>rfl
 |true=>rw[h y hq];rfl
structure BiRel (a b:Mo) (n m:Nat) (ρ:Nat→Nat→Prop):Prop where
 rng:∀ v w,ρ v w→v<n∧w<m
 fac:∀ v w,ρ v w→facN a v a.val.length=facN b w b.val.length
 forth:∀ v w i x,ρ v w→i<a.rel.length→(biR a i v).testBit x=true→∃ y,(biR b i w).testBit y=true∧ρ x y
 back:∀ v w i y,ρ v w→i<a.rel.length→(biR b i w).testBit y=true→∃ x,(biR a i v).testBit x=true∧ρ x y
def BiBelow (ρ:Nat→Nat→Prop) (z:List Nat):Prop:=∀ v w,ρ v w→(z.getD v 0).testBit w=true
section
variable {a b:Mo} {n m:Nat} {ρ:Nat→Nat→Prop}
theorem BiRel.mt (h:BiRel a b n m ρ) (hn:n≤64) {z:List Nat} (hz:BiBelow ρ z) {v w:Nat} (hr:ρ v w):biMt a b z v w=true:=by
 refine biForth_all (h.fac v w hr) fun i hi => ?_
 rw[biForth]
 have h1:biMeet z (biR b i w) (memL (biR a i v))=true:=by
  rw[biMeet,List.all_eq_true]
  intro x hx
  obtain⟨y,hy,hxy⟩:=h.forth v w i x hr hi (memL_mem.1 hx).2
  simpa using and_ne (hz x y hxy) hy
 have h2:biR b i w&&&biOr z (memL (biR a i v))=biR b i w:=and_sub fun y hy=>by
  obtain⟨x,hx,hxy⟩:=h.back v w i y hr hi hy
  rw[biOr_bit,List.any_eq_true]
  exact⟨x,memL_mem.2 ⟨by have:=(h.rng x y hxy).1;omega,hx⟩,hz x y hxy⟩
 rw[h1,h2,cond_true]
 exact beq_self_eq_true _
theorem BiRel.step (h:BiRel a b n m ρ) (hn:n≤64) {s:BiS} (ht:BiTab s.1 n m) (hz:BiBelow ρ s.1) {v w:Nat} (hv:v<n):BiBelow ρ (biStep a b v w s).1:=by
 intro v' w' hr
 unfold biStep
 cases hb:(s.1.getD v 0).testBit w with
 |false=>exact hz v' w' hr
 |true =>
  cases hm:biMt a b s.1 v w with
  |true=>exact hz v' w' hr
  |false =>
   show ((biClr s.1 v w).getD v' 0).testBit w'=true
   rw[biClr_bit ht hv]
   cases hd:decide (v'=v∧w'=w) with
   |false=>exact hz v' w' hr
   |true =>
    obtain⟨rfl,rfl⟩:=of_decide_eq_true hd
    rw[h.mt hn hz hr] at hm
    cases hm
theorem BiRel.row (h:BiRel a b n m ρ) (hn:n≤64) {z:List Nat} {v:Nat} (hv:v<n):∀ {k:Nat} {s:BiS},BiOk n m z s→BiBelow ρ s.1→k≤m→BiBelow ρ (biRow a b v k s).1
 |0,_,_,hz,_=>hz
 |k+1,_,ho,hz,hk=>h.step hn (ho.row (a:=a) (b:=b) hv (k:=k) (by omega)).tab (h.row hn hv (k:=k) ho hz (by omega)) hv
theorem BiRel.pass (h:BiRel a b n m ρ) (hn:n≤64) {z:List Nat}:∀ {k:Nat} {s:BiS},BiOk n m z s→BiBelow ρ s.1→k≤n→BiBelow ρ (biPass a b m k s).1
 |0,_,_,hz,_=>hz
 |k+1,_,ho,hz,hk=>h.row hn (by omega) (ho.pass (a:=a) (b:=b) (k:=k) (by omega)) (h.pass hn (k:=k) ho hz (by omega)) (Nat.le_refl m)
theorem BiRel.iter (h:BiRel a b n m ρ) (hn:n≤64):∀ (k:Nat) (z:List Nat),BiTab z n m→BiBelow ρ z→BiBelow ρ (biIter a b n m k z)
 |0,_,_,hz=>hz
 |k+1,z,ht,hz=>by
  have ho:=(BiOk.start ht).pass (a:=a) (b:=b) (k:=n) (Nat.le_refl n)
  rw[biIter]
  cases (biPass a b m n (z,false)).2 with
  |false=>exact hz
  |true=>exact h.iter hn k _ ho.tab (h.pass hn (BiOk.start ht) hz (Nat.le_refl n))
theorem BiRel.all (h:BiRel a b a.n.toNat b.n.toNat ρ) (hn:a.n.toNat≤64) {v w:Nat} (hr:ρ v w):bisB a b v w=true:=by
 refine h.iter hn _ _ (biZ0_tab _ _) (fun v' w' hr' => ?_) v w hr
 obtain⟨h1,h2⟩:=h.rng v' w' hr'
 rw[biZ0,List.getD_eq_getElem?_getD,List.getElem?_replicate,if_pos h1,Option.getD_some,Nat.testBit_two_pow_sub_one]
 simpa using h2
end
set_option maxHeartbeats 4000000
def colZ (z:List (List Bool)) (e:Nat):List PV:=(z.getD e []).map PV.bool
def lenZ (z:List (List Bool)) (e:Nat):Nat:=(colZ z e).length
def AT (a b:Act) (n:Nat) (z:List (List Bool)):List (Nat×DObj):=(0,.var (cellsA a))::(1,.var (cellsA b))::(2,.var (tabC n (lenZ z)))::tabO n (colZ z)
theorem AT_get {a b:Act} {n e:Nat} {z:List (List Bool)} (h:e<n):objsOf (AT a b n z) (e+8)=some (.arr 1 (colZ z e)):=tabO_get h
theorem AT_in {a b:Act} {n nx:Nat} {z:List (List Bool)} (hn:n≤8) (hnx:16≤nx):∀ q,q∈AT a b n z→q.1<nx∧q.2.under nx=true:=fun q hq=>by
 rcases List.mem_cons.1 hq with rfl|hq
 ·exact⟨by show 0<nx;omega,rfl⟩
 rcases List.mem_cons.1 hq with rfl|hq
 ·exact⟨by show 1<nx;omega,rfl⟩
 rcases List.mem_cons.1 hq with rfl|hq
 ·refine⟨by show 2<nx;omega,unders_mem.2 fun d hd => ?_⟩
  obtain⟨e,he,rfl⟩:=List.mem_map.1 hd
  have he:=List.mem_range.1 he
  show Nat.blt (e+8) nx=true
  rw[Nat.blt_eq];omega
 obtain⟨e,he,rfl⟩:=List.mem_map.1 hq
 have he:=List.mem_range.1 he
 exact⟨by show e+8<nx;omega,rfl⟩
theorem AT_all {a b:Act} {n nx:Nat} {z:List (List Bool)} {g:Nat→Option DObj} {L:DH} (hn:n≤8) (hnx:16≤nx) (h0:g 0=some (.var (cellsA a))) (h1:g 1=some (.var (cellsA b))) (h2:g 2=some (.var (tabC n (lenZ z)))) (h:∀ e,e<n→g (e+8)=some (.arr 1 (colZ z e))) :
  ∀ q,q∈AT a b n z→(g q.1=some q.2∨(g q.1=none∧L.next≤q.1∧∃ sz,q.2=.arr sz []))∧q.1<nx∧q.2.under nx=true:=fun q hq=>by
 refine⟨.inl ?_,AT_in hn hnx q hq⟩
 rcases List.mem_cons.1 hq with rfl|hq
 ·exact h0
 rcases List.mem_cons.1 hq with rfl|hq
 ·exact h1
 rcases List.mem_cons.1 hq with rfl|hq
 ·exact h2
 obtain⟨e,he,rfl⟩:=List.mem_map.1 hq
 exact h e (List.mem_range.1 he)
theorem AT_mid {a b:Act} {n nx:Nat} (hn:n≤8) (hnx:16≤nx) {z:List (List Bool)} {g:Nat→Option DObj} {L:DH} (h:∀ k,k<16→g k=objsOf (AT a b n z) k) :
  ∀ q,q∈AT a b n z→(g q.1=some q.2∨(g q.1=none∧L.next≤q.1∧∃ sz,q.2=.arr sz []))∧q.1<nx∧q.2.under nx=true :=
 AT_all (g:=g) hn hnx ((h 0 (by omega)).trans rfl) ((h 1 (by omega)).trans rfl) ((h 2 (by omega)).trans rfl) fun e he=>(h (e+8) (by omega)).trans (AT_get he)
def nilT (n:Nat):List (List Bool):=List.replicate n []
theorem colZ_nil (n e:Nat):colZ (nilT n) e=[]:=by
 unfold colZ nilT
 rw[List.getD_eq_getElem?_getD,List.getElem?_replicate]
 split<;>rfl
theorem AT_start {a b:Act} {n:Nat} (hn:n≤8) {L:DH} (h0:L.get 0=some (.var (cellsA a))) (h1:L.get 1=some (.var (cellsA b))) (h2:L.get 2=some (.var (List.replicate n (.pv .nil)))) (hno:∀ k,3≤k→L.get k=none) (hnx:L.next≤8) :
  ∀ q,q∈AT a b n (nilT n)→WkO L (AT a b n (nilT n)) q.1 q.2∧(L.get q.1=none→L.next≤q.1)∧q.1<16∧q.2.under 16=true:=fun q hq=>by
 refine⟨?_,?_,AT_in hn (Nat.le_refl 16) q hq⟩
 ·rcases List.mem_cons.1 hq with rfl|hq
  ·exact .same _ _ h0
  rcases List.mem_cons.1 hq with rfl|hq
  ·exact .same _ _ h1
  rcases List.mem_cons.1 hq with rfl|hq
  ·refine .var 2 _ _ h2 (by rw[tabC_len,List.length_replicate]) fun i d d' hd hd' => ?_
   have hi:i<n:=by
    have:=(List.getElem?_eq_some_iff.1 hd).1
    simpa using this
   rw[List.getElem?_replicate,if_pos hi] at hd
   rw[tabC_get hi] at hd'
   obtain rfl:=Option.some.inj hd
   obtain rfl:=Option.some.inj hd'
   rw[lenZ,colZ_nil]
   exact .new _ (i+8) 1 (.inl rfl) (hno _ (by omega)) (by rw[AT_get hi,colZ_nil])
  obtain⟨e,he,rfl⟩:=List.mem_map.1 hq
  show WkO L _ (e+8) (.arr 1 (colZ (nilT n) e))
  rw[colZ_nil]
  exact .new _ 1 (hno _ (by show 3≤e+8;omega))
 ·rcases List.mem_cons.1 hq with rfl|hq
  ·intro h;rw[h0] at h;cases h
  rcases List.mem_cons.1 hq with rfl|hq
  ·intro h;rw[h1] at h;cases h
  rcases List.mem_cons.1 hq with rfl|hq
  ·intro h;rw[h2] at h;cases h
  obtain⟨e,he,rfl⟩:=List.mem_map.1 hq
  intro _
  show L.next≤e+8
  omega
def bldT (a b:Act) (e f:Nat):List (List Bool):=(List.range a.pre.length).map fun e'=>if e'<e then row0 a b e' else if e'=e then (row0 a b e).take f else []
theorem bld_at {a b:Act} {e f e':Nat} (h:e'<a.pre.length):(bldT a b e f).getD e' []=if e'<e then row0 a b e' else if e'=e then (row0 a b e).take f else []:=by
 rw[bldT,List.getD_eq_getElem?_getD,List.getElem?_map,List.getElem?_range h];rfl
theorem bld_nil (a b:Act):bldT a b 0 0=nilT a.pre.length:=by
 apply List.ext_getElem?
 intro i
 rw[bldT,nilT,List.getElem?_map,List.getElem?_replicate]
 by_cases h:i<a.pre.length
 ·rw[List.getElem?_range h,if_pos h]
  simp
 ·rw[List.getElem?_eq_none (by simp;omega),if_neg h];rfl
theorem row0_len (a b:Act) (e:Nat):(row0 a b e).length=b.pre.length:=by simp[row0]
theorem bld_next (a b:Act) (e:Nat):bldT a b e b.pre.length=bldT a b (e+1) 0:=by
 refine List.map_congr_left fun e' _ => ?_
 have h1:(row0 a b e).take b.pre.length=row0 a b e:=by rw[← row0_len a b e,List.take_length]
 by_cases h:e'<e
 ·rw[if_pos h,if_pos (by omega)]
 ·by_cases h2:e'=e
  ·subst h2
   rw[if_neg h,if_pos rfl,if_pos (by omega),h1]
  ·rw[if_neg h,if_neg h2,if_neg (by omega)]
   simp
theorem bld_all (a b:Act):bldT a b a.pre.length 0=tab0 a b:=List.map_congr_left fun e' h=>by rw[if_pos (List.mem_range.1 h)]
theorem bld_cell {a b:Act} {e f:Nat} (he:e<a.pre.length) (hf:f<b.pre.length):colZ (bldT a b e (f+1)) e=colZ (bldT a b e f) e++[.bool (z0B a b e f)]:=by
 have h:(row0 a b e)[f]? = some (z0B a b e f):=by rw[row0,List.getElem?_map,List.getElem?_range hf];rfl
 rw[colZ,colZ,bld_at he,bld_at he,if_neg (Nat.lt_irrefl e),if_pos rfl,if_neg (Nat.lt_irrefl e),if_pos rfl,tak_map h]
theorem bld_else {a b:Act} {e f e':Nat} (h:e'≠e):colZ (bldT a b e (f+1)) e'=colZ (bldT a b e f) e':=by
 by_cases he:e'<a.pre.length
 ·rw[colZ,colZ,bld_at he,bld_at he,if_neg h,if_neg h]
 ·rw[colZ,colZ,List.getD_eq_getElem?_getD,List.getD_eq_getElem?_getD,List.getElem?_eq_none (by simp[bldT];omega),List.getElem?_eq_none (by simp[bldT];omega)]
theorem frz1s_rows (col:Nat→List PV):∀ (l:List Nat) (L:DH) (K:List PV→DH→Prop),(∀ e,e∈l→L.get (e+8)=some (.arr 1 (col e))∨L.get (e+8)=some (.fz (col e)))→L.lo≤8→(∀ L',K (l.map fun e=>.sl (col e)) L')→frz1s (l.map fun e=>.buf (e+8) (col e).length) L K
 | [],L,_,_,_,hK=>hK L
 |e::r,L,K,h,hlo,hK=>by
  rw[List.map_cons,frz1s,frz1]
  rcases h e (by simp) with h1|h1
  ·rw[h1]
   refine⟨rfl,by rw[Nat.ble_eq];omega,frz1s_rows col r _ _ (fun e' he' => ?_) hlo fun L'=>hK L'⟩
   by_cases q:e'=e
   ·subst q;exact .inr (DH.put_same L _ _)
   ·rw[DH.put_ne L _ (by omega)];exact h e' (by simp[he'])
  ·rw[h1]
   exact⟨rfl,frz1s_rows col r _ _ (fun e' he'=>h e' (by simp[he'])) hlo fun L'=>hK L'⟩
theorem brw1s_rows (col:Nat→List PV) (L:DH):∀ (l:List Nat) (K:List PV→Prop),(∀ e,e∈l→L.get (e+8)=some (.arr 1 (col e)))→K (l.map fun e=>.sl (col e))→brw1s (l.map fun e=>.buf (e+8) (col e).length) L K
 | [],_,_,hK=>hK
 |e::r,K,h,hK=>by
  rw[List.map_cons,brw1s,brw1,h e (by simp)]
  exact⟨rfl,brw1s_rows col L r _ (fun e' he'=>h e' (by simp[he'])) hK⟩
theorem tabPV_rows {z:List (List Bool)} {n:Nat} (h:z.length=n):tabPV z=.sl ((List.range n).map fun e=>.sl (colZ z e)):=by
 rw[tabPV]
 congr 1
 apply List.ext_getElem?
 intro i
 rw[List.getElem?_map,List.getElem?_map]
 by_cases hi:i<n
 ·rw[List.getElem?_range hi,getD_mem (d:=[]) (by rw[h];exact hi)];rfl
 ·rw[List.getElem?_eq_none (by rw[h];omega),List.getElem?_eq_none (by simp;omega)];rfl
theorem mt_brws {a b:Act} {n:Nat} {Z:List (List Bool)} {L:DH} (h2:L.get 2=some (.var (tabC n (lenZ Z)))) (hr:∀ e,e<n→L.get (e+8)=some (.arr 1 (colZ Z e))) (hz:tabPV Z=.sl ((List.range n).map fun e=>.sl (colZ Z e))) (e f:Nat) :
  brws [.agg (cellsA a),.agg (cellsA b),.vbuf 2 n,.pv (i64 e),.pv (i64 f)] L fun qs=>PLes qs [a.pv,b.pv,tabPV Z,i64 e,i64 f]:=by
 rw[hz]
 show (match L.get 2 with
   |some (.var cs)=>brw1s cs L (fun ps=>n=ps.length∧ps.all PV.one=true∧PLes [a.pv,b.pv,.sl ps,i64 e,i64 f] [a.pv,b.pv,.sl ((List.range n).map fun e=>.sl (colZ Z e)),i64 e,i64 f])
   |_=>False)
 rw[h2]
 refine brw1s_rows (colZ Z) L (List.range n) _ (fun e he=>hr e (List.mem_range.1 he)) ⟨by simp,by simp[PV.one],.refl _,.refl _,.refl _,.refl _,.refl _,trivial⟩
theorem colZ_clr {z:List (List Bool)} {e f:Nat} (he:e<z.length):colZ (clrT z e f) e=(colZ z e).set f (.bool false):=by
 unfold colZ clrT
 rw[List.getD_eq_getElem?_getD,List.getElem?_set,if_pos rfl,if_pos he,Option.getD_some,List.map_set]
theorem colZ_cle {z:List (List Bool)} {e f e':Nat} (h:e'≠e):colZ (clrT z e f) e'=colZ z e':=by
 unfold colZ clrT
 rw[List.getD_eq_getElem?_getD,List.getElem?_set,if_neg (fun q=>h q.symm),← List.getD_eq_getElem?_getD]
theorem lenZ_clr (z:List (List Bool)) (e f e':Nat):lenZ (clrT z e f) e'=lenZ z e':=by
 by_cases h:e'=e
 ·subst h
  by_cases he:e'<z.length
  ·rw[lenZ,lenZ,colZ_clr he,List.length_set]
  ·have:clrT z e' f=z:=by rw[clrT,List.set_eq_of_length_le (by omega)]
   rw[this]
 ·rw[lenZ,lenZ,colZ_cle h]
theorem tabC_clr (z:List (List Bool)) (n e f:Nat):tabC n (lenZ (clrT z e f))=tabC n (lenZ z):=by
 rw[show lenZ (clrT z e f)=lenZ z from funext fun e'=>lenZ_clr z e f e']
theorem al1 (x y:Asg):PureFn Tryz.prog 107 [x.pv,y.pv] (.bool (asS x y)):=by
 refine PureFn.intro mixed (fn:=Tryz.f107) rfl rfl rfl fun M w0 => ?_
 (try conv=>whnf);repeat' (first|(apply And.intro<;>try conv=>whnf)|(intro h;try conv=>whnf)|apply True.intro|(apply WhenQ.mk;(try conv=>whnf);rotate_left;(try conv=>whnf);rotate_right)|with_reducible assumption|(refine PureFn.dcq (f:=33) rfl ?_;try conv=>whnf)|(refine⟨_,_,fm_Same ?_ ?_,?_,?_⟩;rotate_left 2;(focus first|(refine⟨?_,?_,trivial⟩<;>first|exact PLe.refl _|exact PLe.nil)|exact trivial);try conv=>whnf)|fail)
 all_goals exact .refl _
theorem cp_alike (a b:Act) (hA:Shp a a.pre.length) (hB:Shp b b.pre.length) (hr:a.rel.length=b.rel.length) (hpa:∀ l,l∈a.post→l.length≤1000) (h0:0<a.pre.length):PureFn Tryz.prog 55 [a.pv,b.pv] (tabPV (alkI a b (tab0 a b))):=by
 have hn:=hA.n8
 have hm:=hB.n8
 refine PureFn.introC [2,12] mixed (fn:=Tryz.f55) rfl rfl rfl fun M w0 => ?_
 have hN:((a.pre.map fpv).length:Int).toNat=a.pre.length:=by simp
 try conv=>whnf
 refine⟨Unit,fun _=>[(2,.ref 0 0),(3,.ref 1 0),(5,.vbuf 2 a.pre.length)],fun _=>16,fun _=>AT a b a.pre.length (nilT a.pre.length),?_,?_⟩
 ·(try conv=>whnf);repeat' (first|(apply And.intro<;>try conv=>whnf)|(apply Or.inr;refine⟨rfl,?_,rfl,?_⟩;try conv=>whnf)|fail)
  all_goals first
   |rfl
   |exact (show (0:Int)≤((a.pre.map fpv).length:Int) from Int.natCast_nonneg _)
   |exact (show ((a.pre.map fpv).length:Int)≤(big:Nat) by rw[List.length_map];unfold big;omega)
   |exact (show (0:Int)<((a.pre.map fpv).length:Int) by rw[List.length_map];omega)
   |skip
  rw[hN]
  refine⟨(),Wk.ofP ⟨.same _,.same _,.same _,trivial⟩ rfl rfl rfl (AT_start hn rfl rfl rfl (fun k hk => ?_) (show 3≤8 by decide))⟩
  show (bif Nat.beq k 2 then _ else bif Nat.beq k 1 then _ else bif Nat.beq k 0 then _ else none)=none
  rw[beq_no (by omega),beq_no (by omega),beq_no (by omega)];rfl
 rintro⟨⟩
 refine⟨Unit,fun _=>[(2,.ref 0 0),(3,.ref 1 0),(5,.vbuf 2 a.pre.length)],fun _=>16,fun _=>AT a b a.pre.length (tab0 a b),?_,?_⟩
 ·try conv=>whnf
  refine⟨{ e:Nat // e≤a.pre.length },fun e=>[(2,.ref 0 0),(3,.ref 1 0),(5,.vbuf 2 a.pre.length),(18,.pv (i64 (a.pre.map fpv).length)),(19,.pv (i64 e.1))],fun _=>16,fun e=>AT a b a.pre.length (bldT a b e.1 0),fun e=>a.pre.length-e.1,⟨⟨0,Nat.zero_le _⟩,?_⟩,?_⟩
  ·show Wk _ _ _ _ (AT a b a.pre.length (bldT a b 0 0))
   rw[bld_nil]
   (refine Wk.ofN 0 ?_ ?_ rfl rfl rfl ?_<;>repeat' (first|exact trivial|exact WkD.same _|refine⟨?_,?_⟩|fail))
   exact AT_mid hn (Nat.le_refl 16) fun k hk=>rfl
  rintro⟨e,he⟩
  (try conv=>whnf);repeat' (first|(apply And.intro<;>try conv=>whnf)|(intro h;try conv=>whnf)|fail)
  ·have he':e<a.pre.length:=by simpa using lt_dec h
   refine⟨{ f:Nat // f≤b.pre.length },fun f=>[(2,.ref 0 0),(3,.ref 1 0),(5,.vbuf 2 a.pre.length),(18,.pv (i64 (a.pre.map fpv).length)),(19,.pv (i64 e)),(6,.pv (i64 e)),(24,.pv (i64 (b.pre.map fpv).length)),(25,.pv (i64 f.1))],fun _=>16,fun f=>AT a b a.pre.length (bldT a b e f.1),fun f=>b.pre.length-f.1,⟨⟨0,Nat.zero_le _⟩,?_⟩,?_⟩
   ·(refine Wk.ofN 0 ?_ ?_ rfl rfl rfl ?_<;>repeat' (first|exact trivial|exact WkD.same _|refine⟨?_,?_⟩|fail))
    exact AT_mid hn (Nat.le_refl 16) fun k hk=>rfl
   rintro⟨f,hf⟩
   (try conv=>whnf);repeat' (first|(apply And.intro<;>try conv=>whnf)|(intro h;try conv=>whnf)|fail)
   ·have hf':f<b.pre.length:=by simpa using lt_dec h
    obtain⟨pa,hpa'⟩:∃ y,a.pre[e]? = some y:=⟨_,List.getElem?_eq_getElem he'⟩
    obtain⟨pb,hpb'⟩:∃ y,b.pre[f]? = some y:=⟨_,List.getElem?_eq_getElem hf'⟩
    obtain⟨qa,hqa⟩:∃ y,a.post[e]? = some y:=⟨_,List.getElem?_eq_getElem (by rw[hA.post];exact he')⟩
    obtain⟨qb,hqb⟩:∃ y,b.post[f]? = some y:=⟨_,List.getElem?_eq_getElem (by rw[hB.post];exact hf')⟩
    have i1:=idx_map (g:=fpv) hpa'
    have i2:=idx_map (g:=fpv) hpb'
    have i3:=idx_map (g:=postPV) hqa
    have i4:=idx_map (g:=postPV) hqb
    have hql:=hpa qa (List.mem_iff_getElem?.2 ⟨_,hqa⟩)
    refine⟨Plan.lin 0 12,[10],by kernel_rfl,?_⟩
    (try conv=>whnf);repeat' (first|(apply And.intro<;>try conv=>whnf)|(apply infoT;rfl)|(refine⟨_,_,rfl,idx_map (by with_reducible assumption),rfl,?_⟩;try conv=>whnf)|fail)
    refine DC.alone (p:=.bool (eqL asS qa qb)) rfl (fun M w0=>eqf_A 107 asS rfl qa qb hql (fun s _ t _=>al1 s t) M w0) ?_
    have hS:=fm_Same pa pb
    try conv=>whnf
    refine⟨Plan.lin 0 24,[21,23],by kernel_rfl,?_⟩
    (try conv=>whnf);repeat' (first|(apply And.intro<;>try conv=>whnf)|(apply infoT;rfl)|fail)
    ·exact rfl
    refine⟨e,rfl,he',?_⟩
    try conv=>whnf
    rw[tabC_get he']
    (try conv=>whnf);repeat' (first|(apply And.intro<;>try conv=>whnf)|(intro h;try conv=>whnf)|apply True.intro|(apply infoT;rfl)|(apply cellsI;rfl)|(apply szI;rfl)|(apply WhenQ.mk;(try conv=>whnf);rotate_left;(try conv=>whnf);rotate_right)|with_reducible assumption|(refine⟨_,_,rfl,idx_map (by with_reducible assumption),rfl,?_⟩;try conv=>whnf)|(refine⟨_,(by (conv=>whnf);exact hS),rfl,?_⟩;try conv=>whnf)|fail)
    have hcl:(colZ (bldT a b e f) e).length≤8:=by
     rw[colZ,List.length_map,bld_at he',if_neg (Nat.lt_irrefl e),if_pos rfl,List.length_take];omega
    have hel:e+1≤(tabC a.pre.length (lenZ (bldT a b e f))).length:=by rw[tabC_len];exact he'
    rw[get_eq (k:=e+8) (o:=some (.arr 1 (colZ (bldT a b e f) e))) (AT_get (a:=a) (b:=b) he')]
    (try conv=>whnf);repeat' (first|(apply And.intro<;>try conv=>whnf)|(apply infoT;rfl)|(apply cellsI;rfl)|fail)
    all_goals first
     |exact (show (colZ (bldT a b e f) e).length+1≤4294967296 by omega)
     |exact rfl
     |skip
    refine⟨e,rfl,he',?_⟩
    try conv=>whnf
    rw[ble_s (e:=e) (b:=(tabC a.pre.length (lenZ (bldT a b e f))).length) ?_ hel]
    try conv=>whnf
    ·have hz:z0B a b e f=bif eqL asS qa qb then same pa pb else false:=by
      rw[z0B,List.getD_eq_getElem?_getD,List.getD_eq_getElem?_getD,List.getD_eq_getElem?_getD,List.getD_eq_getElem?_getD,hpa',hpb',hqa,hqb];rfl
     have hbc:=bld_cell (f:=f) he' hf'
     rw[hz] at hbc
     refine⟨⟨f+1,hf'⟩,by show b.pre.length-(f+1)<b.pre.length-f;omega,?_⟩
     (refine Wk.ofN 0 ?_ ?_ rfl rfl rfl ?_<;>repeat' (first|exact trivial|exact WkD.same _|refine WkD.int ?_|refine⟨?_,?_⟩|(refine wrapA ?_ ?_ ?_;(focus simp;done);(focus (try dsimp only);omega);(focus (try dsimp only);omega))|fail))
     refine AT_all (g:=_) hn (Nat.le_refl 16) rfl rfl ?_ fun e' hg' => ?_
     ·exact congrArg (fun z=>some (DObj.var z)) (tabC_put he' (by rw[lenZ,hbc]) (fun e' h=>by rw[lenZ,lenZ,bld_else h]))
     ·show (bif Nat.beq (e'+8) (e+8) then some (DObj.arr 1 (colZ (bldT a b e f) e++[.bool (bif eqL asS qa qb then same pa pb else false)])) else objsOf (AT a b a.pre.length (bldT a b e f)) (e'+8))=_
      by_cases q:e'=e
      ·rw[q,Nat.beq_refl,cond_true,hbc]
      ·rw[beq_no (by omega),cond_false,AT_get hg',bld_else q]
    ·exact rfl
   ·have hf':f=b.pre.length:=by have:=ge_dec (m:=(b.pre.map fpv).length) h (by simpa using hf);simpa using this
    subst hf'
    refine⟨⟨e+1,he'⟩,by show a.pre.length-(e+1)<a.pre.length-e;omega,?_⟩
    have hb:=bld_next a b e
    (refine Wk.ofN 0 ?_ ?_ rfl rfl rfl ?_<;>repeat' (first|exact trivial|exact WkD.same _|refine WkD.int ?_|refine⟨?_,?_⟩|(refine wrapA ?_ ?_ ?_;(focus simp;done);(focus (try dsimp only);omega);(focus (try dsimp only);omega))|fail))
    exact AT_mid hn (Nat.le_refl 16) fun k hk=>congrFun (congrArg (fun z=>objsOf (AT a b a.pre.length z)) hb) k
  ·have he':e=a.pre.length:=by have:=ge_dec (m:=(a.pre.map fpv).length) h (by simpa using he);simpa using this
   subst he'
   refine⟨(),?_⟩
   (refine Wk.ofN 0 ?_ ?_ rfl rfl rfl ?_<;>repeat' (first|exact trivial|exact WkD.same _|refine⟨?_,?_⟩|fail))
   exact AT_mid hn (Nat.le_refl 16) fun k hk=>congrFun (congrArg (fun z=>objsOf (AT a b a.pre.length z)) (bld_all a b)) k
 rintro⟨⟩
 have hT0:Tab (tab0 a b) a.pre.length b.pre.length:=⟨by simp[tab0],fun r hr=>by
  obtain⟨e,_,rfl⟩:=List.mem_map.1 hr
  exact row0_len a b e⟩
 obtain⟨R,hR⟩:∃ R,alkI a b (tab0 a b)=R:=⟨_,rfl⟩
 rw[hR]
 try conv=>whnf
 refine⟨{ x:List (List Bool)×Bool // Tab x.1 a.pre.length b.pre.length∧(x.2=true→alkI a b x.1=R)∧(x.2=false→x.1=R) },fun x=>[(2,.ref 0 0),(3,.ref 1 0),(5,.vbuf 2 a.pre.length),(9,.pv (.bool x.1.2))],fun _=>16,fun x=>AT a b a.pre.length x.1.1,fun x=>2*cntZ x.1.1 a.pre.length b.pre.length+(bif x.1.2 then 1 else 0),⟨⟨(tab0 a b,true),hT0,fun _=>hR,fun h=>(by cases h)⟩,?_⟩,?_⟩
 ·(refine Wk.ofN 0 ?_ ?_ rfl rfl rfl ?_<;>repeat' (first|exact trivial|exact WkD.same _|refine⟨?_,?_⟩|fail))
  exact AT_mid hn (Nat.le_refl 16) fun k hk=>rfl
 rintro⟨⟨z,ch⟩,hz,hy,hno⟩
 simp only at hz hy hno
 (try conv=>whnf);repeat' (first|(apply And.intro<;>try conv=>whnf)|(intro h;try conv=>whnf)|fail)
 ·have hyR:=hy h
  have hO:=fun (k:Nat) (hk:k≤a.pre.length)=>(OkS.start hz).pass (a:=a) (b:=b) (k:=k) hk
  refine⟨{ e:Nat // e≤a.pre.length },fun e=>[(2,.ref 0 0),(3,.ref 1 0),(5,.vbuf 2 a.pre.length),(9,.pv (.bool (passZ a b b.pre.length e.1 (z,false)).2)),(66,.pv (i64 a.pre.length)),(67,.pv (i64 e.1))],fun _=>16,fun e=>AT a b a.pre.length (passZ a b b.pre.length e.1 (z,false)).1,fun e=>a.pre.length-e.1,⟨⟨0,Nat.zero_le _⟩,?_⟩,?_⟩
  ·(refine Wk.ofN 0 ?_ ?_ rfl rfl rfl ?_<;>repeat' (first|exact trivial|exact WkD.same _|refine⟨?_,?_⟩|fail))
   exact AT_mid hn (Nat.le_refl 16) fun k hk=>rfl
  rintro⟨e,he⟩
  (try conv=>whnf);repeat' (first|(apply And.intro<;>try conv=>whnf)|(intro h;try conv=>whnf)|(apply infoT;rfl)|fail)
  ·exact rfl
  ·have he':e<a.pre.length:=by
    have h2:decide ((e:Int)<((a.pre.length:Nat):Int))=true:=by assumption
    have:=of_decide_eq_true h2
    omega
   refine⟨e,rfl,he',?_⟩
   try conv=>whnf
   rw[tabC_get he']
   try conv=>whnf
   have hOe:=hO e (by omega)
   have hre:∀ z:List (List Bool),Tab z a.pre.length b.pre.length→lenZ z e=b.pre.length:=fun z hz=>by
    rw[lenZ,colZ,List.length_map]
    exact hz.row _ (List.mem_iff_getElem?.2 ⟨e,getD_mem (by rw[hz.len];exact he')⟩)
   refine⟨{ f:Nat // f≤b.pre.length },fun f=>[(2,.ref 0 0),(3,.ref 1 0),(5,.vbuf 2 a.pre.length),(9,.pv (.bool (rowZ a b e f.1 (passZ a b b.pre.length e (z,false))).2)),(66,.pv (i64 a.pre.length)),(67,.pv (i64 e)),(10,.pv (i64 e)),(74,.pv (i64 (lenZ (passZ a b b.pre.length e (z,false)).1 e))),(75,.pv (i64 f.1))],fun _=>16,fun f=>AT a b a.pre.length (rowZ a b e f.1 (passZ a b b.pre.length e (z,false))).1,fun f=>b.pre.length-f.1,⟨⟨0,Nat.zero_le _⟩,?_⟩,?_⟩
   ·(refine Wk.ofN 0 ?_ ?_ rfl rfl rfl ?_<;>repeat' (first|exact trivial|exact WkD.same _|refine⟨?_,?_⟩|fail))
    exact AT_mid hn (Nat.le_refl 16) fun k hk=>rfl
   rintro⟨f,hf⟩
   have hle:=hre _ hOe.tab
   (try conv=>whnf);repeat' (first|(apply And.intro<;>try conv=>whnf)|(intro h;try conv=>whnf)|(apply infoT;rfl)|fail)
   ·exact rfl
   ·have hf':f<b.pre.length:=by
     have h2:decide ((f:Int)<((lenZ (passZ a b b.pre.length e (z,false)).1 e:Nat):Int))=true:=by assumption
     have:=of_decide_eq_true h2
     omega
    have hOr:=hOe.row (a:=a) (b:=b) he' (k:=f) (by omega)
    have hls:=hre _ hOr.tab
    obtain⟨t1,t2⟩:=hOr.tab.at he' hf'
    have t3:(colZ (rowZ a b e f (passZ a b b.pre.length e (z,false))).1 e)[f]? = some (.bool (zAt (rowZ a b e f (passZ a b b.pre.length e (z,false))).1 e f)):=by rw[colZ,List.getElem?_map,t2];rfl
    refine⟨e,rfl,he',?_⟩
    try conv=>whnf
    rw[tabC_get he']
    try conv=>whnf
    rw[get_eq (k:=e+8) (o:=some (.arr 1 (colZ (rowZ a b e f (passZ a b b.pre.length e (z,false))).1 e))) (AT_get (a:=a) (b:=b) he')]
    (try conv=>whnf);repeat' (first|(apply And.intro<;>try conv=>whnf)|fail)
    ·exact rfl
    refine⟨f,rfl,by rw[hls];exact hf',?_⟩
    try conv=>whnf
    rw[get_eq (k:=e+8) (o:=some (.arr 1 (colZ (rowZ a b e f (passZ a b b.pre.length e (z,false))).1 e))) (AT_get (a:=a) (b:=b) he')]
    refine⟨rfl,_,t3,?_⟩
    have hMt:=cp_matched a b a.pre.length b.pre.length hA hB hr (rowZ a b e f (passZ a b b.pre.length e (z,false))).1 hOr.tab e f he' hf'
    have htp:=tabPV_rows hOr.tab.len
    have hg8:∀ e',e'<a.pre.length→objsOf (AT a b a.pre.length (rowZ a b e f (passZ a b b.pre.length e (z,false))).1) (e'+8)=some (.arr 1 (colZ (rowZ a b e f (passZ a b b.pre.length e (z,false))).1 e')):=fun e' h=>AT_get h
    generalize hv:zAt (rowZ a b e f (passZ a b b.pre.length e (z,false))).1 e f=v at t3 ⊢
    (try conv=>whnf);repeat' (first|(apply And.intro<;>try conv=>whnf)|(intro h;try conv=>whnf)|apply True.intro|(apply infoT;rfl)|(apply WhenQ.mk;(try conv=>whnf);rotate_left;(try conv=>whnf);rotate_right)|with_reducible assumption|(exact PureFn.dcb hMt rfl (mt_brws (a:=a) (b:=b) (Z:=(rowZ a b e f (passZ a b b.pre.length e (z,false))).1) rfl hg8 htp e f) ⟨rfl,rfl⟩;try conv=>whnf)|fail)
    ·exact rfl
    ·have hst:stepZ a b e f (rowZ a b e f (passZ a b b.pre.length e (z,false)))=(clrT (rowZ a b e f (passZ a b b.pre.length e (z,false))).1 e f,true):=by
      rw[stepZ,hv,show (bif v then !mtI a b (rowZ a b e f (passZ a b b.pre.length e (z,false))).1 e f else false)=true from h];rfl
     refine⟨e,rfl,he',?_⟩
     try conv=>whnf
     rw[tabC_get he']
     try conv=>whnf
     rw[get_eq (k:=e+8) (o:=some (.arr 1 (colZ (rowZ a b e f (passZ a b b.pre.length e (z,false))).1 e))) (AT_get (a:=a) (b:=b) he')]
     (try conv=>whnf);repeat' (first|(apply And.intro<;>try conv=>whnf)|fail)
     all_goals first
      |exact rfl
      |skip
     refine⟨f,rfl,by rw[hls];exact hf',?_⟩
     try conv=>whnf
     rw[get_eq (k:=e+8) (o:=some (.arr 1 (colZ (rowZ a b e f (passZ a b b.pre.length e (z,false))).1 e))) (AT_get (a:=a) (b:=b) he')]
     refine⟨rfl,_,t3,?_⟩
     (try conv=>whnf);repeat' (first|(apply And.intro<;>try conv=>whnf)|exact Nat.le_refl 1|fail)
     refine⟨⟨f+1,hf'⟩,by show b.pre.length-(f+1)<b.pre.length-f;omega,?_⟩
     have hrs:rowZ a b e (f+1) (passZ a b b.pre.length e (z,false))=(clrT (rowZ a b e f (passZ a b b.pre.length e (z,false))).1 e f,true):=by rw[rowZ,hst]
     show Wk _ _ [(2,.ref 0 0),(3,.ref 1 0),(5,.vbuf 2 a.pre.length),(9,.pv (.bool (rowZ a b e (f+1) (passZ a b b.pre.length e (z,false))).2)),(66,.pv (i64 a.pre.length)),(67,.pv (i64 e)),(10,.pv (i64 e)),(74,.pv (i64 (lenZ (passZ a b b.pre.length e (z,false)).1 e))),(75,.pv (i64 (f+1)))] 16 (AT a b a.pre.length (rowZ a b e (f+1) (passZ a b b.pre.length e (z,false))).1)
     rw[hrs]
     have hcl:=colZ_clr (f:=f) (show e<(rowZ a b e f (passZ a b b.pre.length e (z,false))).1.length by rw[hOr.tab.len];exact he')
     (refine Wk.ofN 0 ?_ ?_ rfl rfl rfl ?_<;>repeat' (first|exact trivial|exact WkD.same _|refine WkD.int ?_|refine⟨?_,?_⟩|(refine wrapA ?_ ?_ ?_;(focus simp;done);(focus (try dsimp only);omega);(focus (try dsimp only);omega))|fail))
     refine AT_all (g:=_) hn (Nat.le_refl 16) rfl rfl ?_ fun e' hg' => ?_
     ·exact congrArg (fun z=>some (DObj.var z)) (tabC_clr _ a.pre.length e f).symm
     ·show (bif Nat.beq (e'+8) (e+8) then some (DObj.arr 1 ((colZ (rowZ a b e f (passZ a b b.pre.length e (z,false))).1 e).set f (.bool false))) else objsOf (AT a b a.pre.length (rowZ a b e f (passZ a b b.pre.length e (z,false))).1) (e'+8))=_
      by_cases q:e'=e
      ·rw[q,Nat.beq_refl,cond_true,hcl]
      ·rw[beq_no (by omega),cond_false,AT_get hg',colZ_cle q]
    ·have hst:stepZ a b e f (rowZ a b e f (passZ a b b.pre.length e (z,false)))=rowZ a b e f (passZ a b b.pre.length e (z,false)):=by
      rw[stepZ,hv,show (bif v then !mtI a b (rowZ a b e f (passZ a b b.pre.length e (z,false))).1 e f else false)=false from h];rfl
     refine⟨⟨f+1,hf'⟩,by show b.pre.length-(f+1)<b.pre.length-f;omega,?_⟩
     have hrs:rowZ a b e (f+1) (passZ a b b.pre.length e (z,false))=rowZ a b e f (passZ a b b.pre.length e (z,false)):=by rw[rowZ,hst]
     show Wk _ _ [(2,.ref 0 0),(3,.ref 1 0),(5,.vbuf 2 a.pre.length),(9,.pv (.bool (rowZ a b e (f+1) (passZ a b b.pre.length e (z,false))).2)),(66,.pv (i64 a.pre.length)),(67,.pv (i64 e)),(10,.pv (i64 e)),(74,.pv (i64 (lenZ (passZ a b b.pre.length e (z,false)).1 e))),(75,.pv (i64 (f+1)))] 16 (AT a b a.pre.length (rowZ a b e (f+1) (passZ a b b.pre.length e (z,false))).1)
     rw[hrs]
     (refine Wk.ofN 0 ?_ ?_ rfl rfl rfl ?_<;>repeat' (first|exact trivial|exact WkD.same _|refine WkD.int ?_|refine⟨?_,?_⟩|(refine wrapA ?_ ?_ ?_;(focus simp;done);(focus (try dsimp only);omega);(focus (try dsimp only);omega))|fail))
     exact AT_mid hn (Nat.le_refl 16) fun k hk=>rfl
   ·have hf':f=b.pre.length:=by
     have h2:decide ((f:Int)<((lenZ (passZ a b b.pre.length e (z,false)).1 e:Nat):Int))=false:=by assumption
     have:=of_decide_eq_false h2
     omega
    subst hf'
    refine⟨⟨e+1,he'⟩,by show a.pre.length-(e+1)<a.pre.length-e;omega,?_⟩
    (refine Wk.ofN 0 ?_ ?_ rfl rfl rfl ?_<;>repeat' (first|exact trivial|exact WkD.same _|refine WkD.int ?_|refine⟨?_,?_⟩|(refine wrapA ?_ ?_ ?_;(focus simp;done);(focus (try dsimp only);omega);(focus (try dsimp only);omega))|fail))
    exact AT_mid hn (Nat.le_refl 16) fun k hk=>rfl
  ·rename_i hch
   have hch:ch=true:=hch
   have he':e=a.pre.length:=by
    have h2:decide ((e:Int)<((a.pre.length:Nat):Int))=false:=h
    have:=of_decide_eq_false h2
    omega
   subst he'
   have hOn:=hO a.pre.length (Nat.le_refl _)
   have hst:=alk_step (a:=a) (b:=b) hz
   rw[hyR] at hst
   generalize hP:passZ a b b.pre.length a.pre.length (z,false)=P at hOn hst
   refine⟨⟨P,hOn.tab,fun h=>by rw[hst,h];rfl,fun h=>by rw[hst,h,hOn.no h];rfl⟩,?_,?_⟩
   ·show 2*cntZ P.1 a.pre.length b.pre.length+(bif P.2 then 1 else 0)<2*cntZ z a.pre.length b.pre.length+(bif ch then 1 else 0)
    rw[hch]
    cases h2:P.2 with
    |true=>have:=hOn.yes h2;simp only[cond_true];omega
    |false=>rw[hOn.no h2];simp only[cond_true,cond_false];omega
   ·subst hP
    (refine Wk.ofN 0 ?_ ?_ rfl rfl rfl ?_<;>repeat' (first|exact trivial|exact WkD.same _|refine⟨?_,?_⟩|fail))
    exact AT_mid hn (Nat.le_refl 16) fun k hk=>rfl
 ·have hzR:=hno h
  have htab:tabPV R=.sl ((List.range a.pre.length).map fun e=>.sl (colZ z e)):=by
   rw[← hzR];exact tabPV_rows hz.len
  rw[htab]
  refine frz1s_rows (colZ z) (List.range a.pre.length) _ _ (fun e he=>.inl (AT_get (a:=a) (b:=b) (List.mem_range.1 he))) (Nat.zero_le 8) fun L' => ?_
  refine⟨by simp,by simp[PV.one],rfl,.refl _⟩
theorem smp_shp {a:Act} (h:aloneI a=0):Shp (smpA a) (smpA a).pre.length:=by
 have hO:=actI_ok h
 have e:(smpA a).pre.length=a.pre.length:=by simp[smpA]
 refine⟨rfl,by rw[e];simp[smpA,hO.post],by rw[e];exact hO.n8,by have:=hO.agn;show a.rel.length≤1000;omega,fun r hr => ?_,fun r hr => ?_⟩
 ·rw[e];exact hO.rows r hr
 ·rw[e];exact hO.bits r hr
theorem smpL_len (l:List Asg):(smpL l).length≤l.length:=by
 unfold smpL
 exact Nat.le_trans (List.length_filter_le _ _) (by simp)
theorem smp_post {a:Act} (hS:SmX a):∀ l,l∈(smpA a).post→l.length≤1000:=fun l hl=>by
 obtain⟨q,hq,rfl⟩:=List.mem_map.1 hl
 exact Nat.le_trans (smpL_len q) (hS.post q hq)
def alkG (a:Act) (e:Int) (b:Act) (f:Int):Int :=
 bif aloneI a != 0 then aloneI a else bif aloneI b != 0 then aloneI b else bif ((a.rel.length:Int) != (b.rel.length:Int)) then 1 else
 bif (bif (bif (bif decide (e<0) then true else decide (e≥(a.pre.length:Int))) then true else decide (f<0)) then true else decide (f≥(b.pre.length:Int))) then 6 else 0
def alkT (a b:Act):List (List Bool):=alkI (smpA a) (smpA b) (tab0 (smpA a) (smpA b))
def alikeI (a:Act) (e:Int) (b:Act) (f:Int):Bool:=bif alkG a e b f != 0 then false else zAt (alkT a b) e.toNat f.toNat
def alikeP (a:Act) (e:Int) (b:Act) (f:Int):PV:=.tup [.bool (alikeI a e b f),.int .i64 (alkG a e b f)]
theorem alikeP_no {a b:Act} {e f c:Int} (h:alkG a e b f=c) (hc:(c != 0)=true):alikeP a e b f=.tup [.bool false,.int .i64 c]:=by
 unfold alikeP alikeI
 rw[h,hc];rfl
theorem or_ff4 {a b c d:Bool} (h:(bif (bif (bif a then true else b) then true else c) then true else d)=false):a=false∧b=false∧c=false∧d=false:=by
 cases a<;>cases b<;>cases c<;>cases d<;>simp_all
theorem cp_Alike (a b:Act) (hSa:SmX a) (hSb:SmX b) (e f:Int):PureFn Tryz.prog 21 [a.pv,.int .i64 e,b.pv,.int .i64 f] (alikeP a e b f):=by
 have hCa:=cp_check a hSa
 have hCb:=cp_check b hSb
 have e1:((a.pre.map fpv).length:Int)=(a.pre.length:Int):=by simp
 have e2:((b.pre.map fpv).length:Int)=(b.pre.length:Int):=by simp
 have e3:((a.rel.map rowPV).length:Int)=(a.rel.length:Int):=by simp
 have e4:((b.rel.map rowPV).length:Int)=(b.rel.length:Int):=by simp
 refine PureFn.introC [4,7,9,11] mixed (fn:=Tryz.f21) rfl rfl rfl fun M w0 => ?_
 try conv=>whnf
 refine⟨{ _x:Unit // aloneI a=0 },fun _=>[(1,.pv (.int .i64 e)),(3,.pv (.int .i64 f)),(4,.ref 0 0),(6,.ref 1 0)],fun _=>2,fun _=>[(0,.var (cellsA a)),(1,.var (cellsA b))],?_,?_⟩
 ·(try conv=>whnf);repeat' (first|(apply And.intro<;>try conv=>whnf)|(intro h;try conv=>whnf)|(refine PureFn.dy hCa rfl ?_;try conv=>whnf)|fail)
  ·have hg:alkG a e b f=aloneI a:=by rw[alkG,show (aloneI a != 0)=true from h];rfl
   rw[alikeP_no hg h]
   exact .refl _
  ·exact⟨⟨(),by simpa using h⟩,(by exact Wk.sm rfl rfl rfl rfl rfl)⟩
 rintro⟨_,ha0⟩
 have g1:(aloneI a != 0)=false:=by simpa using ha0
 refine⟨{ _x:Unit // aloneI b=0 },fun _=>[(1,.pv (.int .i64 e)),(3,.pv (.int .i64 f)),(4,.ref 0 0),(6,.ref 1 0)],fun _=>2,fun _=>[(0,.var (cellsA a)),(1,.var (cellsA b))],?_,?_⟩
 ·(try conv=>whnf);repeat' (first|(apply And.intro<;>try conv=>whnf)|(intro h;try conv=>whnf)|(refine PureFn.dy hCb rfl ?_;try conv=>whnf)|fail)
  ·have hg:alkG a e b f=aloneI b:=by rw[alkG,g1,cond_false,show (aloneI b != 0)=true from h];rfl
   rw[alikeP_no hg h]
   exact .refl _
  ·exact⟨⟨(),by simpa using h⟩,(by exact Wk.sm rfl rfl rfl rfl rfl)⟩
 rintro⟨_,hb0⟩
 have g2:(aloneI b != 0)=false:=by simpa using hb0
 refine⟨{ _x:Unit // a.rel.length=b.rel.length },fun _=>[(1,.pv (.int .i64 e)),(3,.pv (.int .i64 f)),(4,.ref 0 0),(6,.ref 1 0)],fun _=>2,fun _=>[(0,.var (cellsA a)),(1,.var (cellsA b))],?_,?_⟩
 ·(try conv=>whnf);repeat' (first|(apply And.intro<;>try conv=>whnf)|(intro h;try conv=>whnf)|fail)
  ·have hg:alkG a e b f=1:=by rw[alkG,g1,cond_false,g2,cond_false,← e3,← e4,show (((a.rel.map rowPV).length:Int) != ((b.rel.map rowPV).length:Int))=true from h];rfl
   rw[alikeP_no hg rfl]
   exact .refl _
  ·refine⟨⟨(),?_⟩,(by exact Wk.sm rfl rfl rfl rfl rfl)⟩
   have h2:(((a.rel.map rowPV).length:Int) != ((b.rel.map rowPV).length:Int))=false:=h
   rw[e3,e4] at h2
   have:(a.rel.length:Int)=b.rel.length:=by simpa using h2
   omega
 rintro⟨_,hr⟩
 have g3:((a.rel.length:Int) != (b.rel.length:Int))=false:=by rw[hr];simp
 refine⟨{ _x:Unit // alkG a e b f=0∧0≤e∧e<(a.pre.length:Int)∧0≤f∧f<(b.pre.length:Int) },fun _=>[(1,.pv (.int .i64 e)),(3,.pv (.int .i64 f)),(4,.ref 0 0),(6,.ref 1 0)],fun _=>2,fun _=>[(0,.var (cellsA a)),(1,.var (cellsA b))],?_,?_⟩
 ·have hgg:alkG a e b f=bif (bif (bif (bif decide (e<0) then true else decide (e≥((a.pre.map fpv).length:Int))) then true else decide (f<0)) then true else decide (f≥((b.pre.map fpv).length:Int))) then 6 else 0:=by
   rw[alkG,g1,cond_false,g2,cond_false,g3,cond_false,e1,e2]
  (try conv=>whnf);repeat' (first|(apply And.intro<;>try conv=>whnf)|(intro h;try conv=>whnf)|apply True.intro|(apply WhenQ.mk;(try conv=>whnf);rotate_left;(try conv=>whnf);rotate_right)|with_reducible assumption|(apply not_of;with_reducible assumption)|fail)
  ·rw[show (bif (bif (bif decide (e<0) then true else decide (e≥((a.pre.map fpv).length:Int))) then true else decide (f<0)) then true else decide (f≥((b.pre.map fpv).length:Int)))=true from h] at hgg
   rw[alikeP_no hgg rfl]
   exact .refl _
  ·rw[show (bif (bif (bif decide (e<0) then true else decide (e≥((a.pre.map fpv).length:Int))) then true else decide (f<0)) then true else decide (f≥((b.pre.map fpv).length:Int)))=false from h] at hgg
   obtain⟨q1,q2,q3,q4⟩:=or_ff4 (show (bif (bif (bif decide (e<0) then true else decide (e≥((a.pre.map fpv).length:Int))) then true else decide (f<0)) then true else decide (f≥((b.pre.map fpv).length:Int)))=false from h)
   have:=of_decide_eq_false q1
   have:=of_decide_eq_false q2
   have:=of_decide_eq_false q3
   have:=of_decide_eq_false q4
   exact⟨⟨(),hgg,by omega,by omega,by omega,by omega⟩,(by exact Wk.sm rfl rfl rfl rfl rfl)⟩
 rintro⟨_,h0,he0,he1,hf0,hf1⟩
 obtain⟨en,rfl⟩:∃ en:Nat,e=en:=⟨e.toNat,by omega⟩
 obtain⟨fn,rfl⟩:∃ fn:Nat,f=fn:=⟨f.toNat,by omega⟩
 have hsa:(smpA a).pre.length=a.pre.length:=by simp[smpA]
 have hsb:(smpA b).pre.length=b.pre.length:=by simp[smpA]
 have hA:=smp_shp ha0
 have hB:=smp_shp hb0
 have n1:=(actI_ok ha0).n1
 have hSm1:=cp_simple a ha0
 have hSm2:=cp_simple b hb0
 have hAl:=cp_alike (smpA a) (smpA b) hA hB hr (smp_post hSa) (by rw[hsa];omega)
 have hT:Tab (alkI (smpA a) (smpA b) (tab0 (smpA a) (smpA b))) a.pre.length b.pre.length:=by
  rw[← hsa,← hsb]
  exact alk_tab _ _
 obtain⟨t1,t2⟩:=hT.at (by omega:en<a.pre.length) (by omega:fn<b.pre.length)
 have hP:alikeP a en b fn=.tup [.bool (zAt (alkI (smpA a) (smpA b) (tab0 (smpA a) (smpA b))) en fn),.int .i64 0]:=by
  unfold alikeP alikeI alkT
  rw[h0]
  simp only[Int.toNat_natCast]
  rfl
 rw[hP]
 have i1:=idx_map (g:=rowB) t1
 have i2:=idx_map (g:=PV.bool) t2
 generalize zAt (alkI (smpA a) (smpA b) (tab0 (smpA a) (smpA b))) en fn=v at *
 generalize (alkI (smpA a) (smpA b) (tab0 (smpA a) (smpA b)))=T at *
 generalize smpA a=sa at *
 generalize smpA b=sb at *
 (try conv=>whnf);repeat' (first|(apply And.intro<;>try conv=>whnf)|(apply infoT;rfl)|(refine lin_plan (by kernel_rfl) ?_;try conv=>whnf)|(refine⟨_,_,rfl,idx_map (by with_reducible assumption),rfl,?_⟩;try conv=>whnf)|(refine⟨_,(by (conv=>whnf);exact hSm1),rfl,?_⟩;try conv=>whnf)|(refine⟨_,(by (conv=>whnf);exact hSm2),rfl,?_⟩;try conv=>whnf)|(refine⟨_,(by (conv=>whnf);exact hAl),rfl,?_⟩;try conv=>whnf)|fail)
 exact .refl _
set_option maxHeartbeats 400000
theorem anyN_iff {p:Nat→Bool}:∀ {n:Nat},anyN p n=true↔∃ k,k<n∧p k=true
 |0=>by
  constructor
  ·intro h;cases h
  ·rintro⟨k,hk,_⟩;omega
 |n+1=>by
  rw[anyN]
  cases h:anyN p n with
  |true =>
   obtain⟨k,hk,hp⟩:=anyN_iff.1 h
   exact⟨fun _=>⟨k,by omega,hp⟩,fun _=>rfl⟩
  |false =>
   rw[cond_false]
   constructor
   ·exact fun hp=>⟨n,by omega,hp⟩
   ·rintro⟨k,hk,hp⟩
    by_cases e:k=n
    ·exact e▸hp
    ·rw[anyN_iff.2 ⟨k,by omega,hp⟩] at h;cases h
theorem someN_iff {s:Nat} {p:Nat→Bool} {n:Nat}:someN s p n=true↔∃ k,k<n∧s.testBit k=true∧p k=true:=by
 rw[someN,anyN_iff]
 constructor
 ·rintro⟨k,hk,h⟩
  cases hs:s.testBit k with
  |true=>rw[hs] at h;exact⟨k,hk,hs,h⟩
  |false=>rw[hs] at h;cases h
 ·rintro⟨k,hk,hs,h⟩
  exact⟨k,hk,by rw[hs];exact h⟩
def Mat (a b:Act) (z:List (List Bool)) (e f:Nat):Prop:=∀ i,i<a.rel.length →
 (∀ g,g<a.pre.length→(relA a i e).testBit g=true→∃ h,h<8∧(relA b i f).testBit h=true∧zAt z g h=true) ∧
 (∀ h,h<b.pre.length→(relA b i f).testBit h=true→∃ g,g<8∧(relA a i e).testBit g=true∧zAt z g h=true)
theorem mtI_iff {a b:Act} {z:List (List Bool)} {e f:Nat}:mtI a b z e f=true↔Mat a b z e f:=by
 have key:∀ (c:Bool),(!c)=true↔c≠true:=fun c=>by cases c<;>simp
 rw[mtI,key,Ne,anyN_iff]
 constructor
 ·intro hno i hi
  have h1:¬ misR a b z e f i=true:=fun h=>hno ⟨i,hi,h⟩
  unfold misR at h1
  cases h2:anyN (misF a b z e f i) a.pre.length with
  |true=>rw[h2] at h1;exact absurd rfl h1
  |false =>
   rw[h2,cond_false] at h1
   refine⟨fun g hg hb => ?_,fun h hh hb => ?_⟩
   ·have h3:¬ misF a b z e f i g=true:=fun q=>by rw[anyN_iff.2 ⟨g,hg,q⟩] at h2;cases h2
    rw[misF,hb,cond_true,key] at h3
    exact someN_iff.1 (Classical.not_not.1 h3)
   ·have h3:¬ misB a b z e f i h=true:=fun q=>h1 (anyN_iff.2 ⟨h,hh,q⟩)
    rw[misB,hb,cond_true,key] at h3
    exact someN_iff.1 (Classical.not_not.1 h3)
 ·rintro hM ⟨i,hi,h⟩
  obtain⟨m1,m2⟩:=hM i hi
  unfold misR at h
  cases h2:anyN (misF a b z e f i) a.pre.length with
  |true =>
   obtain⟨g,hg,q⟩:=anyN_iff.1 h2
   unfold misF at q
   cases hb:(relA a i e).testBit g with
   |false=>rw[hb] at q;cases q
   |true =>
    rw[hb,cond_true,someN_iff.2 (m1 g hg hb)] at q
    cases q
  |false =>
   rw[h2,cond_false] at h
   obtain⟨g,hg,q⟩:=anyN_iff.1 h
   unfold misB at q
   cases hb:(relA b i f).testBit g with
   |false=>rw[hb] at q;cases q
   |true =>
    rw[hb,cond_true,someN_iff.2 (m2 g hg hb)] at q
    cases q
theorem stepZ_flag {a b:Act} {e f:Nat} {s:List (List Bool)×Bool} (h:(stepZ a b e f s).2=false):stepZ a b e f s=s∧(zAt s.1 e f=true→mtI a b s.1 e f=true):=by
 unfold stepZ at h ⊢
 cases hz:zAt s.1 e f with
 |false=>exact⟨rfl,fun h=>by cases h⟩
 |true =>
  rw[hz] at h
  cases hm:mtI a b s.1 e f with
  |true=>exact⟨rfl,fun _=>rfl⟩
  |false=>rw[hm] at h;cases h
theorem rowZ_flag {a b:Act} {e:Nat} {s:List (List Bool)×Bool}:∀ {k:Nat},(rowZ a b e k s).2=false→rowZ a b e k s=s∧∀ f,f<k→zAt s.1 e f=true→mtI a b s.1 e f=true
 |0,_=>⟨rfl,fun f hf=>by omega⟩
 |k+1,h=>by
  rw[rowZ] at h ⊢
  obtain⟨h1,h2⟩:=stepZ_flag h
  rw[h1] at h ⊢
  obtain⟨h3,h4⟩:=rowZ_flag h
  rw[h3] at h2
  refine⟨h3,fun f hf => ?_⟩
  by_cases e1:f=k
  ·rw[e1];exact h2
  ·exact h4 f (by omega)
theorem passZ_flag {a b:Act} {m:Nat} {s:List (List Bool)×Bool}:∀ {k:Nat},(passZ a b m k s).2=false→passZ a b m k s=s∧∀ e f,e<k→f<m→zAt s.1 e f=true→mtI a b s.1 e f=true
 |0,_=>⟨rfl,fun e f he=>by omega⟩
 |k+1,h=>by
  rw[passZ] at h ⊢
  obtain⟨h1,h2⟩:=rowZ_flag h
  rw[h1] at h ⊢
  obtain⟨h3,h4⟩:=passZ_flag h
  rw[h3] at h2
  refine⟨h3,fun e f he hf => ?_⟩
  by_cases e1:e=k
  ·rw[e1];exact h2 f hf
  ·exact h4 e f (by omega) hf
theorem iterZ_stable {a b:Act} {n m:Nat}:∀ (k:Nat) (z:List (List Bool)),Tab z n m→cntZ z n m<k→(∀ e f,e<n→f<m→zAt (iterZ a b n m k z) e f=true→mtI a b (iterZ a b n m k z) e f=true)∧∀ e f,zAt (iterZ a b n m k z) e f=true→zAt z e f=true
 |k+1,z,hz,hk=>by
  have hO:=(OkS.start hz).pass (a:=a) (b:=b) (k:=n) (Nat.le_refl n)
  rw[iterZ]
  cases h:(passZ a b m n (z,false)).2 with
  |false=>exact⟨(passZ_flag h).2,fun _ _ h=>h⟩
  |true =>
   rw[cond_true]
   obtain⟨h1,h2⟩:=iterZ_stable (a:=a) (b:=b) k _ hO.tab (Nat.lt_of_lt_of_le (hO.yes h) (by omega))
   exact⟨h1,fun e f q=>hO.sub e f (h2 e f q)⟩
theorem alk_stable {a b:Act} {e f:Nat} (he:e<a.pre.length) (hf:f<b.pre.length) (h:zAt (alkI a b (tab0 a b)) e f=true):Mat a b (alkI a b (tab0 a b)) e f∧z0B a b e f=true:=by
 obtain⟨h1,h2⟩:=iterZ_stable (a:=a) (b:=b) _ _ (tab0_tab a b) (Nat.lt_succ_self _)
 refine⟨mtI_iff.1 (h1 e f he hf h),?_⟩
 have h3:=h2 e f h
 unfold zAt tab0 row0 at h3
 rw[List.getD_eq_getElem?_getD (l:=List.map _ _),List.getElem?_map,List.getElem?_range he] at h3
 simp only[Option.map_some,Option.getD_some] at h3
 rw[List.getD_eq_getElem?_getD,List.getElem?_map,List.getElem?_range hf] at h3
 simpa using h3
end Go.Proofs.YtejbieopeicgkaaGreatDoor
