/- Parts of the proof, one after the other: Products: what they are (plain). Products: with the action model in which nothing happens; conditions that products keep (plain). Products: the conditions that they keep (plain). Products: the pairs one after the other (plain). Lists that fill up; sets as words (plain). Models: Check of the program walked. Relations and groups: of the program, walked. Groups of a model: of the program, walked. The checker of the program walked: common knowledge, requests, nodes. The checker of the program walked: a node. The checker of the program walked: Sets, Holds, At, Valid. The checker of the program walked: Holds, At, Valid. Products: Worlds of the program walked. Products: Update of the program walked. -/
import Derived.Test.YtejbieopeicgkaaGreatDoorM6
set_option maxRecDepth 100000
set_option maxHeartbeats 4000000
namespace Go.Proofs.YtejbieopeicgkaaGreatDoor
open Go Go.Dv
theorem stat_mono {A F:Nat} {f:List Nd} (hF:F≤8) (h:statI A F f=0):statI A 8 f=0:=by
 obtain⟨h1,h2⟩:=statM_iff.1 h
 refine (statM_iff (F:=8)).2 ⟨h1,fun x hx => ?_⟩
 have:=h2 x hx
 simp only[stM,Bool.and_eq_true,decide_eq_true_eq] at this ⊢
 exact⟨this.1,Nat.lt_of_lt_of_le this.2 (Nat.pow_le_pow_right (by decide) hF)⟩
theorem chgs_mono {A F:Nat} (hF:F≤8):∀ {l:List Asg} {last:Int},chgs A F l last=0→chgs A 8 l last=0
 | [],_,_=>rfl
 |x::r,last,h=>by
  rw[chgs] at h ⊢
  cases h1:decide (x.fact<0) with
  |true=>rw[h1] at h;cases h
  |false =>
   cases h2:decide (x.fact≥(F:Int)) with
   |true=>rw[h1,h2] at h;cases h
   |false =>
    rw[h1,h2] at h
    have q2:=of_decide_eq_false h2
    rw[decide_eq_false (show ¬ x.fact≥8 by omega)]
    cases h3:decide (x.fact≤last) with
    |true=>rw[h3] at h;cases h
    |false =>
     rw[h3] at h
     have h4:statI A F x.to=0:=by
      by_cases q:statI A F x.to=0
      ·exact q
      ·rw[show (statI A F x.to != 0)=true by simpa using q] at h;exact h
     rw[h4] at h
     rw[stat_mono hF h4]
     exact chgs_mono hF h
theorem act_alone {a:Act} {A F:Nat} (hF:F≤8) (h:actI a A F=0):aloneI a=0∧a.rel.length=A:=by
 have hO:=actI_ok h
 have hA:a.rel.length=A:=by have:=hO.ags;omega
 subst hA
 obtain⟨e1,e2⟩:=evs_all hO.ev
 refine⟨valid_of hO.agn hO.n1 hO.n8 hO.post hO.rows hO.bits (fun f hf=>stat_mono hF (e1 f hf)) fun l hl => ?_,rfl⟩
 obtain⟨e,he,rfl⟩:=List.mem_iff_getElem.1 hl
 have:=e2 e (by rw[← hO.post];exact he)
 rw[List.getD_eq_getElem?_getD,List.getElem?_eq_getElem he] at this
 exact chgs_mono hF this
def possP (m:Mo) (a:Act) (e:Nat):Nat:=(holdsI m (a.pre.getD e [])).1
def pairsE (p:Nat→Nat) (w:Nat):Nat→List (Nat×Nat)
 |0=>[]
 |e+1=>bif (p e).testBit w then pairsE p w e++[(w,e)] else pairsE p w e
def pairsW (p:Nat→Nat) (k:Nat):Nat→List (Nat×Nat)
 |0=>[]
 |w+1=>pairsW p k w++pairsE p w k
theorem pairsE_mem {p:Nat→Nat} {w:Nat} {q:Nat×Nat}:∀ {e:Nat},q∈pairsE p w e↔q.1=w∧q.2<e∧(p q.2).testBit w=true
 |0=>by simp[pairsE]
 |e+1=>by
  have ih:=pairsE_mem (p:=p) (w:=w) (q:=q) (e:=e)
  rw[pairsE]
  cases h:(p e).testBit w with
  |true =>
   rw[cond_true,List.mem_append,ih,List.mem_singleton]
   constructor
   ·rintro (⟨h1,h2,h3⟩|rfl)
    ·exact⟨h1,by omega,h3⟩
    ·exact⟨rfl,by show e<e+1;omega,h⟩
   ·rintro⟨h1,h2,h3⟩
    by_cases q2:q.2=e
    ·exact .inr (by rw[← h1,← q2])
    ·exact .inl ⟨h1,by omega,h3⟩
  |false =>
   rw[cond_false,ih]
   constructor
   ·rintro⟨h1,h2,h3⟩;exact⟨h1,by omega,h3⟩
   ·rintro⟨h1,h2,h3⟩
    refine⟨h1,?_,h3⟩
    by_cases q2:q.2=e
    ·rw[q2,h] at h3;cases h3
    ·omega
theorem pairsW_mem {p:Nat→Nat} {k:Nat} {q:Nat×Nat}:∀ {w:Nat},q∈pairsW p k w↔q.1<w∧q.2<k∧(p q.2).testBit q.1=true
 |0=>by simp[pairsW]
 |w+1=>by
  rw[pairsW,List.mem_append,pairsW_mem,pairsE_mem]
  constructor
  ·rintro (⟨h1,h2,h3⟩|⟨h1,h2,h3⟩)
   ·exact⟨by omega,h2,h3⟩
   ·exact⟨by omega,h2,by rw[h1];exact h3⟩
  ·rintro⟨h1,h2,h3⟩
   by_cases e:q.1=w
   ·exact .inr ⟨e,h2,by rw[← e];exact h3⟩
   ·exact .inl ⟨by omega,h2,h3⟩
theorem pairsE_len (p:Nat→Nat) (w:Nat):∀ e,(pairsE p w e).length≤e
 |0=>Nat.le_refl _
 |e+1=>by
  have:=pairsE_len p w e
  rw[pairsE]
  cases (p e).testBit w with
  |true=>rw[cond_true,List.length_append,List.length_singleton];omega
  |false=>rw[cond_false];omega
theorem pairsW_len (p:Nat→Nat) (k:Nat):∀ w,(pairsW p k w).length≤w*k
 |0=>by simp[pairsW]
 |w+1=>by
  have h1:=pairsW_len p k w
  have h2:=pairsE_len p w k
  rw[pairsW,List.length_append,Nat.add_mul];omega
def pairPV (q:Nat×Nat):PV:=.agg [i64 q.1,i64 q.2]
def pairsL (m:Mo) (a:Act):List (Nat×Nat):=pairsW (possP m a) a.pre.length m.n.toNat
def moaI (m:Mo) (a:Act):Int:=bif moI m != 0 then moI m else actI a (m.rel.length:Int) (m.val.length:Int)
def worldsI (m:Mo) (a:Act):List (Nat×Nat)×Int :=
 bif moaI m a != 0 then ([],moaI m a) else bif ((pairsL m a).length:Int)==0 then ([],11) else (pairsL m a,0)
def worldsPV (x:List (Nat×Nat)×Int):PV:=.tup [.sl (x.1.map pairPV),.int .i64 x.2]
theorem le_worlds (e:Int):PLe (.tup [.nil,.int .i64 e]) (worldsPV ([],e)):=PLe.tups ⟨.nil,.refl _,trivial⟩
theorem moaI_ok {m:Mo} {a:Act} (h:moaI m a=0):(∃ n,OkM m n)∧actI a (m.rel.length:Int) (m.val.length:Int)=0:=by
 unfold moaI at h
 cases h1:(moI m != 0) with
 |true=>rw[h1] at h;simp only[cond_true] at h;rw[h] at h1;cases h1
 |false =>
  rw[h1] at h
  exact⟨moI_ok (by simpa using h1),h⟩
theorem pre_holds {m:Mo} {a:Act} (h:moaI m a=0) {e:Nat} (he:e<a.pre.length):holdsI m (a.pre.getD e [])=(possP m a e,0)∧possP m a e<2^m.n.toNat:=by
 obtain⟨⟨n,hM⟩,hA⟩:=moaI_ok h
 have hs:=(evs_all (actI_ok hA).ev).1 _ (List.mem_iff_getElem?.2 ⟨e,getD_mem he (d:=[])⟩)
 have hr:reqI m (a.pre.getD e [])=0:=by rw[reqI,ok_moI hM];exact hs
 have hh:holdsI m (a.pre.getD e [])=(vlT m m.n.toNat (root (a.pre.getD e [])),0):=by rw[holdsI,hr];rfl
 refine⟨by rw[possP,hh],?_⟩
 rw[possP,hh,hM.nn,Int.toNat_natCast]
 exact vlT_lt hM.vbits _
def valuP (m:Mo) (a:Act) (e i:Nat):Nat:=(holdsI m (valI a e i).1).1
def valP (m:Mo) (a:Act) (l:List (Nat×Nat)) (i:Nat):Nat:=maskOf (fun k=>(valuP m a (l.getD k (0,0)).2 i).testBit (l.getD k (0,0)).1) l.length
def seesP (r q:List Nat) (x y:Nat×Nat):Bool:=bif (r.getD x.1 0).testBit y.1 then (q.getD x.2 0).testBit y.2 else false
def rowP (r q:List Nat) (l:List (Nat×Nat)) (x:Nat×Nat):Nat:=maskOf (fun k=>seesP r q x (l.getD k (0,0))) l.length
def relP (m:Mo) (a:Act) (l:List (Nat×Nat)) (i:Nat):List Nat:=l.map (rowP (m.rel.getD i []) (a.rel.getD i []) l)
def prodM (m:Mo) (a:Act) (l:List (Nat×Nat)):Mo:=⟨(l.length:Int),(List.range m.val.length).map (valP m a l),(List.range m.rel.length).map (relP m a l)⟩
def updI (m:Mo) (a:Act):Mo×List (Nat×Nat)×Int :=
 bif (worldsI m a).2 != 0 then (noMo,[],(worldsI m a).2) else bif decide (((worldsI m a).1.length:Int)>64) then (noMo,[],8) else (prodM m a (worldsI m a).1,(worldsI m a).1,0)
def updPV (x:Mo×List (Nat×Nat)×Int):PV:=.tup [x.1.pv,.sl (x.2.1.map pairPV),.int .i64 x.2.2]
theorem le_upd (e:Int):PLe (.tup [.agg [.int .i64 0,.nil,.nil],.nil,.int .i64 e]) (updPV (noMo,[],e)):=PLe.tups ⟨le_noMo,.nil,.refl _,trivial⟩
theorem worldsI_ok {m:Mo} {a:Act} (h:(worldsI m a).2=0):moaI m a=0∧(worldsI m a).1=pairsL m a∧1≤(pairsL m a).length:=by
 unfold worldsI at h ⊢
 cases h1:(moaI m a != 0) with
 |true=>rw[h1] at h;simp only[cond_true] at h;rw[h] at h1;cases h1
 |false =>
  rw[h1] at h
  cases h2:(((pairsL m a).length:Int)==0) with
  |true=>rw[h2] at h;cases h
  |false =>
   have:¬ ((pairsL m a).length:Int)=0:=by simpa using h2
   exact⟨by simpa using h1,rfl,by omega⟩
theorem valI_ok {m:Mo} {a:Act} (h:moaI m a=0) {e i:Nat} (he:e<a.pre.length) (hi:i<m.val.length):(valI a e i).2=0:=by
 obtain⟨⟨n,hM⟩,hA⟩:=moaI_ok h
 have h1:=(act_alone hM.fa hA).1
 have h2:badEv a (e:Int)=false:=by
  unfold badEv
  rw[decide_eq_false (by omega),decide_eq_false (by omega)];rfl
 have h3:badF (i:Int)=false:=by
  have:=hM.fa
  unfold badF
  rw[decide_eq_false (by omega),decide_eq_false (by omega)];rfl
 rw[valI,h1,h2,h3];rfl
theorem holds_lt {m:Mo} {f:List Nd} (n:Nat) (hM:OkM m n):(holdsI m f).1<2^n:=by
 unfold holdsI
 cases (reqI m f != 0) with
 |true=>exact Nat.two_pow_pos n
 |false =>
  show vlT m m.n.toNat (root f)<2^n
  rw[hM.nn,Int.toNat_natCast]
  exact vlT_lt hM.vbits _
theorem prod_ok {m:Mo} {a:Act} {n:Nat} (hM:OkM m n) {l:List (Nat×Nat)} (h1:1≤l.length) (h64:l.length≤64):OkM (prodM m a l) l.length:=by
 refine⟨rfl,h1,h64,by simp[prodM];exact hM.ag,by simp[prodM];exact hM.fa,fun r hr => ?_,fun s hs => ?_,fun r hr s hs => ?_⟩
 ·obtain⟨i,_,rfl⟩:=List.mem_map.1 hr
  simp[relP]
 ·obtain⟨i,_,rfl⟩:=List.mem_map.1 hs
  exact maskOf_lt _ _
 ·obtain⟨i,_,rfl⟩:=List.mem_map.1 hr
  obtain⟨x,_,rfl⟩:=List.mem_map.1 hs
  exact maskOf_lt _ _
def badW (m:Mo) (w:Int):Bool:=bif decide (w<0) then true else decide (w≥m.n)
def atI (m:Mo) (w:Int) (a:Act) (e:Int):Mo×Int×Int :=
 bif (updI m a).2.2 != 0 then (noMo,0,(updI m a).2.2) else bif badW m w then (noMo,0,2) else bif badEv a e then (noMo,0,6)
 else match (updI m a).2.1.findIdx? fun q=>(bif (q.1:Int)==w then (q.2:Int)==e else false) with
  |none=>(noMo,0,11)
  |some i=>((updI m a).1,(i:Int),0)
def atPV (x:Mo×Int×Int):PV:=.tup [x.1.pv,.int .i64 x.2.1,.int .i64 x.2.2]
theorem all_bit {n i:Nat} (h:i<n):(2^n-1).testBit i=true:=by rw[Nat.testBit_two_pow_sub_one];exact decide_eq_true h
theorem seesP_iff {r q:List Nat} {x y:Nat×Nat}:seesP r q x y=true↔(r.getD x.1 0).testBit y.1=true∧(q.getD x.2 0).testBit y.2=true:=by
 unfold seesP
 cases (r.getD x.1 0).testBit y.1<;>simp
section
variable {r q:List Nat} {l:List (Nat×Nat)}
theorem prow_bit {k j:Nat} (hk:k<l.length):(((l.map (rowP r q l)).getD k 0).testBit j=true)↔j<l.length∧seesP r q (l.getD k (0,0)) (l.getD j (0,0))=true:=by
 have e:(l.map (rowP r q l)).getD k 0=rowP r q l (l.getD k (0,0)):=by
  rw[List.getD_eq_getElem?_getD,List.getElem?_map,getD_mem hk (d:=(0,0))];rfl
 rw[e,rowP,maskOf_bit,Bool.and_eq_true,decide_eq_true_eq]
end
def pairsB (p:Nat→Nat) (k w e:Nat):List (Nat×Nat):=pairsW p k w++pairsE p w e
theorem pairsB_zero (p:Nat→Nat) (k w:Nat):pairsB p k w 0=pairsW p k w:=List.append_nil _
theorem pairsB_full (p:Nat→Nat) (k w:Nat):pairsB p k w k=pairsW p k (w+1):=rfl
theorem pairsB_succ (p:Nat→Nat) (k w e:Nat):pairsB p k w (e+1)=bif (p e).testBit w then pairsB p k w e++[(w,e)] else pairsB p k w e:=by
 unfold pairsB
 rw[pairsE]
 cases (p e).testBit w with
 |true=>exact (List.append_assoc _ _ _).symm
 |false=>rfl
def mixV (n:Nat) (p q:Nat→PV) (e:Nat):List PV:=(List.range n).map fun j=>bif decide (j<e) then p j else q j
theorem mixV_len (n:Nat) (p q:Nat→PV) (e:Nat):(mixV n p q e).length=n:=by simp[mixV]
theorem mixV_get {n:Nat} {p q:Nat→PV} {e j:Nat} (h:j<n):(mixV n p q e)[j]? = some (bif decide (j<e) then p j else q j):=by
 simp[mixV,List.getElem?_map,List.getElem?_range h]
theorem mixV_old {n:Nat} {p q:Nat→PV} {e:Nat} (h:e<n):(mixV n p q e)[e]? = some (q e):=by
 rw[mixV_get h,decide_eq_false (Nat.lt_irrefl e)];rfl
theorem mixV_new {n:Nat} {p q:Nat→PV} {e j:Nat} (h:j<n) (hj:j<e):(mixV n p q e)[j]? = some (p j):=by
 rw[mixV_get h,decide_eq_true hj];rfl
theorem mixV_set {n:Nat} {p q:Nat→PV} {e:Nat}:(mixV n p q e).set e (p e)=mixV n p q (e+1):=by
 apply List.ext_getElem?
 intro i
 rw[List.getElem?_set]
 by_cases hi:i<n
 ·rw[mixV_get hi,mixV_get hi,mixV_len]
  by_cases he:e=i
  ·subst he;simp[hi]
  ·have:decide (i<e+1)=decide (i<e):=by
    by_cases q:i<e
    ·simp[q,Nat.lt_succ_of_lt q]
    ·have:¬ i<e+1:=by omega
     simp[q,this]
   simp[he,this]
 ·rw[List.getElem?_eq_none (by rw[mixV_len];omega),List.getElem?_eq_none (by rw[mixV_len];omega),mixV_len]
  split
  ·split
   ·rename_i h3 h4;omega
   ·rfl
  ·rfl
theorem mixV_zero (n:Nat) (p q:Nat→PV):mixV n p q 0=(List.range n).map q:=by simp[mixV]
theorem mixV_rep (n:Nat) (p:Nat→PV) (z:PV):List.replicate n z=mixV n p (fun _=>z) 0:=by
 rw[mixV_zero]
 apply List.ext_getElem (by simp)
 intro i h1 h2
 simp
theorem mixV_full (n:Nat) (p q:Nat→PV):mixV n p q n=(List.range n).map p:=by
 apply List.map_congr_left
 intro j hj
 rw[decide_eq_true (List.mem_range.1 hj)];rfl
theorem range_map {α:Type} {g:α→PV} {d:α} (l:List α):(List.range l.length).map (fun j=>g (l.getD j d))=l.map g:=map_getD rfl
theorem pow64_le {n:Nat} (hn:n≤64):2^n≤2^64:=Nat.pow_le_pow_right (by decide) hn
def xorU (a b:Int):Int:=IntKind.wrap .u64 ((BitVec.ofInt (IntKind.bits .u64) a ^^^ BitVec.ofInt (IntKind.bits .u64) b).toNat:Int)
theorem xorU_nat {a b:Nat} (ha:a<2^64) (hb:b<2^64):xorU a b=((a ^^^ b:Nat):Int):=by
 have hlt:a ^^^ b<2^64:=Nat.xor_lt_two_pow ha hb
 unfold xorU
 show IntKind.wrap .u64 ((BitVec.ofInt 64 (a:Int) ^^^ BitVec.ofInt 64 (b:Int)).toNat:Int)=_
 rw[ofInt_nat,ofInt_nat,BitVec.toNat_xor,ofNat_toNat ha,ofNat_toNat hb,wrapU (by omega) (by omega)]
def complN (a:Nat):Nat:=(2^64-1) ^^^ a
theorem complN_lt {a:Nat} (ha:a<2^64):complN a<2^64:=Nat.xor_lt_two_pow (by decide) ha
theorem complN_bit {a i:Nat} (hi:i<64):(complN a).testBit i=!a.testBit i:=by
 rw[complN,Nat.testBit_xor,Nat.testBit_two_pow_sub_one,decide_eq_true hi];cases a.testBit i<;>rfl
theorem compl_run {a:Nat} (ha:a<2^64):IntKind.wrap .u64 ((BitVec.ofInt (IntKind.bits .u64) (if (IntKind.u64).signed then -1 else IntKind.max .u64) ^^^ BitVec.ofInt (IntKind.bits .u64) (a:Int)).toNat:Int)=((complN a:Nat):Int) :=
 xorU_nat (a:=2^64-1) (by decide) ha
theorem shr_all {n:Nat} (h1:1≤n) (hn:n≤64):shrU 18446744073709551615 ((64:Int)-n)=((2^n-1:Nat):Int):=by
 have e:((64:Int)-n)=((64-n:Nat):Int):=by omega
 rw[e,show (18446744073709551615:Int)=((2^64-1:Nat):Int) from rfl,shrU_nat _ _ (by omega)]
 congr 1
 apply Nat.eq_of_testBit_eq
 intro i
 rw[Nat.testBit_shiftRight,Nat.testBit_two_pow_sub_one,Nat.testBit_two_pow_sub_one]
 congr 1
 rw[eq_iff_iff];omega
theorem andNotU_out {n s:Nat} (_hn:n≤64) (hs:s<2^64):(andNotU (s:Int) ((2^n-1:Nat):Int) != 0)=!decide (s<2^n):=by
 have h:=andNotU_subM (b:=2^n-1) hs
 rw[bne,h]
 congr 1
 rw[Bool.eq_iff_iff,subM_iff,decide_eq_true_eq]
 constructor
 ·intro h
  apply Nat.lt_pow_two_of_testBit
  intro i hi
  cases hb:s.testBit i with
  |false=>rfl
  |true =>
   have:=h i hb
   rw[Nat.testBit_two_pow_sub_one,decide_eq_true_eq] at this
   omega
 ·intro h i hi
  exact all_bit (bit_lt h hi)
theorem andNotU_sub {a b:Nat} (ha:a<2^64):(andNotU (a:Int) (b:Int)==0)=subM a b:=andNotU_subM ha
theorem box_compl {n:Nat} {r:List Nat} {s:Nat} (hn:n≤64) (hb:∀ s,s∈r→s<2^n):boxN n r (complN s)=boxN n r (notN n s):=by
 refine maskOf_congr fun w _ => ?_
 rw[Bool.eq_iff_iff,subM_iff,subM_iff]
 have hg:=getD_lt2 hb w
 constructor
 ·intro h i hi
  have:=h i hi
  have hin:=bit_lt hg hi
  rw[complN_bit (by omega)] at this
  rw[notN,maskOf_bit,this,decide_eq_true hin];rfl
 ·intro h i hi
  have:=h i hi
  have hin:=bit_lt hg hi
  rw[notN,maskOf_bit,Bool.and_eq_true] at this
  rw[complN_bit (by omega)];exact this.2
theorem mask_or {q:Nat→Bool} {w:Nat} (hq:q w=true):maskOf q w |||2^w=maskOf q (w+1):=by rw[maskOf,hq];rfl
theorem mask_no {q:Nat→Bool} {w:Nat} (hq:q w=false):maskOf q w=maskOf q (w+1):=by rw[maskOf,hq];rfl
theorem mask_lt64 (q:Nat→Bool) {w:Nat} (hw:w≤64):maskOf q w<2^64:=Nat.lt_of_lt_of_le (maskOf_lt q w) (pow64_le hw)
theorem or_shl {q:Nat→Bool} {w:Nat} (hw:w<64) (hq:q w=true):orU (maskOf q w:Nat) (shlU 1 (w:Int))=((maskOf q (w+1):Nat):Int):=by
 rw[shlU_one hw,orU_nat (mask_lt64 q (by omega)) (Nat.pow_lt_pow_right (by decide) hw),mask_or hq]
theorem all_nat {n:Nat} (hn:n<64):IntKind.wrap .u64 (shlU 1 (n:Int)-1)=((2^n-1:Nat):Int):=by
 have h2:=Nat.two_pow_pos n
 have h3:2^n<2^64:=Nat.pow_lt_pow_right (by decide) hn
 rw[shlU_one hn,wrapU (by omega) (by omega)];omega
theorem md_all (n:Nat) (hn:n≤64):PureFn Tryz.prog 114 [i64 n] (u64 (2^n-1)):=by
 refine PureFn.intro mixed (fn:=Tryz.f114) rfl rfl rfl fun M w0 => ?_
 (try conv=>whnf);repeat' (first|(apply And.intro<;>try conv=>whnf)|(intro h;try conv=>whnf)|fail)
 ·have h1:=of_decide_eq_true h
  obtain rfl:n=64:=by omega
  exact .refl _
 ·exact Int.natCast_nonneg _
 ·have h1:=of_decide_eq_false h
  exact le_int (all_nat (by omega))
def HO (n:Nat):List (Nat×DObj):=[(0,.var [.pv (i64 n)])]
theorem out1 {M:Nat→Prop} {w0:W0} (n s:Nat) (hn:n≤64) (hs:s<2^64) (base:Nat) (K:DV→DH→Prop) (hK:K (.pv (.bool (!decide (s<2^n)))) ⟨1,0,base,objsOf (HO n)⟩) :
  DC Tryz.prog M w0 123 [.pv (u64 s),.ref 0 0] ⟨1,0,base,objsOf (HO n)⟩ K:=by
 refine DC.weaken (DC.intro mixed (fn:=Tryz.f123) rfl rfl rfl ?_)
 have hA:=md_all n hn
 rw[← andNotU_out hn hs] at hK
 (try conv=>whnf);repeat' (first|(refine PureFn.dy hA rfl ?_;try conv=>whnf)|fail)
 exact⟨_,1,HO n,(by exact Wk.sm rfl rfl rfl rfl rfl),hK⟩
theorem idx_U {M:Nat→Prop} {w0:W0} (n:Nat) (hn:n≤64) (l:List Nat) (hl:l.length≤1000) (hs:∀ s,s∈l→s<2^64) (base:Nat) (K:DV→DH→Prop) (hK:∀ r:Int,decide (r≥0)=outB n l→K (.pv (.int .i64 r)) ⟨1,0,base,objsOf (HO n)⟩) :
  DC Tryz.prog M w0 157 [.pv (.sl (l.map u64)),.clo 123 [] [.ref 0 0]] ⟨1,0,base,objsOf (HO n)⟩ K:=by
 refine DC.weaken (DC.intro mixed (fn:=Tryz.f157) rfl rfl rfl ?_)
 try conv=>whnf
 refine⟨{ i:Nat // i≤l.length∧(l.take i).any (fun s=>!decide (s<2^n))=false },fun i=>[(0,.pv (.sl (l.map u64))),(1,.clo 123 [] [.ref 0 0]),(7,.pv (i64 (l.map u64).length)),(8,.pv (i64 i.1))],fun _=>1,fun _=>HO n,fun i=>l.length-i.1,⟨⟨0,Nat.zero_le _,rfl⟩,(by exact Wk.sm rfl rfl rfl rfl rfl)⟩,?_⟩
 rintro⟨i,hi,ha⟩
 (try conv=>whnf);repeat' (first|(apply And.intro<;>try conv=>whnf)|(intro h;try conv=>whnf)|(apply infoT;rfl)|fail)
 ·have hi':i<l.length:=by simpa using lt_dec h
  have hm:l[i]? = some l[i]:=List.getElem?_eq_getElem hi'
  have hsi:=hs _ (List.getElem_mem hi')
  refine⟨_,_,rfl,idx_map hm,rfl,?_⟩
  try conv=>whnf
  refine out1 n l[i] hn hsi _ _ ?_
  (try conv=>whnf);repeat' (first|(apply And.intro<;>try conv=>whnf)|(intro h;try conv=>whnf)|fail)
  ·have e:outB n l=true:=any_at hi' h
   exact⟨.pv (.int .i64 (i:Int)),1,HO n,(by exact Wk.sm rfl rfl rfl rfl rfl),hK i (by rw[e];simp)⟩
  ·exact⟨⟨i+1,hi',any_take hi' ha h⟩,by show l.length-(i+1)<l.length-i;omega,(by refine Wk.of ?_ ?_ rfl rfl rfl<;>repeat' (first|exact trivial|exact WkD.same _|exact WkO.same _ _ rfl|refine WkD.int ?_|refine⟨?_,?_⟩|(refine wrapA ?_ ?_ ?_;(focus simp;done);(focus (try dsimp only);omega);(focus (try dsimp only);omega))|fail))⟩
 ·have hi':i=l.length:=by have:=ge_dec (m:=(l.map u64).length) h (by simpa using hi);simpa using this
  subst hi'
  rw[List.take_length] at ha
  exact⟨.pv (.int .i64 (-1)),1,HO n,(by exact Wk.sm rfl rfl rfl rfl rfl),hK (-1) (by rw[show outB n l=false from ha];decide)⟩
theorem cont_U {M:Nat→Prop} {w0:W0} (n:Nat) (hn:n≤64) (l:List Nat) (hl:l.length≤1000) (hs:∀ s,s∈l→s<2^64) (base:Nat) (K:DV→DH→Prop) (hK:K (.pv (.bool (outB n l))) ⟨1,0,base,objsOf (HO n)⟩) :
  DC Tryz.prog M w0 122 [.pv (.sl (l.map u64)),.clo 123 [] [.ref 0 0]] ⟨1,0,base,objsOf (HO n)⟩ K:=by
 refine DC.intro mixed (fn:=Tryz.f122) rfl rfl rfl ?_
 try conv=>whnf
 refine idx_U n hn l hl hs 1 _ fun r e => ?_
 rw[← e] at hK
 try conv=>whnf
 exact hK
theorem md_outside (n:Nat) (l:List Nat) (hn:n≤64) (hl:l.length≤1000) (hs:∀ s,s∈l→s<2^64):PureFn Tryz.prog 91 [.sl (l.map u64),i64 n] (.bool (outB n l)):=by
 refine PureFn.intro mixed (fn:=Tryz.f91) rfl rfl rfl fun M w0 => ?_
 try conv=>whnf
 refine cont_U n hn l hl hs 0 _ ?_
 try conv=>whnf
 exact .refl _
def HM (m:Mo):List (Nat×DObj):=[(0,.var (cellsM m))]
theorem chk1 {M:Nat→Prop} {w0:W0} (m:Mo) (n:Nat) (hmn:m.n=n) (hn:n≤64) (r:List Nat) (hl:r.length≤1000) (hs:∀ s,s∈r→s<2^64) (base:Nat) (K:DV→DH→Prop) (hK:K (.pv (.bool (outB n r))) ⟨1,0,base,objsOf (HM m)⟩) :
  DC Tryz.prog M w0 93 [.pv (rowPV r),.ref 0 0] ⟨1,0,base,objsOf (HM m)⟩ K:=by
 refine DC.weaken (DC.intro mixed (fn:=Tryz.f93) rfl rfl rfl ?_)
 have hA:=md_outside n r hn hl hs
 rw[show i64 n=.int .i64 m.n by rw[hmn];rfl] at hA
 (try conv=>whnf);repeat' (first|(refine PureFn.dy hA rfl ?_;try conv=>whnf)|fail)
 exact⟨_,1,HM m,(by exact Wk.sm rfl rfl rfl rfl rfl),hK⟩
theorem idx_M {M:Nat→Prop} {w0:W0} (m:Mo) (n:Nat) (hmn:m.n=n) (hn:n≤64) (rows:List (List Nat)) (hl:rows.length≤1000) (hr:∀ r,r∈rows→r.length≤1000∧∀ s,s∈r→s<2^64) (base:Nat) (K:DV→DH→Prop) (hK:∀ r:Int,decide (r≥0)=rows.any (fun r=>outB n r)→K (.pv (.int .i64 r)) ⟨1,0,base,objsOf (HM m)⟩) :
  DC Tryz.prog M w0 124 [.pv (.sl (rows.map rowPV)),.clo 93 [] [.ref 0 0]] ⟨1,0,base,objsOf (HM m)⟩ K:=by
 refine DC.weaken (DC.intro mixed (fn:=Tryz.f124) rfl rfl rfl ?_)
 try conv=>whnf
 refine⟨{ i:Nat // i≤rows.length∧(rows.take i).any (fun r=>outB n r)=false },fun i=>[(0,.pv (.sl (rows.map rowPV))),(1,.clo 93 [] [.ref 0 0]),(7,.pv (i64 (rows.map rowPV).length)),(8,.pv (i64 i.1))],fun _=>1,fun _=>HM m,fun i=>rows.length-i.1,⟨⟨0,Nat.zero_le _,rfl⟩,(by exact Wk.sm rfl rfl rfl rfl rfl)⟩,?_⟩
 rintro⟨i,hi,ha⟩
 (try conv=>whnf);repeat' (first|(apply And.intro<;>try conv=>whnf)|(intro h;try conv=>whnf)|(apply infoT;rfl)|fail)
 ·have hi':i<rows.length:=by simpa using lt_dec h
  have hm:rows[i]? = some rows[i]:=List.getElem?_eq_getElem hi'
  have hri:=hr _ (List.getElem_mem hi')
  refine⟨_,_,rfl,idx_map hm,rfl,?_⟩
  try conv=>whnf
  refine chk1 m n hmn hn rows[i] hri.1 hri.2 _ _ ?_
  (try conv=>whnf);repeat' (first|(apply And.intro<;>try conv=>whnf)|(intro h;try conv=>whnf)|fail)
  ·have e:rows.any (fun r=>outB n r)=true:=any_at hi' h
   exact⟨.pv (.int .i64 (i:Int)),1,HM m,(by exact Wk.sm rfl rfl rfl rfl rfl),hK i (by rw[e];simp)⟩
  ·exact⟨⟨i+1,hi',any_take hi' ha h⟩,by show rows.length-(i+1)<rows.length-i;omega,(by refine Wk.of ?_ ?_ rfl rfl rfl<;>repeat' (first|exact trivial|exact WkD.same _|exact WkO.same _ _ rfl|refine WkD.int ?_|refine⟨?_,?_⟩|(refine wrapA ?_ ?_ ?_;(focus simp;done);(focus (try dsimp only);omega);(focus (try dsimp only);omega))|fail))⟩
 ·have hi':i=rows.length:=by have:=ge_dec (m:=(rows.map rowPV).length) h (by simpa using hi);simpa using this
  subst hi'
  rw[List.take_length] at ha
  exact⟨.pv (.int .i64 (-1)),1,HM m,(by exact Wk.sm rfl rfl rfl rfl rfl),hK (-1) (by rw[ha];decide)⟩
theorem cont_M {M:Nat→Prop} {w0:W0} (m:Mo) (n:Nat) (hmn:m.n=n) (hn:n≤64) (rows:List (List Nat)) (hl:rows.length≤1000) (hr:∀ r,r∈rows→r.length≤1000∧∀ s,s∈r→s<2^64) (base:Nat) (K:DV→DH→Prop) (hK:K (.pv (.bool (rows.any (fun r=>outB n r)))) ⟨1,0,base,objsOf (HM m)⟩) :
  DC Tryz.prog M w0 92 [.pv (.sl (rows.map rowPV)),.clo 93 [] [.ref 0 0]] ⟨1,0,base,objsOf (HM m)⟩ K:=by
 refine DC.intro mixed (fn:=Tryz.f92) rfl rfl rfl ?_
 try conv=>whnf
 refine idx_M m n hmn hn rows hl hr 1 _ fun r e => ?_
 rw[← e] at hK
 try conv=>whnf
 exact hK
theorem md_Check (m:Mo) (hf:FitM m):PureFn Tryz.prog 40 [m.pv] (.int .i64 (moI m)):=by
 refine PureFn.introC [3,5,11] mixed (fn:=Tryz.f40) rfl rfl rfl fun M w0 => ?_
 have e1:((m.val.map u64).length:Int)=(m.val.length:Int):=by simp
 have e2:((m.rel.map rowPV).length:Int)=(m.rel.length:Int):=by simp
 try conv=>whnf
 refine⟨{ _x:Unit // moB1 m=false },fun _=>[(1,.ref 0 0)],fun _=>1,fun _=>HM m,?_,?_⟩
 ·(try conv=>whnf);repeat' (first|(apply And.intro<;>try conv=>whnf)|(intro h;try conv=>whnf)|apply True.intro|(apply WhenQ.mk;(try conv=>whnf);rotate_left;(try conv=>whnf);rotate_right)|with_reducible assumption|(apply not_of;with_reducible assumption)|fail)
  ·refine le_int ?_
   rw[moI,show moB1 m=true from h];rfl
  ·exact⟨⟨(),h⟩,(by exact Wk.sm rfl rfl rfl rfl rfl)⟩
 rintro⟨_,h1⟩
 obtain⟨n,hmn,n1,n64⟩:=moB1_no h1
 refine⟨{ _x:Unit // moB2 m=false },fun _=>[(1,.ref 0 0)],fun _=>1,fun _=>HM m,?_,?_⟩
 ·(try conv=>whnf);repeat' (first|(apply And.intro<;>try conv=>whnf)|(intro h;try conv=>whnf)|apply True.intro|(apply WhenQ.mk;(try conv=>whnf);rotate_left;(try conv=>whnf);rotate_right)|with_reducible assumption|(apply not_of;with_reducible assumption)|fail)
  ·have h9:moB2 m=true:=by rw[moB2,← e1,← e2];exact h
   refine le_int ?_
   rw[moI,h1,h9];rfl
  ·have h9:moB2 m=false:=by rw[moB2,← e1,← e2];exact h
   exact⟨⟨(),h9⟩,(by exact Wk.sm rfl rfl rfl rfl rfl)⟩
 rintro⟨_,h2⟩
 obtain⟨ag,fa⟩:=moB2_no h2
 refine⟨{ _x:Unit // moB3 m=false },fun _=>[(1,.ref 0 0)],fun _=>1,fun _=>HM m,?_,?_⟩
 ·try conv=>whnf
  refine⟨{ i:Nat // i≤m.rel.length∧(m.rel.take i).any (fun r=>(r.length:Int) != m.n)=false },fun i=>[(1,.ref 0 0),(24,.pv (.sl (m.rel.map rowPV))),(25,.pv (i64 (m.rel.map rowPV).length)),(26,.pv (i64 i.1))],fun _=>1,fun _=>HM m,fun i=>m.rel.length-i.1,⟨⟨0,Nat.zero_le _,rfl⟩,(by exact Wk.sm rfl rfl rfl rfl rfl)⟩,?_⟩
  rintro⟨i,hi,ha⟩
  (try conv=>whnf);repeat' (first|(apply And.intro<;>try conv=>whnf)|(intro h;try conv=>whnf)|(apply infoT;rfl)|fail)
  ·have hi':i<m.rel.length:=by simpa using lt_dec h
   have hm:m.rel[i]? = some m.rel[i]:=List.getElem?_eq_getElem hi'
   have e3:(((m.rel[i]).map u64).length:Int)=((m.rel[i]).length:Int):=by simp
   refine⟨_,_,rfl,idx_map hm,rfl,?_⟩
   (try conv=>whnf);repeat' (first|(apply And.intro<;>try conv=>whnf)|(intro h;try conv=>whnf)|fail)
   ·have e:moB3 m=true:=any_at hi' (by rw[← e3];exact h)
    refine le_int ?_
    rw[moI,h1,h2,e];rfl
   ·exact⟨⟨i+1,hi',any_take hi' ha (by rw[← e3];exact h)⟩,by show m.rel.length-(i+1)<m.rel.length-i;omega,(by refine Wk.of ?_ ?_ rfl rfl rfl<;>repeat' (first|exact trivial|exact WkD.same _|exact WkO.same _ _ rfl|refine WkD.int ?_|refine⟨?_,?_⟩|(refine wrapA ?_ ?_ ?_;(focus simp;done);(focus (try dsimp only);omega);(focus (try dsimp only);omega))|fail))⟩
  ·have hi':i=m.rel.length:=by have:=ge_dec (m:=(m.rel.map rowPV).length) h (by simpa using hi);simpa using this
   subst hi'
   rw[List.take_length] at ha
   exact⟨⟨(),ha⟩,(by exact Wk.sm rfl rfl rfl rfl rfl)⟩
 rintro⟨_,h3⟩
 have hrl:∀ r,r∈m.rel→r.length≤1000:=fun r hr=>by
  have:=List.any_eq_false.1 h3 r hr
  have h6:((r.length:Int) != m.n)=false:=by simpa using this
  have h7:(r.length:Int)=m.n:=by simpa using h6
  omega
 have hO:=md_outside n m.val n64 (by omega) hf.1
 rw[show i64 n=.int .i64 m.n by rw[hmn];rfl] at hO
 have e4:moB4 m=bif outB n m.val then true else m.rel.any fun r=>outB n r:=by rw[moB4,hmn,Int.toNat_natCast]
 (try conv=>whnf);repeat' (first|(apply And.intro<;>try conv=>whnf)|(intro h;try conv=>whnf)|apply True.intro|(apply WhenQ.mk;(try conv=>whnf);rotate_left;(try conv=>whnf);rotate_right)|with_reducible assumption|(refine PureFn.dy hO rfl ?_;try conv=>whnf)|fail)
 ·refine cont_M m n hmn n64 m.rel (by omega) (fun r hr=>⟨hrl r hr,hf.2 r hr⟩) 0 _ ?_
  (try conv=>whnf);repeat' (first|(apply And.intro<;>try conv=>whnf)|fail)
 ·(try conv=>whnf);repeat' (first|(apply And.intro<;>try conv=>whnf)|(intro h;try conv=>whnf)|(apply not_of;with_reducible assumption)|fail)
  ·refine le_int ?_
   rw[moI,h1,h2,h3,e4,h];rfl
  ·refine le_int ?_
   rw[moI,h1,h2,h3,e4,h];rfl
theorem rl_all (n:Nat) (hn:n≤64):PureFn Tryz.prog 192 [i64 n] (u64 (2^n-1)):=by
 refine PureFn.intro mixed (fn:=Tryz.f192) rfl rfl rfl fun M w0 => ?_
 (try conv=>whnf);repeat' (first|(apply And.intro<;>try conv=>whnf)|(intro h;try conv=>whnf)|fail)
 ·have h1:=of_decide_eq_true h
  obtain rfl:n=64:=by omega
  exact .refl _
 ·exact Int.natCast_nonneg _
 ·have h1:=of_decide_eq_false h
  exact le_int (all_nat (by omega))
theorem rl_Check (n:Nat) (r:List Nat) (hn:n≤64) (hl:r.length=n) (hb:∀ s,s∈r→s<2^n):PureFn Tryz.prog 191 [i64 n,rowPV r] (.int .i64 0):=by
 refine PureFn.introC [3,5] mixed (fn:=Tryz.f191) rfl rfl rfl fun M w0 => ?_
 have hA:=rl_all n hn
 try conv=>whnf
 refine⟨Unit,fun _=>[(0,.pv (i64 n)),(1,.pv (rowPV r))],fun _=>0,fun _=>[],?_,?_⟩
 ·(try conv=>whnf);repeat' (first|(apply And.intro<;>try conv=>whnf)|(intro h;try conv=>whnf)|apply True.intro|(apply WhenQ.mk;(try conv=>whnf);rotate_left;(try conv=>whnf);rotate_right)|with_reducible assumption|(apply not_of;with_reducible assumption)|fail)
  ·exfalso
   have h9:(bif decide ((n:Int)<0) then true else decide ((n:Int)>64))=true:=h
   rw[decide_eq_false (by omega),decide_eq_false (by omega)] at h9;cases h9
  ·exact⟨(),(by exact Wk.sm rfl rfl rfl rfl rfl)⟩
 rintro⟨⟩
 refine⟨Unit,fun _=>[(0,.pv (i64 n)),(1,.pv (rowPV r))],fun _=>0,fun _=>[],?_,?_⟩
 ·(try conv=>whnf);repeat' (first|(apply And.intro<;>try conv=>whnf)|(intro h;try conv=>whnf)|fail)
  ·simp[hl] at h
  ·exact⟨(),(by exact Wk.sm rfl rfl rfl rfl rfl)⟩
 rintro⟨⟩
 try conv=>whnf
 refine⟨{ i:Nat // i≤r.length },fun i=>[(0,.pv (i64 n)),(17,.pv (rowPV r)),(18,.pv (i64 (r.map u64).length)),(19,.pv (i64 i.1))],fun _=>0,fun _=>[],fun i=>r.length-i.1,⟨⟨0,Nat.zero_le _⟩,(by exact Wk.sm rfl rfl rfl rfl rfl)⟩,?_⟩
 rintro⟨i,hi⟩
 (try conv=>whnf);repeat' (first|(apply And.intro<;>try conv=>whnf)|(intro h;try conv=>whnf)|(apply infoT;rfl)|fail)
 ·have hi':i<r.length:=by simpa using lt_dec h
  have hm:r[i]? = some r[i]:=List.getElem?_eq_getElem hi'
  have hbi:=hb _ (List.getElem_mem hi')
  have hob:=andNotU_out (s:=r[i]) hn (Nat.lt_of_lt_of_le hbi (pow64_le hn))
  rw[decide_eq_true hbi] at hob
  refine⟨_,_,rfl,idx_map hm,rfl,?_⟩
  (try conv=>whnf);repeat' (first|(apply And.intro<;>try conv=>whnf)|(intro h;try conv=>whnf)|(refine PureFn.dy hA rfl ?_;try conv=>whnf)|fail)
  ·rw[show (andNotU (r[i]:Nat) ((2^n-1:Nat):Int) != 0)=true from h] at hob;cases hob
  ·exact⟨⟨i+1,hi'⟩,by show r.length-(i+1)<r.length-i;omega,(by refine Wk.of ?_ ?_ rfl rfl rfl<;>repeat' (first|exact trivial|exact WkD.same _|refine WkD.int ?_|refine⟨?_,?_⟩|(refine wrapA ?_ ?_ ?_;(focus simp;done);(focus (try dsimp only);omega);(focus (try dsimp only);omega))|fail))⟩
 ·exact .refl _
theorem rl_Box (n:Nat) (r:List Nat) (s:Nat) (hn:n≤64) (hl:r.length=n) (hb:∀ s,s∈r→s<2^n) (_hs:s<2^64):PureFn Tryz.prog 158 [rowPV r,u64 s] (u64 (boxN n r s)):=by
 refine PureFn.introC [3] mixed (fn:=Tryz.f158) rfl rfl rfl fun M w0 => ?_
 have hC:=rl_Check n r hn hl hb
 rw[show i64 n=i64 (r.map u64).length by rw[List.length_map,hl]] at hC
 try conv=>whnf
 refine⟨Unit,fun _=>[(0,.pv (rowPV r)),(1,.pv (u64 s))],fun _=>0,fun _=>[],?_,?_⟩
 ·(try conv=>whnf);repeat' (first|(apply And.intro<;>try conv=>whnf)|(intro h;try conv=>whnf)|(refine PureFn.dy hC rfl ?_;try conv=>whnf)|fail)
  ·cases h
  ·exact⟨(),(by exact Wk.sm rfl rfl rfl rfl rfl)⟩
 rintro⟨⟩
 try conv=>whnf
 refine⟨{ i:Nat // i≤r.length },fun i=>[(0,.pv (rowPV r)),(1,.pv (u64 s)),(5,.pv (u64 (maskOf (fun w=>subM (r.getD w 0) s) i.1))),(13,.pv (i64 (r.map u64).length)),(14,.pv (i64 i.1))],fun _=>0,fun _=>[],fun i=>r.length-i.1,⟨⟨0,Nat.zero_le _⟩,(by exact Wk.sm rfl rfl rfl rfl rfl)⟩,?_⟩
 rintro⟨i,hi⟩
 (try conv=>whnf);repeat' (first|(apply And.intro<;>try conv=>whnf)|(intro h;try conv=>whnf)|(apply infoT;rfl)|fail)
 ·have hi':i<r.length:=by simpa using lt_dec h
  obtain⟨x,hm,hx⟩:∃ x,r[i]? = some x∧r.getD i 0=x:=⟨_,getD_mem hi',rfl⟩
  have hxb:x<2^64:=Nat.lt_of_lt_of_le (hb x (List.mem_iff_getElem?.2 ⟨i,hm⟩)) (pow64_le hn)
  have hsb:(andNotU (x:Nat) (s:Nat)==0)=subM x s:=andNotU_sub hxb
  refine⟨_,_,rfl,idx_map hm,rfl,?_⟩
  (try conv=>whnf);repeat' (first|(apply And.intro<;>try conv=>whnf)|(intro h;try conv=>whnf)|fail)
  ·exact Int.natCast_nonneg _
  ·have hq:subM (r.getD i 0) s=true:=by rw[hx,← hsb];exact h
   refine⟨⟨i+1,hi'⟩,by show r.length-(i+1)<r.length-i;omega,?_⟩
   (refine Wk.of ?_ ?_ rfl rfl rfl<;>repeat' (first|exact trivial|exact WkD.same _|refine WkD.int ?_|refine⟨?_,?_⟩|(refine wrapA ?_ ?_ ?_;(focus simp;done);(focus (try dsimp only);omega);(focus (try dsimp only);omega))|fail))
   exact or_shl (q:=fun w=>subM (r.getD w 0) s) (w:=i) (by omega) hq
  ·have hq:subM (r.getD i 0) s=false:=by rw[hx,← hsb];exact h
   refine⟨⟨i+1,hi'⟩,by show r.length-(i+1)<r.length-i;omega,?_⟩
   (refine Wk.of ?_ ?_ rfl rfl rfl<;>repeat' (first|exact trivial|exact WkD.same _|refine WkD.int ?_|refine⟨?_,?_⟩|(refine wrapA ?_ ?_ ?_;(focus simp;done);(focus (try dsimp only);omega);(focus (try dsimp only);omega))|fail))
   exact congrArg (fun z:Nat=>(z:Int)) (mask_no (q:=fun w=>subM (r.getD w 0) s) hq)
 ·have hi':i=r.length:=by have:=ge_dec (m:=(r.map u64).length) h (by simpa using hi);simpa using this
  subst hi'
  exact le_int (congrArg (fun z:Nat=>((maskOf (fun w=>subM (r.getD w 0) s) z:Nat):Int)) hl)
theorem rl_Diamond (n:Nat) (r:List Nat) (s:Nat) (hn:n≤64) (hl:r.length=n) (hb:∀ s,s∈r→s<2^n) (hs:s<2^64):PureFn Tryz.prog 159 [rowPV r,u64 s] (u64 (diaN n r s)):=by
 refine PureFn.introC [3] mixed (fn:=Tryz.f159) rfl rfl rfl fun M w0 => ?_
 have hC:=rl_Check n r hn hl hb
 have hA:=rl_all n hn
 have hB:=rl_Box n r (complN s) hn hl hb (complN_lt hs)
 have hcm:=compl_run hs
 rw[show i64 n=i64 (r.map u64).length by rw[List.length_map,hl]] at hC hA
 try conv=>whnf
 refine⟨Unit,fun _=>[(0,.pv (rowPV r)),(1,.pv (u64 s))],fun _=>0,fun _=>[],?_,?_⟩
 ·(try conv=>whnf);repeat' (first|(apply And.intro<;>try conv=>whnf)|(intro h;try conv=>whnf)|(refine PureFn.dy hC rfl ?_;try conv=>whnf)|fail)
  ·cases h
  ·exact⟨(),(by exact Wk.sm rfl rfl rfl rfl rfl)⟩
 rintro⟨⟩
 rw[show u64 (complN s)=.int .u64 (IntKind.wrap .u64 ((BitVec.ofInt (IntKind.bits .u64) (if (IntKind.u64).signed then -1 else IntKind.max .u64) ^^^ BitVec.ofInt (IntKind.bits .u64) (s:Int)).toNat:Int)) by rw[hcm];rfl] at hB
 (try conv=>whnf);repeat' (first|(refine PureFn.dy hA rfl ?_;try conv=>whnf)|(refine PureFn.dy hB rfl ?_;try conv=>whnf)|fail)
 refine le_int ?_
 rw[diaN,← box_compl hn hb]
 exact andNotU_all hn
theorem sl_Clone {M:Nat→Prop} {w0:W0} (l:List Nat) (h1:1≤l.length) (hl:l.length≤1000) (L:DH) (K:DV→DH→Prop) (hK:K (.buf L.next (l.map u64).length) (L.push (.arr 1 (l.map u64)))) :
  DC Tryz.prog M w0 80 [.pv (rowPV l)] L K:=by
 cases l with
 |nil=>simp at h1
 |cons a r =>
  refine DC.intro mixed (fn:=Tryz.f80) rfl rfl rfl ?_
  (try conv=>whnf);repeat' (first|(apply And.intro<;>try conv=>whnf)|(intro h;first|with_reducible exact ft0 h|try conv=>whnf)|(apply cellsI;rfl)|(apply szI;rfl)|fail)
  ·exact cells_u64 _
  ·show (List.map u64 (a::r)).length≤4294967296
   rw[List.length_map];omega
  ·exact hK
theorem md_or (x y:Nat) (hx:x<2^64) (hy:y<2^64):PureFn Tryz.prog 195 [u64 x,u64 y] (u64 (x |||y)):=by
 refine PureFn.intro mixed (fn:=Tryz.f195) rfl rfl rfl fun M w0 => ?_
 try conv=>whnf
 exact le_int (orU_nat hx hy)
theorem md_and (x y:Nat) (hx:x<2^64) (hy:y<2^64):PureFn Tryz.prog 194 [u64 x,u64 y] (u64 (x&&&y)):=by
 refine PureFn.intro mixed (fn:=Tryz.f194) rfl rfl rfl fun M w0 => ?_
 try conv=>whnf
 exact le_int (andU_nat hx hy)
theorem gat_none {op:Nat→Nat→Nat} {rel:List (List Nat)} {g:Int}:∀ {i:Nat},gatP op rel g i=none→∀ j,j<i→(and64 (shr64 g j) 1==0)=true
 |0,_,j,hj=>by omega
 |i+1,h,j,hj=>by
  rw[gatP] at h
  cases hz:(and64 (shr64 g i) 1==0) with
  |false =>
   rw[hz] at h
   simp only[cond_false] at h
   cases hg:gatP op rel g i<;>rw[hg] at h<;>cases h
  |true =>
   rw[hz] at h
   by_cases q:j=i
   ·rw[q];exact hz
   ·exact gat_none h j (by omega)
theorem gat_some {op:Nat→Nat→Nat} {m:Mo} {n:Nat} {g:Int} (hM:OkM m n) (hb:badGM m g=false):gatP op m.rel g m.rel.length≠none:=by
 intro h
 unfold badGM at hb
 rw[ok_moI hM] at hb
 cases h1:decide (g<1) with
 |true=>rw[h1] at hb;cases hb
 |false =>
  rw[h1] at hb
  have h2:=of_decide_eq_false (show decide (g≥shl64 1 (m.rel.length:Int))=false from hb)
  have h3:=of_decide_eq_false h1
  have hag:=hM.ag
  rw[shl_n hag] at h2
  obtain⟨k,rfl⟩:∃ k:Nat,g=k:=⟨g.toNat,by omega⟩
  have h16:2^m.rel.length≤2^4:=Nat.pow_le_pow_right (by decide) hag
  have hk:k=0:=by
   apply Nat.eq_of_testBit_eq
   intro j
   rw[Nat.zero_testBit]
   by_cases hj:j<m.rel.length
   ·have:=gat_none h j hj
    rw[bit64_and (by omega) (by omega)] at this
    cases hb2:k.testBit j with
    |false=>rfl
    |true=>rw[hb2] at this;cases this
   ·exact Nat.testBit_lt_two_pow (Nat.lt_of_lt_of_le (show k<2^m.rel.length by omega) (Nat.pow_le_pow_right (by decide) (by omega)))
  omega
theorem gat_rows {op:Nat→Nat→Nat} {rel:List (List Nat)} {n k:Nat} (hop:∀ x y,x<k→y<k→op x y<k) (hr:∀ r,r∈rel→r.length=n) (hb:∀ r,r∈rel→∀ s,s∈r→s<k) {g:Int}:∀ {i:Nat} {l:List Nat},i≤rel.length→gatP op rel g i=some l→l.length=n∧∀ s,s∈l→s<k
 |0,l,_,h=>by cases h
 |i+1,l,hi,h=>by
  have hn:rel[i]? = some (rel.getD i []):=getD_mem (by omega)
  have hm:rel.getD i []∈rel:=List.mem_iff_getElem?.2 ⟨i,hn⟩
  rw[gatP] at h
  cases hz:(and64 (shr64 g i) 1==0) with
  |true=>rw[hz] at h;exact gat_rows hop hr hb (by omega) h
  |false =>
   rw[hz] at h
   simp only[cond_false] at h
   cases hg:gatP op rel g i with
   |none =>
    rw[hg] at h
    obtain rfl:=Option.some.inj h
    exact⟨hr _ hm,hb _ hm⟩
   |some l0 =>
    rw[hg] at h
    obtain rfl:=Option.some.inj h
    obtain⟨g1,g2⟩:=gat_rows hop hr hb (i:=i) (by omega) hg
    refine⟨by simp[g1],fun s hs => ?_⟩
    obtain⟨w,hw,rfl⟩:=List.mem_map.1 hs
    have hw':=List.mem_range.1 hw
    refine hop _ _ (g2 _ (getD_in hw')) (hb _ hm _ (getD_in ?_))
    rw[hr _ hm,← g1];exact hw'
theorem md_gatOr (m:Mo) (g:Int) (hf:FitM m) (first:Nat) (hfi:∀ n,OkM m n→∀ r,r∈m.rel→∀ s,s∈r→orF first s=s) (M:Nat→Prop) (w0:W0) :
  DC Tryz.prog M w0 193 [.agg (cellsM m),.pv (.int .i64 g),.clo 195 [] []] noHeap fun d L'=>frz d L' fun q _=>PLe q (rowPV (grpM orF m g first)):=by
 refine DC.introC [3] mixed (fn:=Tryz.f193) rfl rfl rfl ?_
 have hC:=md_Check m hf
 have e3:((m.rel.map rowPV).length:Int)=(m.rel.length:Int):=by simp
 try conv=>whnf
 refine⟨{ _x:Unit // badGM m g=false },fun _=>[(1,.pv (.int .i64 g)),(2,.clo 195 [] []),(3,.ref 0 0)],fun _=>1,fun _=>HM m,?_,?_⟩
 ·(try conv=>whnf);repeat' (first|(apply And.intro<;>try conv=>whnf)|(intro h;try conv=>whnf)|apply True.intro|(apply WhenQ.mk;(try conv=>whnf);rotate_left;(try conv=>whnf);rotate_right)|with_reducible assumption|(apply not_of;with_reducible assumption)|(refine PureFn.dy hC rfl ?_;try conv=>whnf)|fail)
  ·exact Int.natCast_nonneg _
  ·have hb:badGM m g=true:=by rw[badGM,← e3];exact h
   rw[grpM,hb];exact .nil
  ·have hb:badGM m g=false:=by rw[badGM,← e3];exact h
   exact⟨⟨(),hb⟩,(by exact Wk.sm rfl rfl rfl rfl rfl)⟩
 rintro⟨_,hb⟩
 have h0:moI m=0:=by
  by_cases h:moI m=0
  ·exact h
  ·have:(moI m != 0)=true:=by simpa using h
   rw[badGM,this] at hb;cases hb
 obtain⟨n,hM⟩:=moI_ok h0
 have hag:=hM.ag
 have hn64:=hM.n64
 have hn1:=hM.n1
 have hge:=gatP_eq (g:=g) (op:=orF) (first:=first) hM.rows (hfi n hM) m.rel.length (Nat.le_refl _)
 have hgs:=gat_some (op:=orF) hM hb
 have hR:rowPV (grpM orF m g first)=rowPV ((List.range n).map fun w=>joinA orF m.rel g first w m.rel.length):=by
  rw[grpM,hb,hM.nn];rfl
 rw[hR]
 clear hR
 try conv=>whnf
 refine⟨{ q:Nat×Option (List Nat) // q.1≤m.rel.length∧gatP orF m.rel g q.1=q.2 },fun q=>match q.1.2 with|none=>[(1,.pv (.int .i64 g)),(2,.clo 195 [] []),(3,.ref 0 0),(7,.pv .nil),(27,.pv (.sl (m.rel.map rowPV))),(28,.pv (i64 (m.rel.map rowPV).length)),(29,.pv (i64 q.1.1))]|some l=>[(1,.pv (.int .i64 g)),(2,.clo 195 [] []),(3,.ref 0 0),(7,.buf 1 (l.map u64).length),(27,.pv (.sl (m.rel.map rowPV))),(28,.pv (i64 (m.rel.map rowPV).length)),(29,.pv (i64 q.1.1))],fun q=>match q.1.2 with|none=>1|some _=>2,fun q=>match q.1.2 with|none=>HM m|some l=>[(0,.var (cellsM m)),(1,.arr 1 (l.map u64))],fun q=>m.rel.length-q.1.1,⟨⟨(0,none),Nat.zero_le _,rfl⟩,(by exact Wk.sm rfl rfl rfl rfl rfl)⟩,?_⟩
 rintro⟨⟨i,_|l⟩,hi,hg⟩
 ·(try conv=>whnf);repeat' (first|(apply And.intro<;>try conv=>whnf)|(intro h;try conv=>whnf)|(apply infoT;rfl)|fail)
  ·have hi':i<m.rel.length:=by simpa using lt_dec h
   obtain⟨r,hr,hrw⟩:∃ r,m.rel[i]? = some r∧m.rel.getD i []=r:=⟨_,getD_mem hi',rfl⟩
   have hrm:r∈m.rel:=List.mem_iff_getElem?.2 ⟨i,hr⟩
   have hrl:=hM.rows r hrm
   refine⟨_,_,rfl,idx_map hr,rfl,?_⟩
   (try conv=>whnf);repeat' (first|(apply And.intro<;>try conv=>whnf)|(intro h;first|with_reducible exact tf0 h|try conv=>whnf)|fail)
   ·exact Int.natCast_nonneg _
   ·have hz:(and64 (shr64 g i) 1==0)=true:=h
    refine⟨⟨(i+1,none),hi',by rw[gatP,hz];exact hg⟩,by show m.rel.length-(i+1)<m.rel.length-i;omega,?_⟩
    (refine Wk.of ?_ ?_ rfl rfl rfl<;>repeat' (first|exact trivial|exact WkD.same _|exact WkO.same _ _ rfl|refine WkD.int ?_|refine⟨?_,?_⟩|(refine wrapA ?_ ?_ ?_;(focus simp;done);(focus (try dsimp only);omega);(focus (try dsimp only);omega))|fail))
   ·rename_i hz0
    have hz:(and64 (shr64 g i) 1==0)=false:=hz0
    have hg2:gatP orF m.rel g i=none:=hg
    refine sl_Clone r (by omega) (by omega) _ _ ?_
    try conv=>whnf
    refine⟨⟨(i+1,some r),hi',by rw[gatP,hz,hg2,hrw];rfl⟩,by show m.rel.length-(i+1)<m.rel.length-i;omega,?_⟩
    (refine Wk.of ?_ ?_ rfl rfl rfl<;>repeat' (first|exact trivial|exact WkD.same _|exact WkO.same _ _ rfl|refine WkD.int ?_|refine⟨?_,?_⟩|(refine wrapA ?_ ?_ ?_;(focus simp;done);(focus (try dsimp only);omega);(focus (try dsimp only);omega))|fail))
  ·have hi':i=m.rel.length:=by have:=ge_dec (m:=(m.rel.map rowPV).length) h (by simpa using hi);simpa using this
   subst hi'
   exact absurd hg hgs
 ·obtain⟨hll,hlb⟩:=gat_rows (op:=orF) (n:=n) (k:=2^64) (fun _ _ hx hy=>Nat.or_lt_two_pow hx hy) hM.rows hM.fit.2 hi hg
  (try conv=>whnf);repeat' (first|(apply And.intro<;>try conv=>whnf)|(intro h;try conv=>whnf)|(apply infoT;rfl)|(apply bleI;rfl)|fail)
  ·have hi':i<m.rel.length:=by simpa using lt_dec h
   obtain⟨r,hr,hrw⟩:∃ r,m.rel[i]? = some r∧m.rel.getD i []=r:=⟨_,getD_mem hi',rfl⟩
   have hrm:r∈m.rel:=List.mem_iff_getElem?.2 ⟨i,hr⟩
   have hrl:=hM.rows r hrm
   have hrb:=hM.fit.2 r hrm
   refine⟨_,_,rfl,idx_map hr,rfl,?_⟩
   (try conv=>whnf);repeat' (first|(apply And.intro<;>try conv=>whnf)|(intro h;first|with_reducible exact ft0 h|try conv=>whnf)|fail)
   ·exact Int.natCast_nonneg _
   ·have hz:(and64 (shr64 g i) 1==0)=true:=h
    refine⟨⟨(i+1,some l),hi',by rw[gatP,hz];exact hg⟩,by show m.rel.length-(i+1)<m.rel.length-i;omega,?_⟩
    (refine Wk.of ?_ ?_ rfl rfl rfl<;>repeat' (first|exact trivial|exact WkD.same _|exact WkO.same _ _ rfl|refine WkD.int ?_|refine⟨?_,?_⟩|(refine wrapA ?_ ?_ ?_;(focus simp;done);(focus (try dsimp only);omega);(focus (try dsimp only);omega))|fail))
   ·show 0<(l.map u64).length
    rw[List.length_map];omega
   ·rename_i hz0
    have hz:(and64 (shr64 g i) 1==0)=false:=hz0
    have hg2:gatP orF m.rel g i=some l:=hg
    have hin:l.map u64=mixV l.length (fun w=>u64 (orF (l.getD w 0) (r.getD w 0))) (fun w=>u64 (l.getD w 0)) 0:=by rw[mixV_zero];exact (range_map (g:=u64) (d:=0) l).symm
    have hout:mixV l.length (fun w=>u64 (orF (l.getD w 0) (r.getD w 0))) (fun w=>u64 (l.getD w 0)) l.length=((List.range l.length).map fun w=>orF (l.getD w 0) (r.getD w 0)).map u64:=by rw[mixV_full,List.map_map];rfl
    have hml:=mixV_len l.length (fun w=>u64 (orF (l.getD w 0) (r.getD w 0))) (fun w=>u64 (l.getD w 0))
    refine⟨{ w:Nat // w≤l.length },fun w=>[(1,.pv (.int .i64 g)),(2,.clo 195 [] []),(3,.ref 0 0),(7,.buf 1 (mixV l.length (fun w=>u64 (orF (l.getD w 0) (r.getD w 0))) (fun w=>u64 (l.getD w 0)) w.1).length),(9,.pv (rowPV r)),(27,.pv (.sl (m.rel.map rowPV))),(28,.pv (i64 (m.rel.map rowPV).length)),(29,.pv (i64 i)),(44,.pv (i64 l.length)),(45,.pv (i64 w.1))],fun _=>2,fun w=>[(0,.var (cellsM m)),(1,.arr 1 (mixV l.length (fun w=>u64 (orF (l.getD w 0) (r.getD w 0))) (fun w=>u64 (l.getD w 0)) w.1))],fun w=>l.length-w.1,⟨⟨0,Nat.zero_le _⟩,?_⟩,?_⟩
    ·(refine Wk.of ?_ ?_ rfl rfl rfl<;>repeat' (first|exact trivial|exact WkD.same _|exact WkO.same _ _ rfl|refine WkD.int ?_|refine⟨?_,?_⟩|fail))
     ·exact WkD.eq (congrArg (fun z:List PV=>DV.buf 1 z.length) hin)
     ·exact congrArg (fun z:Nat=>(z:Int)) (List.length_map _)
     ·exact WkO.same _ _ (congrArg (fun z=>some (DObj.arr 1 z)) hin)
    rintro⟨w,hw⟩
    have hmw:=hml w
    (try conv=>whnf);repeat' (first|(apply And.intro<;>try conv=>whnf)|(intro h;try conv=>whnf)|fail)
    ·have hw':w<l.length:=lt_dec h
     have hlw:=hlb _ (getD_in hw')
     have hrw2:w<r.length:=by omega
     have hrn:r[w]? = some (r.getD w 0):=getD_mem hrw2
     have hPF:=md_or _ _ hlw (hrb _ (getD_in hrw2))
     refine⟨Plan.lin 0 14,[13],by kernel_rfl,?_⟩
     have hst:=mixV_set (n:=l.length) (p:=fun w=>u64 (orF (l.getD w 0) (r.getD w 0))) (q:=fun w=>u64 (l.getD w 0)) (e:=w)
     (try conv=>whnf);repeat' (first|(apply And.intro<;>try conv=>whnf)|fail)
     refine⟨w,rfl,by rw[hmw];exact hw',?_⟩
     (try conv=>whnf);repeat' (first|(apply And.intro<;>try conv=>whnf)|fail)
     refine⟨_,mixV_old hw',?_⟩
     (try conv=>whnf);repeat' (first|(apply And.intro<;>try conv=>whnf)|(apply infoT;rfl)|(refine⟨_,_,rfl,idx_map (by with_reducible assumption),rfl,?_⟩;try conv=>whnf)|(refine⟨_,(by (conv=>whnf);exact hPF),rfl,?_⟩;try conv=>whnf)|fail)
     refine⟨w,rfl,by rw[hmw];exact hw',?_⟩
     (try conv=>whnf);repeat' (first|(apply And.intro<;>try conv=>whnf)|fail)
     refine⟨_,mixV_old hw',Nat.le_refl 1,?_⟩
     try conv=>whnf
     refine⟨⟨w+1,hw'⟩,by show l.length-(w+1)<l.length-w;omega,?_⟩
     (refine Wk.of ?_ ?_ rfl rfl rfl<;>repeat' (first|exact trivial|exact WkD.same _|exact WkO.same _ _ rfl|refine WkD.int ?_|refine⟨?_,?_⟩|(refine wrapA ?_ ?_ ?_;(focus simp;done);(focus (try dsimp only);omega);(focus (try dsimp only);omega))|fail))
     ·exact WkD.eq (congrArg (DV.buf 1) (hmw.trans (hml (w+1)).symm))
     ·exact WkO.same _ _ (congrArg (fun z=>some (DObj.arr 1 z)) hst)
    ·have hw':w=l.length:=ge_dec h hw
     subst hw'
     refine⟨⟨(i+1,some ((List.range l.length).map fun w=>orF (l.getD w 0) (r.getD w 0))),hi',by rw[gatP,hz,hg2,hrw];rfl⟩,by show m.rel.length-(i+1)<m.rel.length-i;omega,?_⟩
     (refine Wk.of ?_ ?_ rfl rfl rfl<;>repeat' (first|exact trivial|exact WkD.same _|exact WkO.same _ _ rfl|refine WkD.int ?_|refine⟨?_,?_⟩|(refine wrapA ?_ ?_ ?_;(focus simp;done);(focus (try dsimp only);omega);(focus (try dsimp only);omega))|fail))
     ·exact WkD.eq (congrArg (fun z:List PV=>DV.buf 1 z.length) hout)
     ·exact WkO.same _ _ (congrArg (fun z=>some (DObj.arr 1 z)) hout)
  ·have hi':i=m.rel.length:=by have:=ge_dec (m:=(m.rel.map rowPV).length) h (by simpa using hi);simpa using this
   subst hi'
   rw[← hge.2 l hg]
   exact .refl _
theorem md_gatAnd (m:Mo) (g:Int) (hf:FitM m) (first:Nat) (hfi:∀ n,OkM m n→∀ r,r∈m.rel→∀ s,s∈r→andF first s=s) (M:Nat→Prop) (w0:W0) :
  DC Tryz.prog M w0 193 [.agg (cellsM m),.pv (.int .i64 g),.clo 194 [] []] noHeap fun d L'=>frz d L' fun q _=>PLe q (rowPV (grpM andF m g first)):=by
 refine DC.introC [3] mixed (fn:=Tryz.f193) rfl rfl rfl ?_
 have hC:=md_Check m hf
 have e3:((m.rel.map rowPV).length:Int)=(m.rel.length:Int):=by simp
 try conv=>whnf
 refine⟨{ _x:Unit // badGM m g=false },fun _=>[(1,.pv (.int .i64 g)),(2,.clo 194 [] []),(3,.ref 0 0)],fun _=>1,fun _=>HM m,?_,?_⟩
 ·(try conv=>whnf);repeat' (first|(apply And.intro<;>try conv=>whnf)|(intro h;try conv=>whnf)|apply True.intro|(apply WhenQ.mk;(try conv=>whnf);rotate_left;(try conv=>whnf);rotate_right)|with_reducible assumption|(apply not_of;with_reducible assumption)|(refine PureFn.dy hC rfl ?_;try conv=>whnf)|fail)
  ·exact Int.natCast_nonneg _
  ·have hb:badGM m g=true:=by rw[badGM,← e3];exact h
   rw[grpM,hb];exact .nil
  ·have hb:badGM m g=false:=by rw[badGM,← e3];exact h
   exact⟨⟨(),hb⟩,(by exact Wk.sm rfl rfl rfl rfl rfl)⟩
 rintro⟨_,hb⟩
 have h0:moI m=0:=by
  by_cases h:moI m=0
  ·exact h
  ·have:(moI m != 0)=true:=by simpa using h
   rw[badGM,this] at hb;cases hb
 obtain⟨n,hM⟩:=moI_ok h0
 have hag:=hM.ag
 have hn64:=hM.n64
 have hn1:=hM.n1
 have hge:=gatP_eq (g:=g) (op:=andF) (first:=first) hM.rows (hfi n hM) m.rel.length (Nat.le_refl _)
 have hgs:=gat_some (op:=andF) hM hb
 have hR:rowPV (grpM andF m g first)=rowPV ((List.range n).map fun w=>joinA andF m.rel g first w m.rel.length):=by
  rw[grpM,hb,hM.nn];rfl
 rw[hR]
 clear hR
 try conv=>whnf
 refine⟨{ q:Nat×Option (List Nat) // q.1≤m.rel.length∧gatP andF m.rel g q.1=q.2 },fun q=>match q.1.2 with|none=>[(1,.pv (.int .i64 g)),(2,.clo 194 [] []),(3,.ref 0 0),(7,.pv .nil),(27,.pv (.sl (m.rel.map rowPV))),(28,.pv (i64 (m.rel.map rowPV).length)),(29,.pv (i64 q.1.1))]|some l=>[(1,.pv (.int .i64 g)),(2,.clo 194 [] []),(3,.ref 0 0),(7,.buf 1 (l.map u64).length),(27,.pv (.sl (m.rel.map rowPV))),(28,.pv (i64 (m.rel.map rowPV).length)),(29,.pv (i64 q.1.1))],fun q=>match q.1.2 with|none=>1|some _=>2,fun q=>match q.1.2 with|none=>HM m|some l=>[(0,.var (cellsM m)),(1,.arr 1 (l.map u64))],fun q=>m.rel.length-q.1.1,⟨⟨(0,none),Nat.zero_le _,rfl⟩,(by exact Wk.sm rfl rfl rfl rfl rfl)⟩,?_⟩
 rintro⟨⟨i,_|l⟩,hi,hg⟩
 ·(try conv=>whnf);repeat' (first|(apply And.intro<;>try conv=>whnf)|(intro h;try conv=>whnf)|(apply infoT;rfl)|fail)
  ·have hi':i<m.rel.length:=by simpa using lt_dec h
   obtain⟨r,hr,hrw⟩:∃ r,m.rel[i]? = some r∧m.rel.getD i []=r:=⟨_,getD_mem hi',rfl⟩
   have hrm:r∈m.rel:=List.mem_iff_getElem?.2 ⟨i,hr⟩
   have hrl:=hM.rows r hrm
   refine⟨_,_,rfl,idx_map hr,rfl,?_⟩
   (try conv=>whnf);repeat' (first|(apply And.intro<;>try conv=>whnf)|(intro h;first|with_reducible exact tf0 h|try conv=>whnf)|fail)
   ·exact Int.natCast_nonneg _
   ·have hz:(and64 (shr64 g i) 1==0)=true:=h
    refine⟨⟨(i+1,none),hi',by rw[gatP,hz];exact hg⟩,by show m.rel.length-(i+1)<m.rel.length-i;omega,?_⟩
    (refine Wk.of ?_ ?_ rfl rfl rfl<;>repeat' (first|exact trivial|exact WkD.same _|exact WkO.same _ _ rfl|refine WkD.int ?_|refine⟨?_,?_⟩|(refine wrapA ?_ ?_ ?_;(focus simp;done);(focus (try dsimp only);omega);(focus (try dsimp only);omega))|fail))
   ·rename_i hz0
    have hz:(and64 (shr64 g i) 1==0)=false:=hz0
    have hg2:gatP andF m.rel g i=none:=hg
    refine sl_Clone r (by omega) (by omega) _ _ ?_
    try conv=>whnf
    refine⟨⟨(i+1,some r),hi',by rw[gatP,hz,hg2,hrw];rfl⟩,by show m.rel.length-(i+1)<m.rel.length-i;omega,?_⟩
    (refine Wk.of ?_ ?_ rfl rfl rfl<;>repeat' (first|exact trivial|exact WkD.same _|exact WkO.same _ _ rfl|refine WkD.int ?_|refine⟨?_,?_⟩|(refine wrapA ?_ ?_ ?_;(focus simp;done);(focus (try dsimp only);omega);(focus (try dsimp only);omega))|fail))
  ·have hi':i=m.rel.length:=by have:=ge_dec (m:=(m.rel.map rowPV).length) h (by simpa using hi);simpa using this
   subst hi'
   exact absurd hg hgs
 ·obtain⟨hll,hlb⟩:=gat_rows (op:=andF) (n:=n) (k:=2^64) (fun _ _ hx _=>Nat.lt_of_le_of_lt Nat.and_le_left hx) hM.rows hM.fit.2 hi hg
  (try conv=>whnf);repeat' (first|(apply And.intro<;>try conv=>whnf)|(intro h;try conv=>whnf)|(apply infoT;rfl)|(apply bleI;rfl)|fail)
  ·have hi':i<m.rel.length:=by simpa using lt_dec h
   obtain⟨r,hr,hrw⟩:∃ r,m.rel[i]? = some r∧m.rel.getD i []=r:=⟨_,getD_mem hi',rfl⟩
   have hrm:r∈m.rel:=List.mem_iff_getElem?.2 ⟨i,hr⟩
   have hrl:=hM.rows r hrm
   have hrb:=hM.fit.2 r hrm
   refine⟨_,_,rfl,idx_map hr,rfl,?_⟩
   (try conv=>whnf);repeat' (first|(apply And.intro<;>try conv=>whnf)|(intro h;first|with_reducible exact ft0 h|try conv=>whnf)|fail)
   ·exact Int.natCast_nonneg _
   ·have hz:(and64 (shr64 g i) 1==0)=true:=h
    refine⟨⟨(i+1,some l),hi',by rw[gatP,hz];exact hg⟩,by show m.rel.length-(i+1)<m.rel.length-i;omega,?_⟩
    (refine Wk.of ?_ ?_ rfl rfl rfl<;>repeat' (first|exact trivial|exact WkD.same _|exact WkO.same _ _ rfl|refine WkD.int ?_|refine⟨?_,?_⟩|(refine wrapA ?_ ?_ ?_;(focus simp;done);(focus (try dsimp only);omega);(focus (try dsimp only);omega))|fail))
   ·show 0<(l.map u64).length
    rw[List.length_map];omega
   ·rename_i hz0
    have hz:(and64 (shr64 g i) 1==0)=false:=hz0
    have hg2:gatP andF m.rel g i=some l:=hg
    have hin:l.map u64=mixV l.length (fun w=>u64 (andF (l.getD w 0) (r.getD w 0))) (fun w=>u64 (l.getD w 0)) 0:=by rw[mixV_zero];exact (range_map (g:=u64) (d:=0) l).symm
    have hout:mixV l.length (fun w=>u64 (andF (l.getD w 0) (r.getD w 0))) (fun w=>u64 (l.getD w 0)) l.length=((List.range l.length).map fun w=>andF (l.getD w 0) (r.getD w 0)).map u64:=by rw[mixV_full,List.map_map];rfl
    have hml:=mixV_len l.length (fun w=>u64 (andF (l.getD w 0) (r.getD w 0))) (fun w=>u64 (l.getD w 0))
    refine⟨{ w:Nat // w≤l.length },fun w=>[(1,.pv (.int .i64 g)),(2,.clo 194 [] []),(3,.ref 0 0),(7,.buf 1 (mixV l.length (fun w=>u64 (andF (l.getD w 0) (r.getD w 0))) (fun w=>u64 (l.getD w 0)) w.1).length),(9,.pv (rowPV r)),(27,.pv (.sl (m.rel.map rowPV))),(28,.pv (i64 (m.rel.map rowPV).length)),(29,.pv (i64 i)),(44,.pv (i64 l.length)),(45,.pv (i64 w.1))],fun _=>2,fun w=>[(0,.var (cellsM m)),(1,.arr 1 (mixV l.length (fun w=>u64 (andF (l.getD w 0) (r.getD w 0))) (fun w=>u64 (l.getD w 0)) w.1))],fun w=>l.length-w.1,⟨⟨0,Nat.zero_le _⟩,?_⟩,?_⟩
    ·(refine Wk.of ?_ ?_ rfl rfl rfl<;>repeat' (first|exact trivial|exact WkD.same _|exact WkO.same _ _ rfl|refine WkD.int ?_|refine⟨?_,?_⟩|fail))
     ·exact WkD.eq (congrArg (fun z:List PV=>DV.buf 1 z.length) hin)
     ·exact congrArg (fun z:Nat=>(z:Int)) (List.length_map _)
     ·exact WkO.same _ _ (congrArg (fun z=>some (DObj.arr 1 z)) hin)
    rintro⟨w,hw⟩
    have hmw:=hml w
    (try conv=>whnf);repeat' (first|(apply And.intro<;>try conv=>whnf)|(intro h;try conv=>whnf)|fail)
    ·have hw':w<l.length:=lt_dec h
     have hlw:=hlb _ (getD_in hw')
     have hrw2:w<r.length:=by omega
     have hrn:r[w]? = some (r.getD w 0):=getD_mem hrw2
     have hPF:=md_and _ _ hlw (hrb _ (getD_in hrw2))
     refine⟨Plan.lin 0 14,[13],by kernel_rfl,?_⟩
     have hst:=mixV_set (n:=l.length) (p:=fun w=>u64 (andF (l.getD w 0) (r.getD w 0))) (q:=fun w=>u64 (l.getD w 0)) (e:=w)
     (try conv=>whnf);repeat' (first|(apply And.intro<;>try conv=>whnf)|fail)
     refine⟨w,rfl,by rw[hmw];exact hw',?_⟩
     (try conv=>whnf);repeat' (first|(apply And.intro<;>try conv=>whnf)|fail)
     refine⟨_,mixV_old hw',?_⟩
     (try conv=>whnf);repeat' (first|(apply And.intro<;>try conv=>whnf)|(apply infoT;rfl)|(refine⟨_,_,rfl,idx_map (by with_reducible assumption),rfl,?_⟩;try conv=>whnf)|(refine⟨_,(by (conv=>whnf);exact hPF),rfl,?_⟩;try conv=>whnf)|fail)
     refine⟨w,rfl,by rw[hmw];exact hw',?_⟩
     (try conv=>whnf);repeat' (first|(apply And.intro<;>try conv=>whnf)|fail)
     refine⟨_,mixV_old hw',Nat.le_refl 1,?_⟩
     try conv=>whnf
     refine⟨⟨w+1,hw'⟩,by show l.length-(w+1)<l.length-w;omega,?_⟩
     (refine Wk.of ?_ ?_ rfl rfl rfl<;>repeat' (first|exact trivial|exact WkD.same _|exact WkO.same _ _ rfl|refine WkD.int ?_|refine⟨?_,?_⟩|(refine wrapA ?_ ?_ ?_;(focus simp;done);(focus (try dsimp only);omega);(focus (try dsimp only);omega))|fail))
     ·exact WkD.eq (congrArg (DV.buf 1) (hmw.trans (hml (w+1)).symm))
     ·exact WkO.same _ _ (congrArg (fun z=>some (DObj.arr 1 z)) hst)
    ·have hw':w=l.length:=ge_dec h hw
     subst hw'
     refine⟨⟨(i+1,some ((List.range l.length).map fun w=>andF (l.getD w 0) (r.getD w 0))),hi',by rw[gatP,hz,hg2,hrw];rfl⟩,by show m.rel.length-(i+1)<m.rel.length-i;omega,?_⟩
     (refine Wk.of ?_ ?_ rfl rfl rfl<;>repeat' (first|exact trivial|exact WkD.same _|exact WkO.same _ _ rfl|refine WkD.int ?_|refine⟨?_,?_⟩|(refine wrapA ?_ ?_ ?_;(focus simp;done);(focus (try dsimp only);omega);(focus (try dsimp only);omega))|fail))
     ·exact WkD.eq (congrArg (fun z:List PV=>DV.buf 1 z.length) hout)
     ·exact WkO.same _ _ (congrArg (fun z=>some (DObj.arr 1 z)) hout)
  ·have hi':i=m.rel.length:=by have:=ge_dec (m:=(m.rel.map rowPV).length) h (by simpa using hi);simpa using this
   subst hi'
   rw[← hge.2 l hg]
   exact .refl _
theorem md_Group (m:Mo) (n:Nat) (hM:OkM m n) (g:Int):PureFn Tryz.prog 161 [m.pv,.int .i64 g] (rowPV (grpM orF m g 0)):=by
 refine PureFn.intro mixed (fn:=Tryz.f161) rfl rfl rfl fun M w0 => ?_
 try conv=>whnf
 refine DC.alone (p:=rowPV (grpM orF m g 0)) rfl (fun M w0=>md_gatOr m g hM.fit 0 (fun _ _ _ _ s _=>Nat.zero_or s) M w0) ?_
 try conv=>whnf
 exact .refl _
theorem md_Meet (m:Mo) (n:Nat) (hM:OkM m n) (g:Int):PureFn Tryz.prog 160 [m.pv,.int .i64 g] (rowPV (grpM andF m g (2^n-1))):=by
 refine PureFn.intro mixed (fn:=Tryz.f160) rfl rfl rfl fun M w0 => ?_
 try conv=>whnf
 refine DC.alone (p:=rowPV (grpM andF m g (2^n-1))) rfl (fun M w0=>md_gatAnd m g hM.fit (2^n-1) (fun k hk r hr s hs => ?_) M w0) ?_
 ·have e:k=n:=by have:=hM.nn;have:=hk.nn;omega
  subst e
  have hb:=hk.bits r hr s hs
  show (2^k-1)&&&s=s
  rw[Nat.and_comm,Nat.and_two_pow_sub_one_of_lt_two_pow hb]
 try conv=>whnf
 exact .refl _
theorem ck_common (n:Nat) (r:List Nat) (c s:Nat) (hn:n≤64) (hl:r.length=n) (hb:∀ s,s∈r→s<2^n) (hs:s<2^n):PureFn Tryz.prog 162 [rowPV r,u64 (2^n-1),u64 c,u64 s] (u64 (comN n r c s)):=by
 refine PureFn.intro mixed (fn:=Tryz.f162) rfl rfl rfl fun M w0 => ?_
 have hlt:=comP_lt n r c s
 have h64:=pow64_le hn
 have hgd:=getD_lt2 hb
 try conv=>whnf
 refine⟨{ k:Nat // k≤n },fun k=>[(0,.pv (rowPV r)),(1,.pv (u64 (2^n-1))),(2,.pv (u64 c)),(3,.pv (u64 s)),(9,.pv (u64 (comP n r c s k.1)))],fun _=>0,fun _=>[],fun k=>n-k.1,⟨⟨0,Nat.zero_le _⟩,(by exact Wk.sm rfl rfl rfl rfl rfl)⟩,?_⟩
 rintro⟨k,hk⟩
 have hk1:=hlt k
 have hst:=comP_stop (c:=c) (s:=s) hgd k
 have hcn:=comP_comN (c:=c) (s:=s) (k:=k) hl hb
 have hnx:comP n r c s (k+1)=boxN n r (notN n c |||(s&&&comP n r c s k)):=rfl
 have hB:=rl_Box n r (notN n c |||(s&&&comP n r c s k)) hn hl hb (Nat.or_lt_two_pow (Nat.lt_of_lt_of_le (notN_lt n c) h64) (Nat.and_lt_two_pow _ (by omega)))
 rw[← hnx] at hB
 have hlt2:=hlt (k+1)
 have earg:u64 (notN n c |||(s&&&comP n r c s k))=.int .u64 (orU (andNotU ((2^n-1:Nat):Int) (c:Nat)) (andU (s:Nat) (comP n r c s k:Nat))):=by
  rw[andNotU_all hn,andU_nat (by omega) (by omega),orU_nat (Nat.lt_of_lt_of_le (notN_lt n c) h64) (Nat.and_lt_two_pow _ (by omega))];rfl
 rw[earg] at hB
 (try conv=>whnf);repeat' (first|(apply And.intro<;>try conv=>whnf)|(intro h;try conv=>whnf)|(refine PureFn.dy hB rfl ?_;try conv=>whnf)|fail)
 ·have he:comP n r c s (k+1)=comP n r c s k:=by
   have:((comP n r c s (k+1):Nat):Int)=(comP n r c s k:Nat):=by simpa using h
   omega
  rw[← hcn he]
  exact .refl _
 ·have he:¬ comP n r c s (k+1)=comP n r c s k:=fun e=>by
   have:¬ ((comP n r c s (k+1):Nat):Int)=(comP n r c s k:Nat):=by simpa using h
   omega
  have hk2:k+1≤n:=by
   rcases hst with g|g
   ·exact absurd g he
   ·omega
  exact⟨⟨k+1,hk2⟩,by show n-(k+1)<n-k;omega,(by exact Wk.sm rfl rfl rfl rfl rfl)⟩
theorem ck_request (m:Mo) (f:List Nd) (hf:FitM m):PureFn Tryz.prog 125 [m.pv,fpv f] (.int .i64 (reqI m f)):=by
 refine PureFn.introC [4,7,9] mixed (fn:=Tryz.f125) rfl rfl rfl fun M w0 => ?_
 have hC:=md_Check m hf
 have hK:=fm_Check f
 have hR:=fm_Frags f
 have hT:=fm_Fits f (m.rel.length:Nat) (m.val.length:Nat)
 rw[show PV.int .i64 ((m.rel.length:Nat):Int)=.int .i64 ((m.rel.map rowPV).length:Nat) by rw[List.length_map],show PV.int .i64 ((m.val.length:Nat):Int)=.int .i64 ((m.val.map u64).length:Nat) by rw[List.length_map]] at hT
 try conv=>whnf
 refine⟨{ _x:Unit // (moI m != 0)=false },fun _=>[(1,.pv (fpv f)),(2,.ref 0 0)],fun _=>1,fun _=>HM m,?_,?_⟩
 ·(try conv=>whnf);repeat' (first|(apply And.intro<;>try conv=>whnf)|(intro h;try conv=>whnf)|(refine PureFn.dy hC rfl ?_;try conv=>whnf)|fail)
  ·refine le_int ?_
   rw[reqI,h];rfl
  ·exact⟨⟨(),h⟩,(by exact Wk.sm rfl rfl rfl rfl rfl)⟩
 rintro⟨_,h1⟩
 refine⟨{ _x:Unit // (check f != 0)=false },fun _=>[(1,.pv (fpv f)),(2,.ref 0 0)],fun _=>1,fun _=>HM m,?_,?_⟩
 ·(try conv=>whnf);repeat' (first|(apply And.intro<;>try conv=>whnf)|(intro h;try conv=>whnf)|(refine PureFn.dy hK rfl ?_;try conv=>whnf)|fail)
  ·refine le_int ?_
   rw[reqI,h1,statI,h];rfl
  ·exact⟨⟨(),h⟩,(by exact Wk.sm rfl rfl rfl rfl rfl)⟩
 rintro⟨_,h2⟩
 refine⟨{ _x:Unit // (nand64' (frags f:Nat) 15 != 0)=false },fun _=>[(1,.pv (fpv f)),(2,.ref 0 0)],fun _=>1,fun _=>HM m,?_,?_⟩
 ·(try conv=>whnf);repeat' (first|(apply And.intro<;>try conv=>whnf)|(intro h;try conv=>whnf)|(refine PureFn.dy hR rfl ?_;try conv=>whnf)|fail)
  ·refine le_int ?_
   rw[reqI,h1,statI,h2,show (nand64' (frags f:Nat) 15 != 0)=true from h];rfl
  ·exact⟨⟨(),h⟩,(by exact Wk.sm rfl rfl rfl rfl rfl)⟩
 rintro⟨_,h3⟩
 (try conv=>whnf);repeat' (first|(apply And.intro<;>try conv=>whnf)|(intro h;try conv=>whnf)|(refine PureFn.dy hT rfl ?_;try conv=>whnf)|fail)
 ·refine le_int ?_
  rw[reqI,h1,statI,h2,h3,show fits f (m.rel.length:Nat) (m.val.length:Nat)=false by simpa using h];rfl
 ·refine le_int ?_
  rw[reqI,h1,statI,h2,h3,show fits f (m.rel.length:Nat) (m.val.length:Nat)=true by simpa using h];rfl
theorem grp_facts {op:Nat→Nat→Nat} {m:Mo} {n:Nat} (hM:OkM m n) (hop:∀ x y,x<2^n→y<2^n→op x y<2^n) {g:Int} {first:Nat} (hfi:first<2^n) (h1:1≤g) (h2:g<shl64 1 (m.rel.length:Int)) :
  (grpM op m g first).length=n∧∀ s,s∈grpM op m g first→s<2^n:=by
 have hb:badGM m g=false:=by
  rw[badGM,ok_moI hM,decide_eq_false (by omega),decide_eq_false (by omega)];rfl
 rw[grpM,hb,hM.nn,Int.toNat_natCast]
 refine⟨by simp,fun s hs => ?_⟩
 obtain⟨w,_,rfl⟩:=List.mem_map.1 (show s∈(List.range n).map fun w=>joinA op m.rel g first w m.rel.length from hs)
 have key:∀ i,joinA op m.rel g first w i<2^n:=fun i=>by
  induction i with
  |zero=>exact hfi
  |succ i ih =>
   rw[joinA]
   cases and64 (shr64 g i) 1==1 with
   |false=>exact ih
   |true =>
    refine hop _ _ ih ?_
    rw[List.getD_eq_getElem?_getD (l:=m.rel)]
    cases hr:m.rel[i]? with
    |none=>simp;exact Nat.two_pow_pos _
    |some r=>exact getD_lt2 (hM.bits r (List.mem_iff_getElem?.2 ⟨i,hr⟩)) w
 exact key _
def valPV (x:Nat×Bool):PV:=.tup [u64 x.1,.bool x.2]
def cellsN (op i e g x y:Int):List DV:=[.pv (.int .i64 op),.pv (.int .i64 i),.pv (.int .i64 e),.pv (.int .i64 g),.pv (.int .i64 x),.pv (.int .i64 y)]
theorem le_val {v:Int} {b:Bool} {q:Nat×Bool} (h1:v=(q.1:Int)) (h2:b=q.2):PLe (.tup [.int .u64 v,.bool b]) (valPV q):=by subst h1;subst h2;exact .refl _
theorem ck_value (m:Mo) (n:Nat) (hM:OkM m n) (x:Nd) (k:Int) (hk:OkNd x k) (a b:Nat) (ha:a<2^n) (hb:b<2^n):PureFn Tryz.prog 126 [m.pv,x.pv,u64 a,u64 b] (valPV (valV m n x a b)):=by
 obtain⟨op,i,e,g,xx,yy⟩:=x
 refine PureFn.introC [2] mixed (fn:=Tryz.f126) rfl rfl rfl fun M w0 => ?_
 have hn1:=hM.n1
 have hn:=hM.n64
 have h64:=pow64_le hn
 have hag:=hM.ag
 have ha64:a<2^64:=by omega
 have hb64:b<2^64:=by omega
 have hmn:=hM.nn
 have hw:IntKind.wrap .i64 (64-m.n)=(64:Int)-n:=by rw[hmn,Go.Dv.wrap_small (by omega) (by omega)]
 have e1:((m.val.map u64).length:Int)=(m.val.length:Int):=by simp
 have e2:((m.rel.map rowPV).length:Int)=(m.rel.length:Int):=by simp
 try conv=>whnf
 refine⟨Unit,fun _=>[(2,.pv (u64 a)),(3,.pv (u64 b)),(4,.ref 0 0),(5,.ref 1 0),(10,.pv (u64 (2^n-1)))],fun _=>2,fun _=>[(0,.var (cellsM m)),(1,.var (cellsN op i e g xx yy))],?_,?_⟩
 ·(try conv=>whnf);repeat' (first|(apply And.intro<;>try conv=>whnf)|fail)
  ·show (0:Int)≤IntKind.wrap .i64 (64-m.n)
   rw[hw];omega
  ·refine⟨(),?_⟩
   (refine Wk.of ?_ ?_ rfl rfl rfl<;>repeat' (first|exact trivial|exact WkD.same _|exact WkO.same _ _ rfl|refine WkD.int ?_|refine⟨?_,?_⟩|fail))
   show shrU 18446744073709551615 (IntKind.wrap .i64 (64-m.n))=_
   rw[hw];exact shr_all hn1 hn
 rintro⟨⟩
 have hop:op=1∨op=2∨op=3∨op=4∨op=5∨op=6∨op=7∨op=8∨op=9∨op=10∨op=11∨op=12∨op=13∨14≤op:=by have:=hk.op.1;simp only at this;omega
 rcases hop with rfl|rfl|rfl|rfl|rfl|rfl|rfl|rfl|rfl|rfl|rfl|rfl|rfl|hop
 ·skip
  have f1:((1:Int)==1)=true:=rfl
  have f2:((1:Int)==2)=false:=rfl
  have f3:((1:Int)==3)=false:=rfl
  have f4:((1:Int)==4)=false:=rfl
  have f5:((1:Int)==5)=false:=rfl
  have f6:((1:Int)==6)=false:=rfl
  have f7:((1:Int)==7)=false:=rfl
  have f8:((1:Int)==8)=false:=rfl
  have f9:((1:Int)==9)=false:=rfl
  have f10:((1:Int)==10)=false:=rfl
  have f11:((1:Int)==11)=false:=rfl
  have f12:((1:Int)==12)=false:=rfl
  have f13:((1:Int)==13)=false:=rfl
  (try conv=>whnf);repeat' (first|(apply And.intro<;>try conv=>whnf)|(intro h;first|with_reducible exact tf (by assumption) h|try conv=>whnf)|fail)
  exact le_val rfl rfl
 ·skip
  have f1:((2:Int)==1)=false:=rfl
  have f2:((2:Int)==2)=true:=rfl
  have f3:((2:Int)==3)=false:=rfl
  have f4:((2:Int)==4)=false:=rfl
  have f5:((2:Int)==5)=false:=rfl
  have f6:((2:Int)==6)=false:=rfl
  have f7:((2:Int)==7)=false:=rfl
  have f8:((2:Int)==8)=false:=rfl
  have f9:((2:Int)==9)=false:=rfl
  have f10:((2:Int)==10)=false:=rfl
  have f11:((2:Int)==11)=false:=rfl
  have f12:((2:Int)==12)=false:=rfl
  have f13:((2:Int)==13)=false:=rfl
  (try conv=>whnf);repeat' (first|(apply And.intro<;>try conv=>whnf)|(intro h;first|with_reducible exact tf h (by assumption)|with_reducible exact tf (by assumption) h|try conv=>whnf)|fail)
  exact le_val rfl rfl
 ·skip
  have f1:((3:Int)==1)=false:=rfl
  have f2:((3:Int)==2)=false:=rfl
  have f3:((3:Int)==3)=true:=rfl
  have f4:((3:Int)==4)=false:=rfl
  have f5:((3:Int)==5)=false:=rfl
  have f6:((3:Int)==6)=false:=rfl
  have f7:((3:Int)==7)=false:=rfl
  have f8:((3:Int)==8)=false:=rfl
  have f9:((3:Int)==9)=false:=rfl
  have f10:((3:Int)==10)=false:=rfl
  have f11:((3:Int)==11)=false:=rfl
  have f12:((3:Int)==12)=false:=rfl
  have f13:((3:Int)==13)=false:=rfl
  have hi:=(hk.fact rfl).1
  simp only at hi
  obtain⟨j,rfl⟩:∃ j:Nat,i=j:=⟨i.toNat,by omega⟩
  have hv:valV m n ⟨3,j,e,g,xx,yy⟩ a b=bif !decide ((j:Int)≥(m.val.length:Int)) then (m.val.getD j 0,true) else (0,false):=rfl
  (try conv=>whnf);repeat' (first|(apply And.intro<;>try conv=>whnf)|(intro h;first|with_reducible exact tf h (by assumption)|with_reducible exact tf (by assumption) h|try conv=>whnf)|(apply infoT;rfl)|fail)
  ·rw[hv,show decide ((j:Int)≥(m.val.length:Int))=true by rw[← e1];exact h]
   exact le_val rfl rfl
  ·have h9:decide ((j:Int)≥(m.val.length:Int))=false:=by rw[← e1];exact h
   have h8:=of_decide_eq_false h9
   refine⟨j,_,rfl,idx_map (getD_mem (show j<m.val.length by omega) (d:=0)),rfl,?_⟩
   try conv=>whnf
   rw[hv,h9]
   exact le_val rfl rfl
 ·skip
  have f1:((4:Int)==1)=false:=rfl
  have f2:((4:Int)==2)=false:=rfl
  have f3:((4:Int)==3)=false:=rfl
  have f4:((4:Int)==4)=true:=rfl
  have f5:((4:Int)==5)=false:=rfl
  have f6:((4:Int)==6)=false:=rfl
  have f7:((4:Int)==7)=false:=rfl
  have f8:((4:Int)==8)=false:=rfl
  have f9:((4:Int)==9)=false:=rfl
  have f10:((4:Int)==10)=false:=rfl
  have f11:((4:Int)==11)=false:=rfl
  have f12:((4:Int)==12)=false:=rfl
  have f13:((4:Int)==13)=false:=rfl
  (try conv=>whnf);repeat' (first|(apply And.intro<;>try conv=>whnf)|(intro h;first|with_reducible exact tf h (by assumption)|with_reducible exact tf (by assumption) h|try conv=>whnf)|fail)
  exact le_val (andNotU_all hn) rfl
 ·skip
  have f1:((5:Int)==1)=false:=rfl
  have f2:((5:Int)==2)=false:=rfl
  have f3:((5:Int)==3)=false:=rfl
  have f4:((5:Int)==4)=false:=rfl
  have f5:((5:Int)==5)=true:=rfl
  have f6:((5:Int)==6)=false:=rfl
  have f7:((5:Int)==7)=false:=rfl
  have f8:((5:Int)==8)=false:=rfl
  have f9:((5:Int)==9)=false:=rfl
  have f10:((5:Int)==10)=false:=rfl
  have f11:((5:Int)==11)=false:=rfl
  have f12:((5:Int)==12)=false:=rfl
  have f13:((5:Int)==13)=false:=rfl
  (try conv=>whnf);repeat' (first|(apply And.intro<;>try conv=>whnf)|(intro h;first|with_reducible exact tf h (by assumption)|with_reducible exact tf (by assumption) h|try conv=>whnf)|fail)
  exact le_val (andU_nat ha64 hb64) rfl
 ·skip
  have f1:((6:Int)==1)=false:=rfl
  have f2:((6:Int)==2)=false:=rfl
  have f3:((6:Int)==3)=false:=rfl
  have f4:((6:Int)==4)=false:=rfl
  have f5:((6:Int)==5)=false:=rfl
  have f6:((6:Int)==6)=true:=rfl
  have f7:((6:Int)==7)=false:=rfl
  have f8:((6:Int)==8)=false:=rfl
  have f9:((6:Int)==9)=false:=rfl
  have f10:((6:Int)==10)=false:=rfl
  have f11:((6:Int)==11)=false:=rfl
  have f12:((6:Int)==12)=false:=rfl
  have f13:((6:Int)==13)=false:=rfl
  (try conv=>whnf);repeat' (first|(apply And.intro<;>try conv=>whnf)|(intro h;first|with_reducible exact tf h (by assumption)|with_reducible exact tf (by assumption) h|try conv=>whnf)|fail)
  exact le_val (orU_nat ha64 hb64) rfl
 ·skip
  have f1:((7:Int)==1)=false:=rfl
  have f2:((7:Int)==2)=false:=rfl
  have f3:((7:Int)==3)=false:=rfl
  have f4:((7:Int)==4)=false:=rfl
  have f5:((7:Int)==5)=false:=rfl
  have f6:((7:Int)==6)=false:=rfl
  have f7:((7:Int)==7)=true:=rfl
  have f8:((7:Int)==8)=false:=rfl
  have f9:((7:Int)==9)=false:=rfl
  have f10:((7:Int)==10)=false:=rfl
  have f11:((7:Int)==11)=false:=rfl
  have f12:((7:Int)==12)=false:=rfl
  have f13:((7:Int)==13)=false:=rfl
  (try conv=>whnf);repeat' (first|(apply And.intro<;>try conv=>whnf)|(intro h;first|with_reducible exact tf h (by assumption)|with_reducible exact tf (by assumption) h|try conv=>whnf)|fail)
  refine le_val ?_ rfl
  show orU (andNotU ((2^n-1:Nat):Int) (a:Nat)) (b:Nat)=_
  rw[andNotU_all hn]
  exact orU_nat (Nat.lt_of_lt_of_le (notN_lt n a) h64) hb64
 ·skip
  have f1:((8:Int)==1)=false:=rfl
  have f2:((8:Int)==2)=false:=rfl
  have f3:((8:Int)==3)=false:=rfl
  have f4:((8:Int)==4)=false:=rfl
  have f5:((8:Int)==5)=false:=rfl
  have f6:((8:Int)==6)=false:=rfl
  have f7:((8:Int)==7)=false:=rfl
  have f8:((8:Int)==8)=true:=rfl
  have f9:((8:Int)==9)=false:=rfl
  have f10:((8:Int)==10)=false:=rfl
  have f11:((8:Int)==11)=false:=rfl
  have f12:((8:Int)==12)=false:=rfl
  have f13:((8:Int)==13)=false:=rfl
  (try conv=>whnf);repeat' (first|(apply And.intro<;>try conv=>whnf)|(intro h;first|with_reducible exact tf h (by assumption)|with_reducible exact tf (by assumption) h|try conv=>whnf)|fail)
  refine le_val ?_ rfl
  show andNotU ((2^n-1:Nat):Int) (xorU (a:Nat) (b:Nat))=_
  rw[xorU_nat ha64 hb64]
  exact andNotU_all hn
 ·skip
  have f1:((9:Int)==1)=false:=rfl
  have f2:((9:Int)==2)=false:=rfl
  have f3:((9:Int)==3)=false:=rfl
  have f4:((9:Int)==4)=false:=rfl
  have f5:((9:Int)==5)=false:=rfl
  have f6:((9:Int)==6)=false:=rfl
  have f7:((9:Int)==7)=false:=rfl
  have f8:((9:Int)==8)=false:=rfl
  have f9:((9:Int)==9)=true:=rfl
  have f10:((9:Int)==10)=false:=rfl
  have f11:((9:Int)==11)=false:=rfl
  have f12:((9:Int)==12)=false:=rfl
  have f13:((9:Int)==13)=false:=rfl
  have hi:=(hk.agent rfl).1
  simp only at hi
  obtain⟨j,rfl⟩:∃ j:Nat,i=j:=⟨i.toNat,by omega⟩
  have hv:valV m n ⟨9,j,e,g,xx,yy⟩ a b=bif !decide ((j:Int)≥(m.rel.length:Int)) then (boxN n (m.rel.getD j []) a,true) else (0,false):=rfl
  (try conv=>whnf);repeat' (first|(apply And.intro<;>try conv=>whnf)|(intro h;first|with_reducible exact tf h (by assumption)|with_reducible exact tf (by assumption) h|try conv=>whnf)|(apply infoT;rfl)|fail)
  ·rw[hv,show decide ((j:Int)≥(m.rel.length:Int))=true by rw[← e2];exact h]
   exact le_val rfl rfl
  ·rename_i hc
   have h9:decide ((j:Int)≥(m.rel.length:Int))=false:=by rw[← e2];exact hc
   have h8:=of_decide_eq_false h9
   obtain⟨r,hr,hrw⟩:∃ r,m.rel[j]? = some r∧m.rel.getD j []=r:=⟨_,getD_mem (by omega),rfl⟩
   have hrm:r∈m.rel:=List.mem_iff_getElem?.2 ⟨j,hr⟩
   have hB:=rl_Box n r a hn (hM.rows r hrm) (hM.bits r hrm) ha64
   rw[hv,h9,hrw]
   refine⟨_,_,rfl,idx_map hr,rfl,?_⟩
   (try conv=>whnf);repeat' (first|(refine PureFn.dy hB rfl ?_;try conv=>whnf)|fail)
   exact le_val rfl rfl
 ·skip
  have f1:((10:Int)==1)=false:=rfl
  have f2:((10:Int)==2)=false:=rfl
  have f3:((10:Int)==3)=false:=rfl
  have f4:((10:Int)==4)=false:=rfl
  have f5:((10:Int)==5)=false:=rfl
  have f6:((10:Int)==6)=false:=rfl
  have f7:((10:Int)==7)=false:=rfl
  have f8:((10:Int)==8)=false:=rfl
  have f9:((10:Int)==9)=false:=rfl
  have f10:((10:Int)==10)=true:=rfl
  have f11:((10:Int)==11)=false:=rfl
  have f12:((10:Int)==12)=false:=rfl
  have f13:((10:Int)==13)=false:=rfl
  have hi:=(hk.agent rfl).1
  simp only at hi
  obtain⟨j,rfl⟩:∃ j:Nat,i=j:=⟨i.toNat,by omega⟩
  have hv:valV m n ⟨10,j,e,g,xx,yy⟩ a b=bif !decide ((j:Int)≥(m.rel.length:Int)) then (diaN n (m.rel.getD j []) a,true) else (0,false):=rfl
  (try conv=>whnf);repeat' (first|(apply And.intro<;>try conv=>whnf)|(intro h;first|with_reducible exact tf h (by assumption)|with_reducible exact tf (by assumption) h|try conv=>whnf)|(apply infoT;rfl)|fail)
  ·rw[hv,show decide ((j:Int)≥(m.rel.length:Int))=true by rw[← e2];exact h]
   exact le_val rfl rfl
  ·rename_i hc
   have h9:decide ((j:Int)≥(m.rel.length:Int))=false:=by rw[← e2];exact hc
   have h8:=of_decide_eq_false h9
   obtain⟨r,hr,hrw⟩:∃ r,m.rel[j]? = some r∧m.rel.getD j []=r:=⟨_,getD_mem (by omega),rfl⟩
   have hrm:r∈m.rel:=List.mem_iff_getElem?.2 ⟨j,hr⟩
   have hB:=rl_Diamond n r a hn (hM.rows r hrm) (hM.bits r hrm) ha64
   rw[hv,h9,hrw]
   refine⟨_,_,rfl,idx_map hr,rfl,?_⟩
   (try conv=>whnf);repeat' (first|(refine PureFn.dy hB rfl ?_;try conv=>whnf)|fail)
   exact le_val rfl rfl
 ·skip
  have f1:((11:Int)==1)=false:=rfl
  have f2:((11:Int)==2)=false:=rfl
  have f3:((11:Int)==3)=false:=rfl
  have f4:((11:Int)==4)=false:=rfl
  have f5:((11:Int)==5)=false:=rfl
  have f6:((11:Int)==6)=false:=rfl
  have f7:((11:Int)==7)=false:=rfl
  have f8:((11:Int)==8)=false:=rfl
  have f9:((11:Int)==9)=false:=rfl
  have f10:((11:Int)==10)=false:=rfl
  have f11:((11:Int)==11)=true:=rfl
  have f12:((11:Int)==12)=false:=rfl
  have f13:((11:Int)==13)=false:=rfl
  have hg1:=(hk.group rfl).1
  simp only at hg1
  have hv:valV m n ⟨11,i,e,g,xx,yy⟩ a b=bif !decide (g≥shl64 1 (m.rel.length:Int)) then (boxN n (grpM orF m g 0) a,true) else (0,false):=rfl
  have hG:=md_Group m n hM g
  have hgf:=fun (h:g<shl64 1 (m.rel.length:Int))=>grp_facts (op:=orF) (first:=0) hM (fun _ _ hx hy=>Nat.or_lt_two_pow hx hy) (Nat.two_pow_pos n) hg1 h
  rw[hv]
  clear hv
  generalize grpM orF m g 0=G at hG hgf ⊢
  (try conv=>whnf);repeat' (first|(apply And.intro<;>try conv=>whnf)|(intro h;first|with_reducible exact tf h (by assumption)|with_reducible exact tf (by assumption) h|try conv=>whnf)|(refine lin_plan (by kernel_rfl) ?_;try conv=>whnf)|fail)
  ·exact Int.natCast_nonneg _
  ·have h9:decide (g≥shl64 1 (m.rel.length:Int))=true:=by rw[← e2];exact h
   rw[h9]
   exact le_val rfl rfl
  ·rename_i hc
   have h9:decide (g≥shl64 1 (m.rel.length:Int))=false:=by rw[← e2];exact hc
   have h8:=of_decide_eq_false h9
   obtain⟨hgl,hgb⟩:=hgf (by omega)
   have hB:=rl_Box n _ a hn hgl hgb ha64
   rw[h9]
   (try conv=>whnf);repeat' (first|(apply And.intro<;>try conv=>whnf)|(intro h;first|with_reducible exact tf (by assumption) h|try conv=>whnf)|(refine PureFn.dy hG rfl ?_;try conv=>whnf)|(refine PureFn.dy hB rfl ?_;try conv=>whnf)|fail)
   exact le_val rfl rfl
 ·skip
  have f1:((12:Int)==1)=false:=rfl
  have f2:((12:Int)==2)=false:=rfl
  have f3:((12:Int)==3)=false:=rfl
  have f4:((12:Int)==4)=false:=rfl
  have f5:((12:Int)==5)=false:=rfl
  have f6:((12:Int)==6)=false:=rfl
  have f7:((12:Int)==7)=false:=rfl
  have f8:((12:Int)==8)=false:=rfl
  have f9:((12:Int)==9)=false:=rfl
  have f10:((12:Int)==10)=false:=rfl
  have f11:((12:Int)==11)=false:=rfl
  have f12:((12:Int)==12)=true:=rfl
  have f13:((12:Int)==13)=false:=rfl
  have hg1:=(hk.group rfl).1
  simp only at hg1
  have hv:valV m n ⟨12,i,e,g,xx,yy⟩ a b=bif !decide (g≥shl64 1 (m.rel.length:Int)) then (boxN n (grpM andF m g (2^n-1)) a,true) else (0,false):=rfl
  have hG:=md_Meet m n hM g
  have hgf:=fun (h:g<shl64 1 (m.rel.length:Int))=>grp_facts (op:=andF) (first:=(2^n-1)) hM (fun _ _ hx _=>Nat.lt_of_le_of_lt Nat.and_le_left hx) (by have:=Nat.two_pow_pos n;omega) hg1 h
  rw[hv]
  clear hv
  generalize grpM andF m g (2^n-1)=G at hG hgf ⊢
  (try conv=>whnf);repeat' (first|(apply And.intro<;>try conv=>whnf)|(intro h;first|with_reducible exact tf h (by assumption)|with_reducible exact tf (by assumption) h|try conv=>whnf)|(refine lin_plan (by kernel_rfl) ?_;try conv=>whnf)|fail)
  ·exact Int.natCast_nonneg _
  ·have h9:decide (g≥shl64 1 (m.rel.length:Int))=true:=by rw[← e2];exact h
   rw[h9]
   exact le_val rfl rfl
  ·rename_i hc
   have h9:decide (g≥shl64 1 (m.rel.length:Int))=false:=by rw[← e2];exact hc
   have h8:=of_decide_eq_false h9
   obtain⟨hgl,hgb⟩:=hgf (by omega)
   have hB:=rl_Box n _ a hn hgl hgb ha64
   rw[h9]
   (try conv=>whnf);repeat' (first|(refine PureFn.dy hG rfl ?_;try conv=>whnf)|(refine PureFn.dy hB rfl ?_;try conv=>whnf)|fail)
   exact le_val rfl rfl
 ·skip
  have f1:((13:Int)==1)=false:=rfl
  have f2:((13:Int)==2)=false:=rfl
  have f3:((13:Int)==3)=false:=rfl
  have f4:((13:Int)==4)=false:=rfl
  have f5:((13:Int)==5)=false:=rfl
  have f6:((13:Int)==6)=false:=rfl
  have f7:((13:Int)==7)=false:=rfl
  have f8:((13:Int)==8)=false:=rfl
  have f9:((13:Int)==9)=false:=rfl
  have f10:((13:Int)==10)=false:=rfl
  have f11:((13:Int)==11)=false:=rfl
  have f12:((13:Int)==12)=false:=rfl
  have f13:((13:Int)==13)=true:=rfl
  have hg1:=(hk.group rfl).1
  simp only at hg1
  have hv:valV m n ⟨13,i,e,g,xx,yy⟩ a b=bif !decide (g≥shl64 1 (m.rel.length:Int)) then (comN n (grpM orF m g 0) a b,true) else (0,false):=rfl
  have hG:=md_Group m n hM g
  have hgf:=fun (h:g<shl64 1 (m.rel.length:Int))=>grp_facts (op:=orF) (first:=0) hM (fun _ _ hx hy=>Nat.or_lt_two_pow hx hy) (Nat.two_pow_pos n) hg1 h
  rw[hv]
  clear hv
  generalize grpM orF m g 0=G at hG hgf ⊢
  (try conv=>whnf);repeat' (first|(apply And.intro<;>try conv=>whnf)|(intro h;first|with_reducible exact tf h (by assumption)|with_reducible exact tf (by assumption) h|try conv=>whnf)|(refine lin_plan (by kernel_rfl) ?_;try conv=>whnf)|fail)
  ·exact Int.natCast_nonneg _
  ·have h9:decide (g≥shl64 1 (m.rel.length:Int))=true:=by rw[← e2];exact h
   rw[h9]
   exact le_val rfl rfl
  ·rename_i hc
   have h9:decide (g≥shl64 1 (m.rel.length:Int))=false:=by rw[← e2];exact hc
   have h8:=of_decide_eq_false h9
   obtain⟨hgl,hgb⟩:=hgf (by omega)
   have hB:=ck_common n _ a b hn hgl hgb hb
   rw[h9]
   (try conv=>whnf);repeat' (first|(apply And.intro<;>try conv=>whnf)|(intro h;first|with_reducible exact tf h (by assumption)|try conv=>whnf)|(refine PureFn.dy hG rfl ?_;try conv=>whnf)|(refine PureFn.dy hB rfl ?_;try conv=>whnf)|fail)
   exact le_val rfl rfl
 ·skip
  have f1:(op==1)=false:=by simp;omega
  have f2:(op==2)=false:=by simp;omega
  have f3:(op==3)=false:=by simp;omega
  have f4:(op==4)=false:=by simp;omega
  have f5:(op==5)=false:=by simp;omega
  have f6:(op==6)=false:=by simp;omega
  have f7:(op==7)=false:=by simp;omega
  have f8:(op==8)=false:=by simp;omega
  have f9:(op==9)=false:=by simp;omega
  have f10:(op==10)=false:=by simp;omega
  have f11:(op==11)=false:=by simp;omega
  have f12:(op==12)=false:=by simp;omega
  have f13:(op==13)=false:=by simp;omega
  have hv:valV m n ⟨op,i,e,g,xx,yy⟩ a b=(0,false):=by
   have hq:fitQ m op i e g=false:=by
    cases q:fitQ m op i e g with
    |false=>rfl
    |true=>have:=fitQ_13 q;omega
   rw[valV,hq];rfl
  rw[hv]
  (try conv=>whnf);repeat' (first|(apply And.intro<;>try conv=>whnf)|(intro h;first|with_reducible exact tf h (by assumption)|try conv=>whnf)|fail)
  exact .refl _
def arrG (N:Nat) (g:Nat×Bool→PV) (acc:List (Nat×Bool)):List PV:=(List.range N).map fun j=>g (acc.getD j (0,false))
theorem arrG_len (N:Nat) (g:Nat×Bool→PV) (acc:List (Nat×Bool)):(arrG N g acc).length=N:=by simp[arrG]
theorem arrG_get {N:Nat} {g:Nat×Bool→PV} {acc:List (Nat×Bool)} {j:Nat} (h:j<N):(arrG N g acc)[j]? = some (g (acc.getD j (0,false))):=by
 simp[arrG,List.getElem?_map,List.getElem?_range h]
theorem getD_snoc {acc:List (Nat×Bool)} {v:Nat×Bool} {j:Nat}:(acc++[v]).getD j (0,false)=if j=acc.length then v else acc.getD j (0,false):=by
 rw[List.getD_eq_getElem?_getD,List.getD_eq_getElem?_getD]
 by_cases h:j=acc.length
 ·subst h;simp
 ·rw[if_neg h]
  by_cases q:j<acc.length
  ·rw[List.getElem?_append_left q]
  ·rw[List.getElem?_eq_none (by simp;omega),List.getElem?_eq_none (by omega)]
theorem arrG_set {N:Nat} {g:Nat×Bool→PV} {acc:List (Nat×Bool)} {v:Nat×Bool} {i:Nat} (hi:i<N) (hl:acc.length=i):(arrG N g acc).set i (g v)=arrG N g (acc++[v]):=by
 apply List.ext_getElem?
 intro j
 rw[List.getElem?_set,arrG_len]
 by_cases hj:j<N
 ·rw[arrG_get hj,arrG_get hj,getD_snoc,hl]
  by_cases e:i=j
  ·subst e;simp[hi]
  ·rw[if_neg e,if_neg (fun h=>e h.symm)]
 ·rw[List.getElem?_eq_none (by rw[arrG_len];omega),List.getElem?_eq_none (by rw[arrG_len];omega)]
  rw[if_neg (show ¬ i=j by omega)]
theorem arrG_skip {N:Nat} {g:Nat×Bool→PV} {acc:List (Nat×Bool)}:arrG N g (acc++[(0,false)])=arrG N g acc:=by
 apply List.map_congr_left
 intro j _
 rw[getD_snoc]
 split
 ·rename_i h
  rw[List.getD_eq_getElem?_getD,List.getElem?_eq_none (by omega)];rfl
 ·rfl
theorem arrG_nil (N:Nat) (g:Nat×Bool→PV):arrG N g []=List.replicate N (g (0,false)):=by
 apply List.ext_getElem (by simp[arrG])
 intro i h1 h2
 simp[arrG]
theorem arrG_full {N:Nat} {g:Nat×Bool→PV} {acc:List (Nat×Bool)} (h:acc.length=N):arrG N g acc=acc.map g:=by subst h;exact map_getD rfl
def gS (v:Nat×Bool):PV:=u64 v.1
def gF (v:Nat×Bool):PV:=.bool v.2
def setsI (m:Mo) (f:List Nd):List Nat×Int:=bif reqI m f != 0 then ([],reqI m f) else ((setsV m m.n.toNat f).map (·.1),0)
def setsPV (x:List Nat×Int):PV:=.tup [rowPV x.1,.int .i64 x.2]
theorem setsV_lt {m:Mo} {n:Nat} (hM:OkM m n) (f:List Nd):∀ v,v∈setsV m n f→v.1<2^n:=by
 have key:∀ (l:List Nd) (acc:List (Nat×Bool)),(∀ v,v∈acc→v.1<2^n)→∀ v,v∈l.foldl (fun acc x=>acc++[nodeV m n acc x]) acc→v.1<2^n:=by
  intro l
  induction l with
  |nil=>intro acc h;exact h
  |cons x r ih =>
   intro acc h
   refine ih _ fun v hv => ?_
   rcases List.mem_append.1 hv with hv|hv
   ·exact h v hv
   ·rw[List.mem_singleton.1 hv]
    have hg:∀ j,(acc.getD j (0,false)).1<2^n:=fun j=>by
     rw[List.getD_eq_getElem?_getD]
     cases hq:acc[j]? with
     |none=>exact Nat.two_pow_pos n
     |some w=>exact h w (List.mem_iff_getElem?.2 ⟨j,hq⟩)
    unfold nodeV
    cases okV acc x with
    |false=>exact Nat.two_pow_pos n
    |true =>
     show (valV m n x _ _).1<2^n
     unfold valV
     cases fitQ m x.op x.i x.e x.g with
     |false=>exact Nat.two_pow_pos n
     |true=>exact vlN_lt hM.vbits (hg _) (hg _)
 exact key f [] (by simp)
theorem ck_Sets (m:Mo) (f:List Nd) (hf:FitM m):PureFn Tryz.prog 94 [m.pv,fpv f] (setsPV (setsI m f)):=by
 refine PureFn.introC [4,6,12,14,16] mixed (fn:=Tryz.f94) rfl rfl rfl fun M w0 => ?_
 have hR:=ck_request m f hf
 try conv=>whnf
 refine⟨{ _x:Unit // (reqI m f != 0)=false },fun _=>[(1,.pv (fpv f)),(2,.ref 0 0)],fun _=>1,fun _=>HM m,?_,?_⟩
 ·(try conv=>whnf);repeat' (first|(apply And.intro<;>try conv=>whnf)|(intro h;try conv=>whnf)|(refine PureFn.dy hR rfl ?_;try conv=>whnf)|fail)
  ·rw[setsI,h];exact PLe.tups ⟨.nil,.refl _,trivial⟩
  ·exact⟨⟨(),h⟩,(by exact Wk.sm rfl rfl rfl rfl rfl)⟩
 rintro⟨_,h0⟩
 obtain⟨⟨n,hM⟩,hst⟩:=reqI_ok (show reqI m f=0 by simpa using h0)
 have hch:=(statM_iff.1 hst).1
 have hok:=check_okl hch
 have hfl:f.length≤200:=(check_ok hch).2.1
 have hres:setsI m f=((setsV m n f).map (·.1),0):=by rw[setsI,h0,hM.nn,Int.toNat_natCast];rfl
 rw[hres]
 clear hres
 have hN:((f.map Nd.pv).length:Int).toNat=f.length:=by rw[List.length_map];rfl
 have hz1:List.replicate ((f.map Nd.pv).length:Int).toNat (PV.int .u64 0)=arrG f.length gS []:=by rw[arrG_nil,hN];rfl
 have hz2:List.replicate ((f.map Nd.pv).length:Int).toNat (PV.bool false)=arrG f.length gF []:=by rw[arrG_nil,hN];rfl
 have hbig:((f.map Nd.pv).length:Int)≤(big:Int):=by
  show ((f.map Nd.pv).length:Int)≤4294967296
  rw[List.length_map];omega
 (try conv=>whnf);repeat' (first|(apply And.intro<;>try conv=>whnf)|(apply Or.inl;try conv=>whnf)|fail)
 ·rfl
 ·exact Int.natCast_nonneg _
 ·exact hbig
 refine⟨Unit,fun _=>[(1,.pv (fpv f)),(2,.ref 0 0),(7,.buf 1 (arrG f.length gS []).length),(8,.buf 2 (arrG f.length gF []).length)],fun _=>3,fun _=>[(0,.var (cellsM m)),(1,.arr 1 (arrG f.length gS [])),(2,.arr 1 (arrG f.length gF []))],?_,?_⟩
 ·(try conv=>whnf);repeat' (first|(apply And.intro<;>try conv=>whnf)|(apply Or.inl;try conv=>whnf)|fail)
  ·rfl
  ·exact Int.natCast_nonneg _
  ·exact hbig
  refine⟨(),?_⟩
  (refine Wk.of ?_ ?_ rfl rfl rfl<;>repeat' (first|exact trivial|exact WkD.same _|exact WkO.same _ _ rfl|refine⟨?_,?_⟩|fail))
  ·exact WkD.eq (congrArg (fun z:List PV=>DV.buf 1 z.length) hz1)
  ·exact WkD.eq (congrArg (fun z:List PV=>DV.buf 2 z.length) hz2)
  ·exact WkO.same _ _ (congrArg (fun z=>some (DObj.arr 1 z)) hz1)
  ·exact WkO.same _ _ (congrArg (fun z=>some (DObj.arr 1 z)) hz2)
 rintro⟨⟩
 try conv=>whnf
 have hvl:=setsV_lt hM
 refine⟨{ i:Nat // i≤f.length },fun i=>[(2,.ref 0 0),(7,.buf 1 (arrG f.length gS (setsV m n (f.take i.1))).length),(8,.buf 2 (arrG f.length gF (setsV m n (f.take i.1))).length),(24,.pv (fpv f)),(25,.pv (i64 (f.map Nd.pv).length)),(26,.pv (i64 i.1))],fun _=>3,fun i=>[(0,.var (cellsM m)),(1,.arr 1 (arrG f.length gS (setsV m n (f.take i.1)))),(2,.arr 1 (arrG f.length gF (setsV m n (f.take i.1))))],fun i=>f.length-i.1,⟨⟨0,Nat.zero_le _⟩,(by exact Wk.sm rfl rfl rfl rfl rfl)⟩,?_⟩
 rintro⟨i,hi⟩
 have hA2:=fun (h:i<f.length)=>setsV_take (m:=m) (n:=n) h
 have hAl:=setsV_len (m:=m) (n:=n) (f:=f) i hi
 have hAb:∀ j,((setsV m n (f.take i)).getD j (0,false)).1<2^n:=fun j=>by
  rw[List.getD_eq_getElem?_getD]
  cases hq:(setsV m n (f.take i))[j]? with
  |none=>exact Nat.two_pow_pos n
  |some w=>exact setsV_lt hM _ w (List.mem_iff_getElem?.2 ⟨j,hq⟩)
 have hfin:setsV m n f=setsV m n (f.take f.length):=by rw[List.take_length]
 (try conv=>whnf);repeat' (first|(apply And.intro<;>try conv=>whnf)|(intro h;try conv=>whnf)|(apply bleI;rfl)|fail)
 ·have hi':i<f.length:=by simpa using lt_dec h
  have hx:f[i]? = some f[i]:=List.getElem?_eq_getElem hi'
  have hk:=hok i _ hx
  have hA3:=hA2 hi'
  clear hA2
  refine⟨Unit,fun _=>[(2,.ref 0 0),(7,.buf 1 (arrG f.length gS (setsV m n (f.take (i+1)))).length),(8,.buf 2 (arrG f.length gF (setsV m n (f.take (i+1)))).length),(24,.pv (fpv f)),(25,.pv (i64 (f.map Nd.pv).length)),(26,.pv (i64 i))],fun _=>3,fun _=>[(0,.var (cellsM m)),(1,.arr 1 (arrG f.length gS (setsV m n (f.take (i+1))))),(2,.arr 1 (arrG f.length gF (setsV m n (f.take (i+1)))))],?_,?_⟩
  ·rw[hA3]
   clear hA3
   generalize f[i]=x at hx hk ⊢
   obtain⟨op,io,eo,g,xx,yy⟩:=x
   obtain⟨X,rfl,hXi⟩:∃ X:Nat,xx=X∧X<f.length:=by
    cases hu:usesX op with
    |true=>have:=hk.x hu;simp only at this;exact⟨xx.toNat,by omega,by omega⟩
    |false=>have:=hk.nox hu;simp only at this;exact⟨0,this,by omega⟩
   obtain⟨Y,rfl,hYi⟩:∃ Y:Nat,yy=Y∧Y<f.length:=by
    cases hu:usesY op with
    |true=>have:=hk.y hu;simp only at this;exact⟨yy.toNat,by omega,by omega⟩
    |false=>have:=hk.noy hu;simp only at this;exact⟨0,this,by omega⟩
   (try conv=>whnf);repeat' (first|(apply And.intro<;>try conv=>whnf)|(apply infoT;rfl)|(refine⟨_,_,rfl,idx_map (by with_reducible assumption),rfl,?_⟩;try conv=>whnf)|fail)
   refine⟨Unit,fun _=>[(2,.ref 0 0),(7,.buf 1 (arrG f.length gS (setsV m n (f.take i))).length),(8,.buf 2 (arrG f.length gF (setsV m n (f.take i))).length),(9,.pv (i64 i)),(10,.ref 3 0),(11,.pv (.bool (bif decide (op≥4) then ((setsV m n (f.take i)).getD X (0,false)).2 else true))),(24,.pv (fpv f)),(25,.pv (i64 (f.map Nd.pv).length)),(26,.pv (i64 i))],fun _=>4,fun _=>[(0,.var (cellsM m)),(1,.arr 1 (arrG f.length gS (setsV m n (f.take i)))),(2,.arr 1 (arrG f.length gF (setsV m n (f.take i)))),(3,.var (cellsN op io eo g X Y))],?_,?_⟩
   ·(try conv=>whnf);repeat' (first|(apply And.intro<;>try conv=>whnf)|(intro h;try conv=>whnf)|fail)
    ·rw[show decide (op≥4)=true from h]
     refine⟨X,rfl,by rw[arrG_len];exact hXi,?_⟩
     (try conv=>whnf);repeat' (first|(apply And.intro<;>try conv=>whnf)|fail)
     refine⟨_,arrG_get hXi,?_⟩
     try conv=>whnf
     exact⟨(),(by exact Wk.sm rfl rfl rfl rfl rfl)⟩
    ·rw[show decide (op≥4)=false from h]
     exact⟨(),(by exact Wk.sm rfl rfl rfl rfl rfl)⟩
   rintro⟨⟩
   refine⟨Unit,fun _=>[(2,.ref 0 0),(7,.buf 1 (arrG f.length gS (setsV m n (f.take i))).length),(8,.buf 2 (arrG f.length gF (setsV m n (f.take i))).length),(9,.pv (i64 i)),(10,.ref 3 0),(11,.pv (.bool (okV (setsV m n (f.take i)) ⟨op,io,eo,g,X,Y⟩))),(24,.pv (fpv f)),(25,.pv (i64 (f.map Nd.pv).length)),(26,.pv (i64 i))],fun _=>4,fun _=>[(0,.var (cellsM m)),(1,.arr 1 (arrG f.length gS (setsV m n (f.take i)))),(2,.arr 1 (arrG f.length gF (setsV m n (f.take i)))),(3,.var (cellsN op io eo g X Y))],?_,?_⟩
   ·have hokv:okV (setsV m n (f.take i)) ⟨op,io,eo,g,X,Y⟩=bif usY op then (bif (bif decide (op≥4) then ((setsV m n (f.take i)).getD X (0,false)).2 else true) then ((setsV m n (f.take i)).getD Y (0,false)).2 else false) else (bif decide (op≥4) then ((setsV m n (f.take i)).getD X (0,false)).2 else true):=rfl
    rw[hokv]
    generalize (bif decide (op≥4) then ((setsV m n (f.take i)).getD X (0,false)).2 else true)=c1
    (try conv=>whnf);repeat' (first|(apply And.intro<;>try conv=>whnf)|(intro h;try conv=>whnf)|apply True.intro|(apply WhenQ.mk;(try conv=>whnf);rotate_left;(try conv=>whnf);rotate_right)|with_reducible assumption|(apply not_of;with_reducible assumption)|fail)
    ·refine⟨Y,rfl,by rw[arrG_len];exact hYi,?_⟩
     (try conv=>whnf);repeat' (first|(apply And.intro<;>try conv=>whnf)|fail)
    ·(try conv=>whnf);repeat' (first|(apply And.intro<;>try conv=>whnf)|fail)
     refine⟨_,arrG_get hYi,?_⟩
     (try conv=>whnf);repeat' (first|(apply And.intro<;>try conv=>whnf)|fail)
    ·(try conv=>whnf);repeat' (first|(apply And.intro<;>try conv=>whnf)|(intro h;try conv=>whnf)|with_reducible assumption|fail)
     rw[show usY op=true from h]
     exact⟨(),(by exact Wk.sm rfl rfl rfl rfl rfl)⟩
    ·rw[show usY op=false from h]
     exact⟨(),(by exact Wk.sm rfl rfl rfl rfl rfl)⟩
   rintro⟨⟩
   have hnv:nodeV m n (setsV m n (f.take i)) ⟨op,io,eo,g,X,Y⟩=bif okV (setsV m n (f.take i)) ⟨op,io,eo,g,X,Y⟩ then valV m n ⟨op,io,eo,g,X,Y⟩ ((setsV m n (f.take i)).getD X (0,false)).1 ((setsV m n (f.take i)).getD Y (0,false)).1 else (0,false):=rfl
   have hV:=ck_value m n hM ⟨op,io,eo,g,X,Y⟩ i hk _ _ (hAb X) (hAb Y)
   rw[hnv]
   generalize okV (setsV m n (f.take i)) ⟨op,io,eo,g,X,Y⟩=c2
   (try conv=>whnf);repeat' (first|(apply And.intro<;>try conv=>whnf)|(intro h;try conv=>whnf)|fail)
   ·rw[show c2=true from h,cond_true]
    have hs1:=arrG_set (g:=gS) (v:=valV m n ⟨op,io,eo,g,X,Y⟩ ((setsV m n (f.take i)).getD X (0,false)).1 ((setsV m n (f.take i)).getD Y (0,false)).1) hi' hAl
    have hs2:=arrG_set (g:=gF) (v:=valV m n ⟨op,io,eo,g,X,Y⟩ ((setsV m n (f.take i)).getD X (0,false)).1 ((setsV m n (f.take i)).getD Y (0,false)).1) hi' hAl
    have hll:=fun (g:Nat×Bool→PV) (B:List (Nat×Bool))=>(arrG_len f.length g (setsV m n (f.take i))).trans (arrG_len f.length g B).symm
    refine⟨Plan.lin 0 24,[21,23],by kernel_rfl,?_⟩
    (try conv=>whnf);repeat' (first|(apply And.intro<;>try conv=>whnf)|fail)
    refine⟨X,rfl,by rw[arrG_len];exact hXi,?_⟩
    (try conv=>whnf);repeat' (first|(apply And.intro<;>try conv=>whnf)|fail)
    refine⟨_,arrG_get hXi,?_⟩
    (try conv=>whnf);repeat' (first|(apply And.intro<;>try conv=>whnf)|fail)
    refine⟨Y,rfl,by rw[arrG_len];exact hYi,?_⟩
    (try conv=>whnf);repeat' (first|(apply And.intro<;>try conv=>whnf)|fail)
    refine⟨_,arrG_get hYi,?_⟩
    (try conv=>whnf);repeat' (first|(apply And.intro<;>try conv=>whnf)|(refine⟨_,(by (conv=>whnf);exact hV),rfl,?_⟩;try conv=>whnf)|fail)
    refine⟨i,rfl,by rw[arrG_len];exact hi',?_⟩
    (try conv=>whnf);repeat' (first|(apply And.intro<;>try conv=>whnf)|fail)
    refine⟨_,arrG_get hi',Nat.le_refl 1,?_⟩
    (try conv=>whnf);repeat' (first|(apply And.intro<;>try conv=>whnf)|fail)
    refine⟨i,rfl,by rw[arrG_len];exact hi',?_⟩
    (try conv=>whnf);repeat' (first|(apply And.intro<;>try conv=>whnf)|fail)
    refine⟨_,arrG_get hi',Nat.le_refl 1,?_⟩
    try conv=>whnf
    refine⟨(),?_⟩
    (refine Wk.of ?_ ?_ rfl rfl rfl<;>repeat' (first|exact trivial|exact WkD.same _|exact WkO.same _ _ rfl|refine⟨?_,?_⟩|fail))
    ·exact WkD.eq (congrArg (DV.buf 1) (hll gS _))
    ·exact WkD.eq (congrArg (DV.buf 2) (hll gF _))
    ·exact WkO.same _ _ (congrArg (fun z=>some (DObj.arr 1 z)) hs1)
    ·exact WkO.same _ _ (congrArg (fun z=>some (DObj.arr 1 z)) hs2)
   ·rw[show c2=false from h,cond_false,arrG_skip,arrG_skip]
    exact⟨(),(by exact Wk.sm rfl rfl rfl rfl rfl)⟩
  rintro⟨⟩
  try conv=>whnf
  exact⟨⟨i+1,hi'⟩,by show f.length-(i+1)<f.length-i;omega,(by refine Wk.of ?_ ?_ rfl rfl rfl<;>repeat' (first|exact trivial|exact WkD.same _|exact WkO.same _ _ rfl|refine WkD.int ?_|refine⟨?_,?_⟩|(refine wrapA ?_ ?_ ?_;(focus simp;done);(focus (try dsimp only);omega);(focus (try dsimp only);omega))|fail))⟩
 ·have hi':i=f.length:=by have:=ge_dec (m:=(f.map Nd.pv).length) h (by simpa using hi);simpa using this
  subst hi'
  rw[hfin]
  refine PLe.tups ⟨?_,.refl _,trivial⟩
  show PLe (.sl (arrG f.length gS (setsV m n (f.take f.length)))) (rowPV ((setsV m n (f.take f.length)).map (·.1)))
  rw[arrG_full hAl,rowPV,List.map_map]
  exact .refl _
def holdsPV (x:Nat×Int):PV:=.tup [u64 x.1,.int .i64 x.2]
theorem ck_Holds (m:Mo) (f:List Nd) (hf:FitM m):PureFn Tryz.prog 41 [m.pv,fpv f] (holdsPV (holdsI m f)):=by
 have hS:=ck_Sets m f hf
 cases h0:(reqI m f != 0) with
 |true =>
  rw[setsI,h0] at hS
  have hS:PureFn Tryz.prog 94 [m.pv,fpv f] (.tup [rowPV [],.int .i64 (reqI m f)]):=hS
  rw[holdsI,h0]
  refine PureFn.intro mixed (fn:=Tryz.f41) rfl rfl rfl fun M w0 => ?_
  (try conv=>whnf);repeat' (first|(apply And.intro<;>try conv=>whnf)|(intro h;first|with_reducible exact tf (by assumption) h|try conv=>whnf)|(refine PureFn.dy hS rfl ?_;try conv=>whnf)|fail)
  exact .refl _
 |false =>
  obtain⟨⟨n,hM⟩,hst⟩:=reqI_ok (show reqI m f=0 by simpa using h0)
  have hch:=(statM_iff.1 hst).1
  have hfl:f.length≤200:=(check_ok hch).2.1
  have hp:1≤f.length:=(check_ok hch).1
  have hlen:(setsV m n f).length=f.length:=by have:=setsV_len (m:=m) (n:=n) (f:=f) f.length (Nat.le_refl _);rwa [List.take_length] at this
  obtain⟨v,hv,hv1⟩:=last_V (n:=n) hM.ag hst
  rw[setsI,h0,hM.nn,Int.toNat_natCast] at hS
  rw[holdsI,h0,hM.nn,Int.toNat_natCast,← hv1]
  have hl2:(((setsV m n f).map (·.1)).length:Int)=(f.length:Int):=by rw[List.length_map,hlen]
  have hidx:((setsV m n f).map (·.1))[f.length-1]? = some v.1:=idx_map hv
  have hS:PureFn Tryz.prog 94 [m.pv,fpv f] (.tup [rowPV ((setsV m n f).map (·.1)),.int .i64 0]):=hS
  generalize (setsV m n f).map (·.1)=L at hS hl2 hidx
  have hl3:((L.map u64).length:Int)=(f.length:Int):=by rw[List.length_map];exact hl2
  refine PureFn.intro mixed (fn:=Tryz.f41) rfl rfl rfl fun M w0 => ?_
  (try conv=>whnf);repeat' (first|(apply And.intro<;>try conv=>whnf)|(intro h;try conv=>whnf)|(apply infoT;rfl)|(refine PureFn.dy hS rfl ?_;try conv=>whnf)|fail)
  ·cases h
  refine⟨f.length-1,_,?_,idx_map hidx,rfl,?_⟩
  ·show IntKind.wrap .i64 (((L.map u64).length:Int)-1)=((f.length-1:Nat):Int)
   rw[hl3,Go.Dv.wrap_small (by omega) (by omega)];omega
  try conv=>whnf
  exact .refl _
def HMA (m:Mo) (a:Act):List (Nat×DObj):=[(0,.var (cellsM m)),(1,.var (cellsA a))]
theorem pr_Worlds (m:Mo) (a:Act) (hf:FitM m) (hfa:Fit a) (hl:a.rel.length≤1000) (hp:∀ l,l∈a.post→l.length≤1000):PureFn Tryz.prog 59 [m.pv,a.pv] (worldsPV (worldsI m a)):=by
 refine PureFn.introC [4,7,8,16,26] mixed (fn:=Tryz.f59) rfl rfl rfl fun M w0 => ?_
 have hC:=md_Check m hf
 have hK:=ac_Check a (m.rel.length:Nat) (m.val.length:Nat) hfa hl hp
 rw[show PV.int .i64 ((m.rel.length:Nat):Int)=.int .i64 ((m.rel.map rowPV).length:Nat) by rw[List.length_map],show PV.int .i64 ((m.val.length:Nat):Int)=.int .i64 ((m.val.map u64).length:Nat) by rw[List.length_map]] at hK
 try conv=>whnf
 refine⟨{ _x:Unit // (moI m != 0)=false },fun _=>[(2,.ref 0 0),(3,.ref 1 0)],fun _=>2,fun _=>HMA m a,?_,?_⟩
 ·(try conv=>whnf);repeat' (first|(apply And.intro<;>try conv=>whnf)|(intro h;try conv=>whnf)|(refine PureFn.dy hC rfl ?_;try conv=>whnf)|fail)
  ·have h9:moaI m a=moI m:=by rw[moaI,h];rfl
   rw[worldsI,h9,h]
   exact le_worlds _
  ·exact⟨⟨(),h⟩,(by exact Wk.sm rfl rfl rfl rfl rfl)⟩
 rintro⟨_,h1⟩
 have hmo:moaI m a=actI a (m.rel.length:Int) (m.val.length:Int):=by rw[moaI,h1];rfl
 refine⟨{ _x:Unit // (moaI m a != 0)=false },fun _=>[(2,.ref 0 0),(3,.ref 1 0)],fun _=>2,fun _=>HMA m a,?_,?_⟩
 ·(try conv=>whnf);repeat' (first|(apply And.intro<;>try conv=>whnf)|(intro h;try conv=>whnf)|(refine PureFn.dy hK rfl ?_;try conv=>whnf)|fail)
  ·have h9:(moaI m a != 0)=true:=by rw[hmo];exact h
   rw[worldsI,h9,hmo]
   exact le_worlds _
  ·exact⟨⟨(),by rw[hmo];exact h⟩,(by exact Wk.sm rfl rfl rfl rfl rfl)⟩
 rintro⟨_,h2⟩
 have h20:moaI m a=0:=by simpa using h2
 obtain⟨⟨n,hM⟩,hAc⟩:=moaI_ok h20
 have hO:=actI_ok hAc
 have hn8:=hO.n8
 have hn1:=hO.n1
 have hn64:=hM.n64
 have hres:worldsI m a=bif ((pairsL m a).length:Int)==0 then ([],11) else (pairsL m a,0):=by rw[worldsI,h2];rfl
 have hpl:pairsL m a=pairsW (possP m a) a.pre.length n:=by rw[pairsL,hM.nn];rfl
 rw[hres,hpl]
 clear hres hpl
 have hph:=fun (e:Nat) (he:e<a.pre.length)=>pre_holds h20 he
 rw[hM.nn,Int.toNat_natCast] at hph
 generalize hpe:possP m a=p at hph ⊢
 have hN:((a.pre.map fpv).length:Int).toNat=a.pre.length:=by rw[List.length_map];rfl
 have hz1:List.replicate ((a.pre.map fpv).length:Int).toNat (PV.int .u64 0)=mixV a.pre.length (fun e=>u64 (p e)) (fun _=>u64 0) 0:=by rw[hN];exact mixV_rep _ _ _
 have hbig:((a.pre.map fpv).length:Int)≤(big:Int):=by
  show ((a.pre.map fpv).length:Int)≤4294967296
  rw[List.length_map];omega
 have hml:=mixV_len a.pre.length (fun e=>u64 (p e)) (fun _=>u64 0)
 refine⟨Unit,fun _=>[(2,.ref 0 0),(3,.ref 1 0),(8,.buf 2 (mixV a.pre.length (fun e=>u64 (p e)) (fun _=>u64 0) 0).length)],fun _=>3,fun _=>[(0,.var (cellsM m)),(1,.var (cellsA a)),(2,.arr 1 (mixV a.pre.length (fun e=>u64 (p e)) (fun _=>u64 0) 0))],?_,?_⟩
 ·(try conv=>whnf);repeat' (first|(apply And.intro<;>try conv=>whnf)|(apply Or.inl;try conv=>whnf)|fail)
  ·rfl
  ·exact Int.natCast_nonneg _
  ·exact hbig
  refine⟨(),?_⟩
  (refine Wk.of ?_ ?_ rfl rfl rfl<;>repeat' (first|exact trivial|exact WkD.same _|exact WkO.same _ _ rfl|refine⟨?_,?_⟩|fail))
  ·exact WkD.eq (congrArg (fun z:List PV=>DV.buf 2 z.length) hz1)
  ·exact WkO.same _ _ (congrArg (fun z=>some (DObj.arr 1 z)) hz1)
 rintro⟨⟩
 clear hz1 hN hbig
 refine⟨Unit,fun _=>[(2,.ref 0 0),(8,.pv (.sl (mixV a.pre.length (fun e=>u64 (p e)) (fun _=>u64 0) a.pre.length)))],fun _=>3,fun _=>[(0,.var (cellsM m))],?_,?_⟩
 ·try conv=>whnf
  refine⟨{ i:Nat // i≤a.pre.length },fun i=>[(2,.ref 0 0),(3,.ref 1 0),(8,.buf 2 (mixV a.pre.length (fun e=>u64 (p e)) (fun _=>u64 0) i.1).length),(38,.pv (.sl (a.pre.map fpv))),(39,.pv (i64 (a.pre.map fpv).length)),(40,.pv (i64 i.1))],fun _=>3,fun i=>[(0,.var (cellsM m)),(1,.var (cellsA a)),(2,.arr 1 (mixV a.pre.length (fun e=>u64 (p e)) (fun _=>u64 0) i.1))],fun i=>a.pre.length-i.1,⟨⟨0,Nat.zero_le _⟩,(by exact Wk.sm rfl rfl rfl rfl rfl)⟩,?_⟩
  rintro⟨i,hi⟩
  have hmi:=hml i
  have hmi1:=hml (i+1)
  (try conv=>whnf);repeat' (first|(apply And.intro<;>try conv=>whnf)|(intro h;try conv=>whnf)|(apply infoT;rfl)|fail)
  ·have hi':i<a.pre.length:=by simpa using lt_dec h
   obtain⟨f,hn,hw⟩:∃ f,a.pre[i]? = some f∧a.pre.getD i []=f:=⟨_,getD_mem hi',rfl⟩
   obtain⟨hh,hlt⟩:=hph i hi'
   have hH:=ck_Holds m f hf
   rw[hw] at hh
   rw[hh] at hH
   have hst:=mixV_set (n:=a.pre.length) (p:=fun e=>u64 (p e)) (q:=fun _=>u64 0) (e:=i)
   refine⟨_,_,rfl,idx_map hn,rfl,?_⟩
   (try conv=>whnf);repeat' (first|(apply And.intro<;>try conv=>whnf)|(intro h;try conv=>whnf)|(refine PureFn.dy hH rfl ?_;try conv=>whnf)|fail)
   ·cases h
   refine⟨i,rfl,by rw[hmi];exact hi',?_⟩
   (try conv=>whnf);repeat' (first|(apply And.intro<;>try conv=>whnf)|fail)
   refine⟨_,mixV_old hi',Nat.le_refl 1,?_⟩
   try conv=>whnf
   refine⟨⟨i+1,hi'⟩,by show a.pre.length-(i+1)<a.pre.length-i;omega,?_⟩
   (refine Wk.of ?_ ?_ rfl rfl rfl<;>repeat' (first|exact trivial|exact WkD.same _|exact WkO.same _ _ rfl|refine WkD.int ?_|refine⟨?_,?_⟩|(refine wrapA ?_ ?_ ?_;(focus simp;done);(focus (try dsimp only);omega);(focus (try dsimp only);omega))|fail))
   ·exact WkD.eq (congrArg (DV.buf 2) (hmi.trans hmi1.symm))
   ·exact WkO.same _ _ (congrArg (fun z=>some (DObj.arr 1 z)) hst)
  ·have hi':i=a.pre.length:=by have:=ge_dec (m:=(a.pre.map fpv).length) h (by simpa using hi);simpa using this
   subst hi'
   exact⟨(),(by refine Wk.of ?_ ?_ rfl rfl rfl<;>repeat' (first|exact trivial|exact WkD.same _|exact WkO.same _ _ rfl|exact WkD.fz _ _ _ rfl (Or.inl ⟨_,rfl⟩) rfl|refine⟨?_,?_⟩|fail))⟩
 rintro⟨⟩
 have hPl:∀ w e,w≤n→e≤a.pre.length→((pairsB p a.pre.length w e).map pairPV).length≤1000:=fun w e hw he=>by
  have h1:=pairsW_len p a.pre.length w
  have h2:=pairsE_len p w e
  have h3:w*a.pre.length≤64*8:=Nat.mul_le_mul (by omega) hn8
  rw[List.length_map,pairsB,List.length_append];omega
 have hmN:=hml a.pre.length
 have hmnn:=hM.nn
 try conv=>whnf
 refine⟨Unit,fun _=>[(13,.pv (.sl ((pairsB p a.pre.length n 0).map pairPV)))],fun _=>4,fun _=>[],?_,?_⟩
 ·try conv=>whnf
  refine⟨{ w:Nat // w≤n },fun w=>[(2,.ref 0 0),(8,.pv (.sl (mixV a.pre.length (fun e=>u64 (p e)) (fun _=>u64 0) a.pre.length))),(13,.buf 3 ((pairsB p a.pre.length w.1 0).map pairPV).length),(14,.pv (i64 w.1))],fun _=>4,fun w=>[(0,.var (cellsM m)),(3,.arr 2 ((pairsB p a.pre.length w.1 0).map pairPV))],fun w=>n-w.1,⟨⟨0,Nat.zero_le _⟩,(by refine Wk.of ?_ ?_ rfl rfl rfl<;>repeat' (first|exact trivial|exact WkD.same _|exact WkO.same _ _ rfl|exact WkD.new' rfl rfl rfl|exact WkO.new _ _ rfl|exact rfl|refine⟨?_,?_⟩|fail))⟩,?_⟩
  rintro⟨w,hw⟩
  try conv=>whnf
  refine⟨{ e:Nat // e≤a.pre.length∧(w=n→e=0) },fun e=>[(2,.ref 0 0),(8,.pv (.sl (mixV a.pre.length (fun e=>u64 (p e)) (fun _=>u64 0) a.pre.length))),(13,.buf 3 ((pairsB p a.pre.length w e.1).map pairPV).length),(14,.pv (i64 w)),(61,.pv (.sl (mixV a.pre.length (fun e=>u64 (p e)) (fun _=>u64 0) a.pre.length))),(62,.pv (i64 (mixV a.pre.length (fun e=>u64 (p e)) (fun _=>u64 0) a.pre.length).length)),(63,.pv (i64 e.1))],fun _=>4,fun e=>[(0,.var (cellsM m)),(3,.arr 2 ((pairsB p a.pre.length w e.1).map pairPV))],fun e=>a.pre.length-e.1,⟨⟨0,Nat.zero_le _,fun _=>rfl⟩,(by exact Wk.sm rfl rfl rfl rfl rfl)⟩,?_⟩
  rintro⟨e,he,hwe⟩
  have hple:=hPl w e hw he
  (try conv=>whnf);repeat' (first|(apply And.intro<;>try conv=>whnf)|(intro h;try conv=>whnf)|(apply infoT;rfl)|fail)
  ·have he':e<a.pre.length:=by have:=lt_dec h;rwa [hmN] at this
   obtain⟨_,hlt⟩:=hph e he'
   have h64:p e<2^64:=Nat.lt_of_lt_of_le hlt (pow64_le hn64)
   have hsu:=pairsB_succ p a.pre.length w e
   refine⟨e,_,rfl,mixV_new he' he',rfl,?_⟩
   have hb0:w≠n→(andU (shrU (p e) w) 1==0)=!(p e).testBit w:=fun hwn=>bit_zero h64 (by omega)
   (try conv=>whnf);repeat' (first|(apply And.intro<;>try conv=>whnf)|(intro h;try conv=>whnf)|(apply cellsI;rfl)|(apply szI;rfl)|fail)
   ·have hwn:w=n:=by
     have:(w:Int)=m.n:=by simpa using h
     omega
    subst hwn
    obtain rfl:e=0:=hwe rfl
    exact⟨(),(by refine Wk.of ?_ ?_ rfl rfl rfl<;>repeat' (first|exact trivial|exact WkD.fz _ _ _ rfl (Or.inl ⟨_,rfl⟩) rfl|refine⟨?_,?_⟩|fail))⟩
   ·exact Int.natCast_nonneg _
   ·rename_i hw9
    have hwn:w≠n:=fun e=>by
     have:¬ (w:Int)=m.n:=by simpa using hw9
     omega
    have ht:(p e).testBit w=false:=by
     have:(!(p e).testBit w)=true:=by rw[← hb0 hwn];exact h
     simpa using this
    rw[ht,cond_false] at hsu
    refine⟨⟨e+1,he',fun q=>absurd q hwn⟩,by show a.pre.length-(e+1)<a.pre.length-e;omega,?_⟩
    (refine Wk.of ?_ ?_ rfl rfl rfl<;>repeat' (first|exact trivial|exact WkD.same _|exact WkO.same _ _ rfl|refine WkD.int ?_|refine⟨?_,?_⟩|(refine wrapA ?_ ?_ ?_;(focus simp;done);(focus (try dsimp only);omega);(focus (try dsimp only);omega))|fail))
    ·exact WkD.eq (congrArg (fun l:List (Nat×Nat)=>DV.buf 3 (l.map pairPV).length) hsu.symm)
    ·exact WkO.same _ _ (congrArg (fun l:List (Nat×Nat)=>some (DObj.arr 2 (l.map pairPV))) hsu.symm)
   ·exact app_big (n:=1000) hple (by decide)
   ·rename_i hw9
    have hwn:w≠n:=fun e=>by
     have:¬ (w:Int)=m.n:=by simpa using hw9
     omega
    have ht:(p e).testBit w=true:=by
     have:(!(p e).testBit w)=false:=by rw[← hb0 hwn];exact h
     simpa using this
    rw[ht,cond_true] at hsu
    have er:(pairsB p a.pre.length w e).map pairPV++[.agg [.int .i64 (w:Int),.int .i64 (e:Int)]]=(pairsB p a.pre.length w (e+1)).map pairPV:=by rw[hsu,List.map_append];rfl
    refine⟨⟨e+1,he',fun q=>absurd q hwn⟩,by show a.pre.length-(e+1)<a.pre.length-e;omega,?_⟩
    (refine Wk.of ?_ ?_ rfl rfl rfl<;>repeat' (first|exact trivial|exact WkD.same _|exact WkO.same _ _ rfl|exact WkD.eq (congrArg (fun z:List PV=>DV.buf _ z.length) er)|exact WkO.same _ _ (congrArg (fun z=>some (DObj.arr _ z)) er)|refine WkD.int ?_|refine⟨?_,?_⟩|(refine wrapA ?_ ?_ ?_;(focus simp;done);(focus (try dsimp only);omega);(focus (try dsimp only);omega))|fail))
  ·have he':e=a.pre.length:=by have:=ge_dec h (by rw[hmN];exact he);rwa [hmN] at this
   have hwn:w<n:=by
    rcases Nat.lt_or_ge w n with q|q
    ·exact q
    ·have:=hwe (by omega);omega
   subst he'
   have hew:pairsB p a.pre.length w a.pre.length=pairsB p a.pre.length (w+1) 0:=by rw[pairsB_full,pairsB_zero]
   try conv=>whnf
   refine⟨⟨w+1,hwn⟩,by show n-(w+1)<n-w;omega,?_⟩
   (refine Wk.of ?_ ?_ rfl rfl rfl<;>repeat' (first|exact trivial|exact WkD.same _|exact WkO.same _ _ rfl|refine WkD.int ?_|refine⟨?_,?_⟩|(refine wrapA ?_ ?_ ?_;(focus simp;done);(focus (try dsimp only);omega);(focus (try dsimp only);omega))|fail))
   ·exact WkD.eq (congrArg (fun l:List (Nat×Nat)=>DV.buf 3 (l.map pairPV).length) hew)
   ·exact WkO.same _ _ (congrArg (fun l:List (Nat×Nat)=>some (DObj.arr 2 (l.map pairPV))) hew)
 rintro⟨⟩
 rw[← pairsB_zero]
 generalize pairsB p a.pre.length n 0=L
 have e9:((L.map pairPV).length:Int)=(L.length:Int):=by simp
 (try conv=>whnf);repeat' (first|(apply And.intro<;>try conv=>whnf)|(intro h;try conv=>whnf)|fail)
 ·rw[show ((L.length:Int)==0)=true by rw[← e9];exact h]
  exact le_worlds _
 ·rw[show ((L.length:Int)==0)=false by rw[← e9];exact h]
  exact .refl _
def cells0:List DV:=[.pv (.int .i64 0),.pv .nil,.pv .nil]
def pairD (q:Nat×Nat):List DV:=[.pv (i64 q.1),.pv (i64 q.2)]
def HV (m:Mo) (a:Act) (l:List (Nat×Nat)) (vs vl:List Nat):List (Nat×DObj) :=
 [(0,.var (cellsM m)),(1,.var (cellsA a)),(2,.var cells0),(3,.var [.pv (.sl (l.map pairPV))]),(4,.var [.pv (i64 (l.map pairPV).length),.buf 5 (vs.map u64).length,.pv .nil]),(5,.arr 1 (vs.map u64)),(7,.var [.pv (rowPV vl)])]
theorem upd2 {M:Nat→Prop} {w0:W0} (m:Mo) (a:Act) (l:List (Nat×Nat)) (vs vl:List Nat) (q:Nat×Nat) (h1:q.1<64) (h2:q.2<vl.length) (hv:∀ s,s∈vl→s<2^64) (base:Nat) (K:DV→DH→Prop) (hK:K (.pv (.bool ((vl.getD q.2 0).testBit q.1))) ⟨8,0,base,objsOf (HV m a l vs vl)⟩) :
  DC Tryz.prog M w0 62 [.agg (pairD q),.ref 7 0] ⟨8,0,base,objsOf (HV m a l vs vl)⟩ K:=by
 refine DC.weaken (DC.intro mixed (fn:=Tryz.f62) rfl rfl rfl ?_)
 obtain⟨x,hx,hw⟩:∃ x,vl[q.2]? = some x∧vl.getD q.2 0=x:=⟨_,getD_mem h2,rfl⟩
 have hx64:=hv x (List.mem_iff_getElem?.2 ⟨_,hx⟩)
 rw[hw,← bit_one hx64 h1] at hK
 (try conv=>whnf);repeat' (first|(apply And.intro<;>try conv=>whnf)|(apply infoT;rfl)|(refine lin_plan (by kernel_rfl) ?_;try conv=>whnf)|(refine⟨_,_,rfl,idx_map (by with_reducible assumption),rfl,?_⟩;try conv=>whnf)|fail)
 ·exact Int.natCast_nonneg _
 ·exact⟨_,8,HV m a l vs vl,(by exact Wk.sm rfl rfl rfl rfl rfl),hK⟩
def HW (m:Mo) (a:Act) (l:List (Nat×Nat)) (vs:List Nat) (rs:List (List Nat)) (i:Nat) (r:List Nat) (mx:List PV) (x:Nat×Nat):List (Nat×DObj) :=
 [(0,.var (cellsM m)),(1,.var (cellsA a)),(2,.var cells0),(3,.var [.pv (.sl (l.map pairPV))]),(4,.var [.pv (i64 (l.map pairPV).length),.pv (rowPV vs),.buf 5 (rs.map rowPV).length]),(5,.arr 1 (rs.map rowPV)),(6,.var [.pv (i64 i)]),(7,.var [.pv (rowPV r)]),(8,.arr 1 mx),(9,.var (pairD x))]
theorem upd3 {M:Nat→Prop} {w0:W0} (m:Mo) (a:Act) (l:List (Nat×Nat)) (vs:List Nat) (rs:List (List Nat)) (i:Nat) (r:List Nat) (mx:List PV) (x q:Nat×Nat) (ra:List Nat) (hra:a.rel[i]? = some ra)
  (hx1:x.1<r.length) (hx2:x.2<ra.length) (hq1:q.1<64) (hq2:q.2<64) (hr:∀ s,s∈r→s<2^64) (hr2:∀ s,s∈ra→s<2^64) (base:Nat) (K:DV→DH→Prop) (hK:K (.pv (.bool (seesP r ra x q))) ⟨10,0,base,objsOf (HW m a l vs rs i r mx x)⟩) :
  DC Tryz.prog M w0 63 [.agg (pairD q),.ref 7 0,.ref 9 0,.ref 1 0,.ref 6 0] ⟨10,0,base,objsOf (HW m a l vs rs i r mx x)⟩ K:=by
 refine DC.weaken (DC.intro mixed (fn:=Tryz.f63) rfl rfl rfl ?_)
 obtain⟨u,hu,hw⟩:∃ u,r[x.1]? = some u∧r.getD x.1 0=u:=⟨_,getD_mem hx1,rfl⟩
 obtain⟨v,hv,hw2⟩:∃ v,ra[x.2]? = some v∧ra.getD x.2 0=v:=⟨_,getD_mem hx2,rfl⟩
 have hu64:=hr u (List.mem_iff_getElem?.2 ⟨_,hu⟩)
 have hv64:=hr2 v (List.mem_iff_getElem?.2 ⟨_,hv⟩)
 rw[seesP,hw,hw2,← bit_one hu64 hq1,← bit_one hv64 hq2] at hK
 (try conv=>whnf);repeat' (first|(apply And.intro<;>try conv=>whnf)|(intro h;try conv=>whnf)|apply True.intro|(apply infoT;rfl)|(apply WhenQ.mk;(try conv=>whnf);rotate_left;(try conv=>whnf);rotate_right)|with_reducible assumption|(refine lin_plan (by kernel_rfl) ?_;try conv=>whnf)|(refine⟨_,_,rfl,idx_map (by with_reducible assumption),rfl,?_⟩;try conv=>whnf)|fail)
 ·exact Int.natCast_nonneg _
 ·exact Int.natCast_nonneg _
 ·exact⟨_,10,HW m a l vs rs i r mx x,(by exact Wk.sm rfl rfl rfl rfl rfl),hK⟩
theorem whr_V {M:Nat→Prop} {w0:W0} (m:Mo) (a:Act) (l:List (Nat×Nat)) (vs vl:List Nat) (hlp:∀ y,y∈l→y.1<64∧y.2<vl.length) (hv:∀ s,s∈vl→s<2^64) (hl:l.length≤64) (base:Nat) (K:DV→DH→Prop) (hK:K (.pv (u64 (maskOf (fun k=>(fun q:Nat×Nat=>(vl.getD q.2 0).testBit q.1) (l.getD k (0,0))) l.length))) ⟨8,0,base,objsOf (HV m a l vs vl)⟩) :
  DC Tryz.prog M w0 60 [.clo 62 [] [.ref 7 0],.ref 3 0] ⟨8,0,base,objsOf (HV m a l vs vl)⟩ K:=by
 refine DC.weaken (DC.intro mixed (fn:=Tryz.f60) rfl rfl rfl ?_)
 try conv=>whnf
 refine⟨{ i:Nat // i≤l.length },fun i=>[(0,.clo 62 [] [.ref 7 0]),(4,.pv (u64 (maskOf (fun k=>(fun q:Nat×Nat=>(vl.getD q.2 0).testBit q.1) (l.getD k (0,0))) i.1))),(7,.pv (.sl (l.map pairPV))),(8,.pv (i64 (l.map pairPV).length)),(9,.pv (i64 i.1))],fun _=>8,fun _=>HV m a l vs vl,fun i=>l.length-i.1,⟨⟨0,Nat.zero_le _⟩,(by exact Wk.sm rfl rfl rfl rfl rfl)⟩,?_⟩
 rintro⟨j,hj⟩
 (try conv=>whnf);repeat' (first|(apply And.intro<;>try conv=>whnf)|(intro h;try conv=>whnf)|(apply infoT;rfl)|fail)
 ·have hj':j<l.length:=by simpa using lt_dec h
  obtain⟨y,hy,hyw⟩:∃ y,l[j]? = some y∧l.getD j (0,0)=y:=⟨_,getD_mem hj',rfl⟩
  have hym:y∈l:=List.mem_iff_getElem?.2 ⟨j,hy⟩
  refine⟨_,_,rfl,idx_map hy,rfl,?_⟩
  try conv=>whnf
  refine DC.call 8 (HV m a l vs vl) ⟨rfl,rfl,rfl,rfl,rfl,rfl,rfl,rfl,trivial⟩ rfl rfl rfl rfl fun M' => ?_
  refine upd2 m a l vs vl y (hlp y hym).1 (hlp y hym).2 hv _ _ ?_
  refine⟨rfl,?_⟩
  (try conv=>whnf);repeat' (first|(apply And.intro<;>try conv=>whnf)|(intro h;try conv=>whnf)|fail)
  ·exact Int.natCast_nonneg _
  ·have hq:(fun q:Nat×Nat=>(vl.getD q.2 0).testBit q.1) (l.getD j (0,0))=true:=by rw[hyw];exact h
   refine⟨⟨j+1,hj'⟩,by show l.length-(j+1)<l.length-j;omega,?_⟩
   (refine Wk.of ?_ ?_ rfl rfl rfl<;>repeat' (first|exact trivial|exact WkD.same _|exact WkO.same _ _ rfl|refine WkD.int ?_|refine⟨?_,?_⟩|(refine wrapA ?_ ?_ ?_;(focus simp;done);(focus (try dsimp only);omega);(focus (try dsimp only);omega))|fail))
   exact or_shl (q:=fun k=>(fun q:Nat×Nat=>(vl.getD q.2 0).testBit q.1) (l.getD k (0,0))) (w:=j) (by omega) hq
  ·have hq:(fun q:Nat×Nat=>(vl.getD q.2 0).testBit q.1) (l.getD j (0,0))=false:=by rw[hyw];exact h
   refine⟨⟨j+1,hj'⟩,by show l.length-(j+1)<l.length-j;omega,?_⟩
   (refine Wk.of ?_ ?_ rfl rfl rfl<;>repeat' (first|exact trivial|exact WkD.same _|exact WkO.same _ _ rfl|refine WkD.int ?_|refine⟨?_,?_⟩|(refine wrapA ?_ ?_ ?_;(focus simp;done);(focus (try dsimp only);omega);(focus (try dsimp only);omega))|fail))
   exact congrArg (fun z:Nat=>(z:Int)) (mask_no (q:=fun k=>(fun q:Nat×Nat=>(vl.getD q.2 0).testBit q.1) (l.getD k (0,0))) hq)
 ·have hj':j=l.length:=by have:=ge_dec (m:=(l.map pairPV).length) h (by simpa using hj);simpa using this
  subst hj'
  exact⟨_,8,HV m a l vs vl,(by exact Wk.sm rfl rfl rfl rfl rfl),hK⟩
theorem whr_W {M:Nat→Prop} {w0:W0} (m:Mo) (a:Act) (l:List (Nat×Nat)) (vs:List Nat) (rs:List (List Nat)) (i:Nat) (r:List Nat) (mx:List PV) (x:Nat×Nat) (ra:List Nat) (hra:a.rel[i]? = some ra) (hx1:x.1<r.length) (hx2:x.2<ra.length) (hlp:∀ y,y∈l→y.1<64∧y.2<64) (hr:∀ s,s∈r→s<2^64) (hr2:∀ s,s∈ra→s<2^64) (hl:l.length≤64) (base:Nat) (K:DV→DH→Prop) (hK:K (.pv (u64 (maskOf (fun k=>(fun q:Nat×Nat=>seesP r ra x q) (l.getD k (0,0))) l.length))) ⟨10,0,base,objsOf (HW m a l vs rs i r mx x)⟩) :
  DC Tryz.prog M w0 60 [.clo 63 [] [.ref 7 0,.ref 9 0,.ref 1 0,.ref 6 0],.ref 3 0] ⟨10,0,base,objsOf (HW m a l vs rs i r mx x)⟩ K:=by
 refine DC.weaken (DC.intro mixed (fn:=Tryz.f60) rfl rfl rfl ?_)
 try conv=>whnf
 refine⟨{ i:Nat // i≤l.length },fun i=>[(0,.clo 63 [] [.ref 7 0,.ref 9 0,.ref 1 0,.ref 6 0]),(4,.pv (u64 (maskOf (fun k=>(fun q:Nat×Nat=>seesP r ra x q) (l.getD k (0,0))) i.1))),(7,.pv (.sl (l.map pairPV))),(8,.pv (i64 (l.map pairPV).length)),(9,.pv (i64 i.1))],fun _=>10,fun _=>HW m a l vs rs i r mx x,fun i=>l.length-i.1,⟨⟨0,Nat.zero_le _⟩,(by exact Wk.sm rfl rfl rfl rfl rfl)⟩,?_⟩
 rintro⟨j,hj⟩
 (try conv=>whnf);repeat' (first|(apply And.intro<;>try conv=>whnf)|(intro h;try conv=>whnf)|(apply infoT;rfl)|fail)
 ·have hj':j<l.length:=by simpa using lt_dec h
  obtain⟨y,hy,hyw⟩:∃ y,l[j]? = some y∧l.getD j (0,0)=y:=⟨_,getD_mem hj',rfl⟩
  have hym:y∈l:=List.mem_iff_getElem?.2 ⟨j,hy⟩
  refine⟨_,_,rfl,idx_map hy,rfl,?_⟩
  try conv=>whnf
  refine DC.call 10 (HW m a l vs rs i r mx x) ⟨rfl,rfl,rfl,rfl,rfl,rfl,rfl,rfl,rfl,rfl,trivial⟩ rfl rfl rfl rfl fun M' => ?_
  refine upd3 m a l vs rs i r mx x y ra hra hx1 hx2 (hlp y hym).1 (hlp y hym).2 hr hr2 _ _ ?_
  refine⟨rfl,?_⟩
  (try conv=>whnf);repeat' (first|(apply And.intro<;>try conv=>whnf)|(intro h;try conv=>whnf)|fail)
  ·exact Int.natCast_nonneg _
  ·have hq:(fun q:Nat×Nat=>seesP r ra x q) (l.getD j (0,0))=true:=by rw[hyw];exact h
   refine⟨⟨j+1,hj'⟩,by show l.length-(j+1)<l.length-j;omega,?_⟩
   (refine Wk.of ?_ ?_ rfl rfl rfl<;>repeat' (first|exact trivial|exact WkD.same _|exact WkO.same _ _ rfl|refine WkD.int ?_|refine⟨?_,?_⟩|(refine wrapA ?_ ?_ ?_;(focus simp;done);(focus (try dsimp only);omega);(focus (try dsimp only);omega))|fail))
   exact or_shl (q:=fun k=>(fun q:Nat×Nat=>seesP r ra x q) (l.getD k (0,0))) (w:=j) (by omega) hq
  ·have hq:(fun q:Nat×Nat=>seesP r ra x q) (l.getD j (0,0))=false:=by rw[hyw];exact h
   refine⟨⟨j+1,hj'⟩,by show l.length-(j+1)<l.length-j;omega,?_⟩
   (refine Wk.of ?_ ?_ rfl rfl rfl<;>repeat' (first|exact trivial|exact WkD.same _|exact WkO.same _ _ rfl|refine WkD.int ?_|refine⟨?_,?_⟩|(refine wrapA ?_ ?_ ?_;(focus simp;done);(focus (try dsimp only);omega);(focus (try dsimp only);omega))|fail))
   exact congrArg (fun z:Nat=>(z:Int)) (mask_no (q:=fun k=>(fun q:Nat×Nat=>seesP r ra x q) (l.getD k (0,0))) hq)
 ·have hj':j=l.length:=by have:=ge_dec (m:=(l.map pairPV).length) h (by simpa using hj);simpa using this
  subst hj'
  exact⟨_,10,HW m a l vs rs i r mx x,(by exact Wk.sm rfl rfl rfl rfl rfl),hK⟩
end Go.Proofs.YtejbieopeicgkaaGreatDoor
