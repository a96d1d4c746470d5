/- Parts of the proof, one after the other: Events with the same effect: the products are bisimilar, and alike events have the same effect (plain). The law ComposeEffects walked. -/
import Derived.Test.YtejbieopeicgkaaGreatDoorM12
set_option maxRecDepth 100000
set_option maxHeartbeats 400000
namespace Go.Proofs.YtejbieopeicgkaaGreatDoor
open Go Go.Dv
structure EvRel (m:Mo) (a b:Act) (R:Nat→Nat→Prop):Prop where
 rng:∀ e f,R e f→e<a.pre.length∧f<b.pre.length
 pos:∀ e f,R e f→possP m a e=possP m b f
 val:∀ e f i,R e f→i<m.val.length→valuP m a e i=valuP m b f i
 forth:∀ e f i d,R e f→i<m.rel.length→(relA a i e).testBit d=true→d<a.pre.length→possP m a d≠0→∃ h,(relA b i f).testBit h=true∧R d h
 back:∀ e f i d,R e f→i<m.rel.length→(relA b i f).testBit d=true→d<b.pre.length→possP m b d≠0→∃ h,(relA a i e).testBit h=true∧R h d
theorem mask_congr {p q:Nat→Bool} {n:Nat} (h:∀ i,i<n→p i=q i):maskOf p n=maskOf q n:=Nat.eq_of_testBit_eq fun j=>by
 rw[maskOf_bit,maskOf_bit]
 by_cases hj:j<n
 ·rw[h j hj]
 ·rw[decide_eq_false hj];rfl
theorem bit_ne {s w:Nat} (h:s.testBit w=true):s≠0:=fun q=>by rw[q,Nat.zero_testBit] at h;cases h
def prRel (la lb:List (Nat×Nat)) (R:Nat→Nat→Prop) (k j:Nat):Prop:=∃ w e f,la[k]? = some (w,e)∧lb[j]? = some (w,f)∧R e f
section
variable {m:Mo} {n:Nat} {a b:Act} {R:Nat→Nat→Prop}
theorem EvRel.bi (h:EvRel m a b R) (hA:Pr m n a (pairsL m a)) (hB:Pr m n b (pairsL m b)):BiRel (prodM m a (pairsL m a)) (prodM m b (pairsL m b)) (pairsL m a).length (pairsL m b).length (prRel (pairsL m a) (pairsL m b) R) where
 rng:=by
  rintro k j ⟨w,e,f,h1,h2,_⟩
  exact⟨(pr_at hA h1).1,(pr_at hB h2).1⟩
 fac:=by
  rintro k j ⟨w,e,f,h1,h2,hr⟩
  rw[prod_lens.2,prod_lens.2]
  refine mask_congr fun i hi => ?_
  show (((List.range m.val.length).map (valP m a (pairsL m a))).getD i 0).testBit k=(((List.range m.val.length).map (valP m b (pairsL m b))).getD i 0).testBit j
  rw[getD_map_range hi,getD_map_range hi,valP,valP,maskOf_bit,maskOf_bit,decide_eq_true (pr_at hA h1).1,decide_eq_true (pr_at hB h2).1,getD_ofX h1,getD_ofX h2,h.val e f i hr hi]
 forth:=by
  rintro k j i x ⟨w,e,f,h1,h2,hr⟩ hi hx
  rw[prod_lens.1] at hi
  obtain⟨v,d,h3,h4,h5⟩:=(pr_row hA i k w e h1 x).1 hx
  obtain⟨_,h6,h7,h8⟩:=pr_at hA h3
  obtain⟨g,g1,g2⟩:=h.forth e f i d hr hi h5 h7 (bit_ne h8)
  have hm:(v,g)∈pairsL m b:=(hB.mem v g).2 ⟨h6,(h.rng _ _ g2).2,by rw[← h.pos _ _ g2];exact h8⟩
  obtain⟨y,hy⟩:=List.mem_iff_getElem?.1 hm
  exact⟨y,(pr_row hB i j w f h2 y).2 ⟨v,g,hy,h4,g1⟩,v,d,g,h3,hy,g2⟩
 back:=by
  rintro k j i x ⟨w,e,f,h1,h2,hr⟩ hi hx
  rw[prod_lens.1] at hi
  obtain⟨v,d,h3,h4,h5⟩:=(pr_row hB i j w f h2 x).1 hx
  obtain⟨_,h6,h7,h8⟩:=pr_at hB h3
  obtain⟨g,g1,g2⟩:=h.back e f i d hr hi h5 h7 (bit_ne h8)
  have hm:(v,g)∈pairsL m a:=(hA.mem v g).2 ⟨h6,(h.rng _ _ g2).1,by rw[h.pos _ _ g2];exact h8⟩
  obtain⟨y,hy⟩:=List.mem_iff_getElem?.1 hm
  exact⟨y,(pr_row hA i k w e h1 y).2 ⟨v,g,hy,h4,g1⟩,v,g,d,hy,h3,g2⟩
theorem upd_zero (hm:moaI m a=0) (h8:(updI m a).2.2≠8) (hp:1≤(pairsL m a).length):(updI m a).2.2=0:=by
 have hl:(((pairsL m a).length:Int)==0)=false:=by simp;rintro h;rw[h] at hp;simp at hp
 have hwo:worldsI m a=(pairsL m a,0):=by rw[worldsI,hm,hl];rfl
 have hu:updI m a=bif decide (((pairsL m a).length:Int)>64) then (noMo,[],8) else (prodM m a (pairsL m a),pairsL m a,0):=by rw[updI,hwo];rfl
 cases hd:decide (((pairsL m a).length:Int)>64) with
 |true=>rw[hd] at hu;rw[hu] at h8;exact absurd rfl h8
 |false=>rw[hu,hd];rfl
theorem at_yes {w e:Nat} (hu:(updI m a).2.2=0) (hw:w<m.n.toNat) (he:e<a.pre.length) (hp:(possP m a e).testBit w=true) :
  ∃ k:Nat,(pairsL m a)[k]? = some (w,e)∧atI m w a e=(prodM m a (pairsL m a),(k:Int),0):=by
 obtain⟨_,k2,k3,_,_⟩:=updI_ok hu
 have hmem:(w,e)∈pairsL m a:=pairsW_mem.2 ⟨hw,he,hp⟩
 have hbw:badW m w=false:=by unfold badW;rw[decide_eq_false (by omega),decide_eq_false (by omega)];rfl
 have hbe:badEv a e=false:=by unfold badEv;rw[decide_eq_false (by omega),decide_eq_false (by omega)];rfl
 have hat:atI m w a e=match (pairsL m a).findIdx? fun q=>(bif (q.1:Int)==(w:Int) then (q.2:Int)==(e:Int) else false) with
  |none=>(noMo,0,11)
  |some i=>(prodM m a (pairsL m a),(i:Int),0):=by
  rw[atI,hu,hbw,hbe,k3,k2];rfl
 rw[hat]
 cases hf:(pairsL m a).findIdx? fun q=>(bif (q.1:Int)==(w:Int) then (q.2:Int)==(e:Int) else false) with
 |none =>
  have:=List.findIdx?_eq_none_iff.1 hf (w,e) hmem
  simp at this
 |some k =>
  obtain⟨hk,hq,_⟩:=List.findIdx?_eq_some_iff_getElem.1 hf
  refine⟨k,?_,rfl⟩
  rw[List.getElem?_eq_getElem hk]
  cases hz:(((pairsL m a)[k].1:Int)==(w:Int)) with
  |false=>rw[hz] at hq;cases hq
  |true =>
   rw[hz] at hq
   have e1:(pairsL m a)[k].1=w:=by
                      have:((pairsL m a)[k].1:Int)=w:=by simpa using hz
                      omega
   have e2:(pairsL m a)[k].2=e:=by
                      have:((pairsL m a)[k].2:Int)=e:=by simpa using hq
                      omega
   rw[← e1,← e2]
theorem eff_bis (h:EvRel m a b R) {e f w:Nat} (hr:R e f) (hua:(updI m a).2.2=0) (hub:(updI m b).2.2=0) (hw:w<m.n.toNat) (hp:(possP m a e).testBit w=true) :
  bisE (atI m w a e).1 (atI m w a e).2.1 (atI m w b f).1 (atI m w b f).2.1=0∧bisB (atI m w a e).1 (atI m w b f).1 (atI m w a e).2.1.toNat (atI m w b f).2.1.toNat=true:=by
 obtain⟨he,hf⟩:=h.rng e f hr
 obtain⟨k,hk,ha⟩:=at_yes hua hw he hp
 obtain⟨j,hj,hb⟩:=at_yes hub hw hf (by rw[← h.pos e f hr];exact hp)
 rw[ha,hb]
 obtain⟨ka,_,_,a1,a64⟩:=updI_ok hua
 obtain⟨kb,_,_,b1,b64⟩:=updI_ok hub
 obtain⟨⟨n,hM⟩,hA⟩:=moaI_ok ka
 obtain⟨_,hB⟩:=moaI_ok kb
 have pA:=pr_of hM hA a1 a64
 have pB:=pr_of hM hB b1 b64
 have hbi:=h.bi pA pB
 refine⟨?_,BiRel.all (ρ:=prRel (pairsL m a) (pairsL m b) R) hbi a64 ⟨w,e,f,hk,hj,hr⟩⟩
 have q1:=(List.getElem?_eq_some_iff.1 hk).1
 have q2:=(List.getElem?_eq_some_iff.1 hj).1
 have hz:biErr (prodM m a (pairsL m a)) (prodM m b (pairsL m b))=0:=by
  rw[biErr,ok_moI pA.okp,ok_moI pB.okp,prod_lens.1,prod_lens.2,prod_lens.1,prod_lens.2]
  simp
 have n1:(prodM m a (pairsL m a)).n=((pairsL m a).length:Int):=rfl
 have n2:(prodM m b (pairsL m b)).n=((pairsL m b).length:Int):=rfl
 show bisE (prodM m a (pairsL m a)) (k:Int) (prodM m b (pairsL m b)) (j:Int)=0
 rw[bisE,hz,n1,n2,decide_eq_false (by omega),decide_eq_false (by omega),decide_eq_false (by omega),decide_eq_false (by omega)];rfl
theorem dif_zero {x y:Act×Int} (h:difG m [x,y]=0):moI m=0∧∀ z,z∈[x,y]→actI z.1 m.rel.length m.val.length=0∧(updI m z.1).2.2≠8∧∃ k:Nat,z.2=(k:Int)∧k<z.1.pre.length:=by
 unfold difG at h
 have key:∀ (c d:Int),(bif c != 0 then c else d)=0→c=0∧d=0:=fun c d h=>by
  cases q:(c != 0) with
  |true=>rw[q] at h;have h:c=0:=h;rw[h] at q;cases q
  |false=>rw[q] at h;exact⟨by simpa using q,h⟩
 obtain⟨h1,h⟩:=key _ _ h
 obtain⟨h2,h⟩:=key _ _ h
 obtain⟨h3,h4⟩:=key _ _ h
 refine⟨h1,fun z hz=>⟨firE_zero h2 z hz,?_,?_⟩⟩
 ·have:=firE_zero h4 z hz
  unfold g3D at this
  intro q
  rw[q] at this
  cases this
 ·have hg:=firE_zero h3 z hz
  unfold g2D at hg
  cases hb:badEv z.1 z.2 with
  |true=>rw[hb] at hg;cases hg
  |false =>
   unfold badEv at hb
   cases g1:decide (z.2<0) with
   |true=>rw[g1] at hb;cases hb
   |false =>
    rw[g1] at hb
    have g2:=of_decide_eq_false (show decide (z.2≥(z.1.pre.length:Int))=false from hb)
    have g3:=of_decide_eq_false g1
    exact⟨z.2.toNat,by omega,by omega⟩
theorem eff_dif {e f:Nat} (hd:difG m [(a,(e:Int)),(b,(f:Int))]=0) (h:EvRel m a b R) (hr:R e f):difI m (a,(e:Int)) (b,(f:Int)) (bisAt m (a,(e:Int)) (b,(f:Int)))=(-1,0):=by
 obtain⟨hm,hz⟩:=dif_zero hd
 obtain⟨ha1,ha2,_⟩:=hz (a,(e:Int)) (by simp)
 obtain⟨hb1,hb2,_⟩:=hz (b,(f:Int)) (by simp)
 have hma:moaI m a=0:=by rw[moaI,hm];exact ha1
 have hmb:moaI m b=0:=by rw[moaI,hm];exact hb1
 obtain⟨he,hf⟩:=h.rng e f hr
 have hno:∀ w,w<m.n.toNat→difW m (a,(e:Int)) (b,(f:Int)) (bisAt m (a,(e:Int)) (b,(f:Int))) w=false:=fun w hw=>by
  have s1:preS m (a,(e:Int))=possP m a e:=rfl
  have s2:preS m (b,(f:Int))=possP m a e:=(show possP m b f=possP m a e from (h.pos e f hr).symm)
  rw[difW,s1,s2]
  cases hp:(possP m a e).testBit w with
  |false=>rfl
  |true =>
   have ka:1≤(pairsL m a).length:=List.length_pos_of_mem (pairsW_mem (q:=(w,e)).2 ⟨hw,he,hp⟩)
   have kb:1≤(pairsL m b).length:=List.length_pos_of_mem (pairsW_mem (q:=(w,f)).2 ⟨hw,hf,by rw[← h.pos e f hr];exact hp⟩)
   obtain⟨q1,q2⟩:=eff_bis h hr (upd_zero hma ha2 ka) (upd_zero hmb hb2 kb) hw hp
   have:bisAt m (a,(e:Int)) (b,(f:Int)) w=true:=by
    rw[bisAt,q1]
    exact q2
   rw[this];rfl
 rw[difI,hd,firW_no hno];rfl
end
theorem same_inv {f g:List Nd} (h:same f g=true):check f=0∧check g=0∧comp f=comp g:=by
 unfold same at h
 cases h1:(check f==0) with
 |false=>rw[h1] at h;cases h
 |true =>
  cases h2:(check g==0) with
  |false=>rw[h1,h2] at h;cases h
  |true =>
   rw[h1,h2] at h
   exact⟨by simpa using h1,by simpa using h2,of_decide_eq_true (by simpa using h)⟩
theorem sim_zero {f:List Nd} (h:check (simI f).1=0):(simI f).2=0:=by
 have hne:=nil_check h
 unfold simI at h hne ⊢
 cases hc:(check f != 0) with
 |true=>rw[hc] at hne;exact absurd rfl hne
 |false =>
  rw[hc,cond_false] at hne
  rw[cond_false]
  unfold simF lastF at hne ⊢
  cases he:((redE [] smpH (comp f) []).2 != 0) with
  |true=>rw[he] at hne;exact absurd rfl hne
  |false=>rfl
section
variable {m:Mo} {n:Nat} (hM:OkM m n)
include hM
theorem sim_vl {A F:Int} {f:List Nd} (hs:statI A F f=0) (h:check (simI f).1=0):vlF m n (simI f).1=vlF m n f:=by
 obtain⟨h1,h2⟩:=stat_ops hs
 exact (sim_sem hM h1 h2 (sim_zero h)).2
omit hM in
theorem comp_vl {f:List Nd} (h:check f=0):vlF m n (comp f)=vlF m n f:=by rw[vlF,root_comp h];rfl
theorem same_vl {A F A' F':Int} {f g:List Nd} (hf:statI A F f=0) (hg:statI A' F' g=0) (h:same (simI f).1 (simI g).1=true):vlF m n f=vlF m n g:=by
 obtain⟨h1,h2,h3⟩:=same_inv h
 rw[← sim_vl hM hf h1,← sim_vl hM hg h2,← comp_vl h1,← comp_vl h2,h3]
omit hM in
theorem valL_none {i:Int}:∀ {l:List Asg},(∀ x,x∈l→x.fact≠i)→valL i l=buildL (nI 3 i) []
 | [],_=>rfl
 |x::r,h=>by
  have hx:(x.fact==i)=false:=by simpa using h x (by simp)
  rw[valL,hx,cond_false]
  exact valL_none fun y hy=>h y (List.mem_cons_of_mem _ hy)
omit hM in
theorem smpL_cons (x:Asg) (r:List Asg):smpL (x::r)=bif keepB (smA1 x) then smA1 x::smpL r else smpL r:=by
 unfold smpL
 rw[List.map_cons,List.filter_cons]
 cases keepB (smA1 x)<;>rfl
omit hM in
theorem smpL_fact {l:List Asg} {z:Asg} (h:z∈smpL l):∃ x,x∈l∧z.fact=x.fact:=by
 obtain⟨h1,_⟩:=List.mem_filter.1 h
 obtain⟨x,hx,rfl⟩:=List.mem_map.1 h1
 exact⟨x,hx,rfl⟩
theorem smp_val {A F:Int} {i:Nat} (hi:i<8):∀ {l:List Asg} {lo:Int},chgs A F l lo=0→(∀ z,z∈smpL l→check z.to=0)→vlF m n (valL i (smpL l))=vlF m n (valL i l)
 | [],_,_,_=>rfl
 |x::r,lo,h,hz=>by
  obtain⟨_,_,h3,h4⟩:=chgs_cons.1 h
  rw[smpL_cons] at hz ⊢
  cases hk:keepB (smA1 x) with
  |true =>
   rw[hk,cond_true] at hz
   have hc:check (simI x.to).1=0:=hz (smA1 x) (by simp)
   have ih:=smp_val hi h4 fun z hz'=>hz z (List.mem_cons_of_mem _ hz')
   rw[cond_true,valL,valL]
   show vlF m n (bif x.fact==(i:Int) then comp (simI x.to).1 else valL i (smpL r))=_
   cases (x.fact==(i:Int)) with
   |true=>rw[cond_true,cond_true,comp_vl hc,comp_vl ((stat_ops h3).1),sim_vl hM h3 hc]
   |false=>exact ih
  |false =>
   rw[hk,cond_false] at hz
   have ih:=smp_val hi h4 hz
   rw[cond_false,valL]
   cases hx:(x.fact==(i:Int)) with
   |false=>exact ih
   |true =>
    have hxi:x.fact=i:=by simpa using hx
    have hsm:same (simI x.to).1 (buildL (nI 3 x.fact) [])=true:=by
     have:(!same (simI x.to).1 (buildL (nI 3 x.fact) []))=false:=hk
     simpa using this
    obtain⟨q1,q2,q3⟩:=same_inv hsm
    rw[cond_true,comp_vl ((stat_ops h3).1),← sim_vl hM h3 q1,← comp_vl q1,q3,comp_vl q2,hxi,valL_none]
    intro z hz'
    obtain⟨y,hy,he⟩:=smpL_fact hz'
    have:=(chgs_asc h4).2 y hy
    rw[he];omega
omit hM in
theorem eq_vals {i:Int}:∀ {p q:List Asg},eqL asS p q=true→(∀ z,z∈p→check z.to=0)∧(∀ z,z∈q→check z.to=0)∧valL i p=valL i q
 | [],[],_=>⟨fun z h=>(by cases h),fun z h=>(by cases h),rfl⟩
 | [],y::s,h=>by cases h
 |x::r,[],h=>by cases h
 |x::r,y::s,h=>by
  have h:(bif asS x y then eqL asS r s else false)=true:=h
  cases h1:asS x y with
  |false=>rw[h1] at h;cases h
  |true =>
   rw[h1,cond_true] at h
   obtain⟨i1,i2,i3⟩:=eq_vals (i:=i) h
   unfold asS at h1
   cases h2:(x.fact==y.fact) with
   |false=>rw[h2] at h1;cases h1
   |true =>
    rw[h2,cond_true] at h1
    obtain⟨q1,q2,q3⟩:=same_inv h1
    have hf:x.fact=y.fact:=by simpa using h2
    refine⟨fun z hz => ?_,fun z hz => ?_,by rw[valL,valL,hf,q3,i3]⟩
    ·rcases List.mem_cons.1 hz with rfl|hz
     ·exact q1
     ·exact i1 z hz
    ·rcases List.mem_cons.1 hz with rfl|hz
     ·exact q2
     ·exact i2 z hz
variable {a b:Act} (hA:actI a m.rel.length m.val.length=0) (hB:actI b m.rel.length m.val.length=0)
omit hM in
theorem smp_pre {e:Nat} (he:e<a.pre.length):(smpA a).pre.getD e []=(simI (a.pre.getD e [])).1:=by
 rw[smpA,List.getD_eq_getElem?_getD,List.getElem?_map,getD_mem he (d:=[])];rfl
omit hM in
theorem smp_pos {e:Nat} (he:e<a.post.length):(smpA a).post.getD e []=smpL (a.post.getD e []):=by
 rw[smpA,List.getD_eq_getElem?_getD,List.getElem?_map,getD_mem he (d:=[])];rfl
omit hM in
theorem z0_inv {a b:Act} {e f:Nat} (h:z0B a b e f=true):eqL asS (a.post.getD e []) (b.post.getD f [])=true∧same (a.pre.getD e []) (b.pre.getD f [])=true:=by
 unfold z0B at h
 cases h1:eqL asS (a.post.getD e []) (b.post.getD f []) with
 |false=>rw[h1] at h;cases h
 |true=>rw[h1] at h;exact⟨rfl,h⟩
include hA hB in
theorem z0_eff {e f:Nat} (he:e<a.pre.length) (hf:f<b.pre.length) (h:z0B (smpA a) (smpA b) e f=true):possP m a e=possP m b f∧∀ i,i<m.val.length→valuP m a e i=valuP m b f i:=by
 obtain⟨h1,h2⟩:=z0_inv h
 have hpa:e<a.post.length:=by rw[(actI_ok hA).post];exact he
 have hpb:f<b.post.length:=by rw[(actI_ok hB).post];exact hf
 rw[smp_pos hpa,smp_pos hpb] at h1
 rw[smp_pre he,smp_pre hf] at h2
 refine⟨?_,fun i hi => ?_⟩
 ·rw[poss_vl hM hA he,poss_vl hM hB hf]
  exact same_vl hM (pre_stat hA he) (pre_stat hB hf) h2
 ·have h8:i<8:=by have:=hM.fa;omega
  rw[valu_vl hM hA he hi,valu_vl hM hB hf hi]
  obtain⟨g1,g2,g3⟩:=eq_vals (i:=i) h1
  have e1:=smp_val hM h8 (post_chgs hA he) g1
  have e2:=smp_val hM h8 (post_chgs hB hf) g2
  rw[g3] at e1
  exact e1.symm.trans e2
include hA hB in
theorem alk_rel:EvRel m a b (fun e f=>(e<a.pre.length∧f<b.pre.length)∧zAt (alkT a b) e f=true):=by
 have la:(smpA a).pre.length=a.pre.length:=by simp[smpA]
 have lb:(smpA b).pre.length=b.pre.length:=by simp[smpA]
 have st:∀ e f,(e<a.pre.length∧f<b.pre.length)∧zAt (alkT a b) e f=true→Mat (smpA a) (smpA b) (alkT a b) e f∧z0B (smpA a) (smpA b) e f=true:=fun e f h =>
  alk_stable (by rw[la];exact h.1.1) (by rw[lb];exact h.1.2) h.2
 have ra:=(act_ag hA).1
 have rb:=(act_ag hB).1
 have ba:∀ i e h,(relA a i e).testBit h=true→h<a.pre.length:=fun i e h hb=>by
  by_cases hi:i<a.rel.length
  ·exact bit_lt (getD_lt2 ((actI_ok hA).bits _ (List.mem_iff_getElem?.2 ⟨i,getD_mem hi (d:=[])⟩)) e) hb
  ·rw[relA,List.getD_eq_getElem?_getD (l:=a.rel),List.getElem?_eq_none (by omega)] at hb
   have hb:(0:Nat).testBit h=true:=hb
   rw[Nat.zero_testBit] at hb;cases hb
 have bb:∀ i e h,(relA b i e).testBit h=true→h<b.pre.length:=fun i e h hb=>by
  by_cases hi:i<b.rel.length
  ·exact bit_lt (getD_lt2 ((actI_ok hB).bits _ (List.mem_iff_getElem?.2 ⟨i,getD_mem hi (d:=[])⟩)) e) hb
  ·rw[relA,List.getD_eq_getElem?_getD (l:=b.rel),List.getElem?_eq_none (by omega)] at hb
   have hb:(0:Nat).testBit h=true:=hb
   rw[Nat.zero_testBit] at hb;cases hb
 refine⟨fun e f h=>h.1,fun e f h=>(z0_eff hM hA hB h.1.1 h.1.2 (st e f h).2).1,fun e f i h hi=>(z0_eff hM hA hB h.1.1 h.1.2 (st e f h).2).2 i hi,fun e f i d h hi hb hd _ => ?_,fun e f i d h hi hb hd _ => ?_⟩
 ·obtain⟨g,_,g2,g3⟩:=((st e f h).1 i (by show i<a.rel.length;omega)).1 d (by rw[la];exact hd) hb
  exact⟨g,g2,⟨hd,bb _ _ _ g2⟩,g3⟩
 ·obtain⟨g,_,g2,g3⟩:=((st e f h).1 i (by show i<a.rel.length;omega)).2 d (by rw[lb];exact hd) hb
  exact⟨g,g2,⟨ba _ _ _ g2,hd⟩,g3⟩
end
theorem alk_dif {m:Mo} {x y:Act×Int} (hk:alkG x.1 x.2 y.1 y.2=0) (hal:alikeI x.1 x.2 y.1 y.2=true) (hd:difG m [x,y]=0):difI m x y (bisAt m x y)=(-1,0):=by
 obtain⟨a,e⟩:=x
 obtain⟨b,f⟩:=y
 obtain⟨hm,hz⟩:=dif_zero hd
 obtain⟨ha1,_,k,hk1,hk2⟩:=hz (a,e) (by simp)
 obtain⟨hb1,_,j,hj1,hj2⟩:=hz (b,f) (by simp)
 obtain rfl:e=(k:Int):=hk1
 obtain rfl:f=(j:Int):=hj1
 obtain⟨n,hM⟩:=moI_ok hm
 unfold alikeI at hal
 rw[hk] at hal
 exact eff_dif hd (alk_rel hM ha1 hb1) ⟨⟨hk2,hj2⟩,hal⟩
set_option maxHeartbeats 8000000
theorem ceff_key (m:Mo) (x y:Act×Int):(bif (bif (bif !alikeI x.1 x.2 y.1 y.2 then true else alkG x.1 x.2 y.1 y.2 != 0) then true else (difI m x y (bisAt m x y)).2 != 0) then true else (difI m x y (bisAt m x y)).1 == -1)=true:=by
 cases h1:alikeI x.1 x.2 y.1 y.2 with
 |false=>rfl
 |true =>
  have hk:alkG x.1 x.2 y.1 y.2=0:=by
   unfold alikeI at h1
   cases q:(alkG x.1 x.2 y.1 y.2 != 0) with
   |true=>rw[q] at h1;cases h1
   |false=>simpa using q
  rw[hk]
  cases h2:((difI m x y (bisAt m x y)).2 != 0) with
  |true=>rfl
  |false =>
   have hd:difG m [x,y]=0:=by
    unfold difI at h2
    cases q:(difG m [x,y] != 0) with
    |true=>rw[q] at h2;have h2:(difG m [x,y] != 0)=false:=h2;rw[q] at h2;cases h2
    |false=>simpa using q
   rw[alk_dif hk h1 hd];rfl
theorem ceff_pure (m:Mo) (x y:Act×Int) (hf:FitM m) (hfx:Fit x.1) (hfy:Fit y.1):PureFn Tryz.prog 5 [m.pv,evP x,evP y] (.bool true):=by
 have hW:=rm_Few m 8
 have hSl:=fn_small [x.1,y.1] (by simp)
 have hAw:=awk31
 refine PureFn.introC [3,4,5] mixed (fn:=Tryz.f5) rfl rfl rfl fun M w0 => ?_
 try conv=>whnf
 refine⟨{ _x:Unit // fewI x.1 20=true∧fewI y.1 20=true },fun _=>[(3,.ref 0 0),(4,.ref 1 0),(5,.ref 2 0)],fun _=>3,fun _=>[(0,.var (cellsM m)),(1,.var (cellsE x)),(2,.var (cellsE y))],?_,?_⟩
 ·(try conv=>whnf);repeat' (first|(apply And.intro<;>try conv=>whnf)|(intro h;try conv=>whnf)|apply True.intro|(apply cellsI;rfl)|(apply WhenQ.mk;(try conv=>whnf);rotate_left;(try conv=>whnf);rotate_right)|with_reducible assumption|(apply not_of;with_reducible assumption)|(refine PureFn.dy hW rfl ?_;try conv=>whnf)|(refine PureFn.dy hSl rfl ?_;try conv=>whnf)|(refine PureFn.dy hAw rfl ?_;try conv=>whnf)|fail)
  ·exact .refl _
  ·refine⟨⟨(),?_⟩,(by exact Wk.sm rfl rfl rfl rfl rfl)⟩
   obtain⟨h1,h2⟩:=or_ff' (show (bif !fewM m 8 then true else !smallI [x.1,y.1])=false from h)
   have h3:smallI [x.1,y.1]=true:=by simpa using h2
   unfold smallI at h3
   cases q:([x.1,y.1].all fun a=>fewI a 20) with
   |false=>rw[q] at h3;cases h3
   |true =>
    have q2:∀ z,z∈[x.1,y.1]→fewI z 20=true:=fun z hz=>List.all_eq_true.1 q z hz
    exact⟨q2 x.1 (by simp),q2 y.1 (by simp)⟩
 rintro⟨_,hwa,hwb⟩
 have hSx:=few_smx hfx hwa
 have hSy:=few_smx hfy hwb
 have hL:=cp_Alike x.1 y.1 hSx hSy x.2 y.2
 have hA:=cdif_dif m x y hf hSx hSy
 have hK:=ceff_key m x y
 rw[alikeP] at hL
 generalize difI m x y (bisAt m x y)=D at hA hK
 generalize alikeI x.1 x.2 y.1 y.2=is at hL hK
 generalize alkG x.1 x.2 y.1 y.2=e at hL hK
 obtain⟨w,f⟩:=D
 simp only at hK
 refine⟨Unit,fun _=>[(3,.ref 0 0),(4,.ref 1 0),(5,.ref 2 0),(7,.pv (.bool is)),(8,.pv (.int .i64 e))],fun _=>3,fun _=>[(0,.var (cellsM m)),(1,.var (cellsE x)),(2,.var (cellsE y))],?_,?_⟩
 ·(try conv=>whnf);repeat' (first|(refine PureFn.dy hL rfl ?_;try conv=>whnf)|fail)
  exact⟨(),(by exact Wk.sm rfl rfl rfl rfl rfl)⟩
 rintro⟨⟩
 refine⟨Unit,fun _=>[(7,.pv (.bool is)),(8,.pv (.int .i64 e)),(9,.pv (.int .i64 w)),(10,.pv (.int .i64 f))],fun _=>3,fun _=>[],?_,?_⟩
 ·(try conv=>whnf);repeat' (first|(refine PureFn.dy hA rfl ?_;try conv=>whnf)|fail)
  exact⟨(),(by exact Wk.sm rfl rfl rfl rfl rfl)⟩
 rintro⟨⟩
 (try conv=>whnf);repeat' (first|(apply And.intro<;>try conv=>whnf)|(intro h;try conv=>whnf)|apply True.intro|(apply WhenQ.mk;(try conv=>whnf);rotate_left;(try conv=>whnf);rotate_right)|with_reducible assumption|(apply not_of;with_reducible assumption)|(refine PureFn.dy hAw rfl ?_;try conv=>whnf)|fail)
 exact le_bool (by rw[hK];rfl)
theorem ceff_args (ps:List PV) (hps:TyAll Tryz.prog 8 Tryz.f5.params.toList ps):PureFn Tryz.prog 5 ps (.bool true):=by
 obtain⟨p1,r1,rfl,h1,p2,r2,rfl,h2,p3,r3,rfl,h3,rfl⟩:=hps
 obtain⟨m,hm,hf⟩:=arg_mod (n:=4) h1
 obtain⟨x,hx,hfx⟩:=arg_event (n:=0) h2
 obtain⟨y,hy,hfy⟩:=arg_event (n:=0) h3
 exact (ceff_pure m x y hf hfx hfy).le ⟨hm,hx,hy,trivial⟩
end Go.Proofs.YtejbieopeicgkaaGreatDoor
