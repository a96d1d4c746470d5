/- Parts of the proof, one after the other: Alike events: alike of the program walked. Alike events: Alike of the program walked. Simplified action models: what the program makes of one (plain), the place of an event walked. Simplified action models: Simplify of the program walked. Events that differ: Differ of the program walked. -/
import Derived.Test.YtejbieopeicgkaaGreatDoorM11
set_option maxRecDepth 100000
set_option maxHeartbeats 4000000
namespace Go.Proofs.YtejbieopeicgkaaGreatDoor
open Go Go.Dv
def colZ (z:List (List Bool)) (e:Nat):List PV:=(z.getD e []).map PV.bool
def lenZ (z:List (List Bool)) (e:Nat):Nat:=(colZ z e).length
def AT (a b:Act) (n:Nat) (z:List (List Bool)):List (Nat×DObj):=(0,.var (q0c a))::(1,.var (q0c b))::(2,.var (tabC n (lenZ z)))::tabO n (colZ z)
theorem AT_get {a b:Act} {n e:Nat} {z:List (List Bool)} (h:e<n):objsOf (AT a b n z) (e+8)=some (.arr 1 (colZ z e)):=tabO_get h
theorem AT_in {a b:Act} {n nx:Nat} {z:List (List Bool)} (hn:n<=8) (hnx:16<=nx):∀ q,q∈AT a b n z->q.1<nx/\q.2.under nx=true:=fun q hq=>by
 rcases List.mem_cons.1 hq with rfl|hq
 ·exact⟨by show 0<nx;omega,rfl⟩
 rcases List.mem_cons.1 hq with rfl|hq
 ·exact⟨by show 1<nx;omega,rfl⟩
 rcases List.mem_cons.1 hq with rfl|hq
 ·refine⟨by show 2<nx;omega,unders_mem.2 fun d hd => ?_⟩;obtain⟨e,he,rfl⟩:=List.mem_map.1 hd;have he:=List.mem_range.1 he
  show Nat.blt (e+8) nx=true
  rw[Nat.blt_eq];omega
 obtain⟨e,he,rfl⟩:=List.mem_map.1 hq;have he:=List.mem_range.1 he;exact⟨by show e+8<nx;omega,rfl⟩
theorem AT_all {a b:Act} {n nx:Nat} {z:List (List Bool)} {g:Nat->Option DObj} {L:DH} (hn:n<=8) (hnx:16<=nx) (h0:g 0=some (.var (q0c a))) (h1:g 1=some (.var (q0c b))) (h2:g 2=some (.var (tabC n (lenZ z)))) (h:∀ e,e<n->g (e+8)=some (.arr 1 (colZ z e))) :
  ∀ q,q∈AT a b n z->(g q.1=some q.2\/(g q.1=none/\L.next<=q.1/\∃ sz,q.2=.arr sz []))/\q.1<nx/\q.2.under nx=true:=fun q hq=>by
 refine⟨.inl ?_,AT_in hn hnx q hq⟩
 rcases List.mem_cons.1 hq with rfl|hq
 ·exact h0
 rcases List.mem_cons.1 hq with rfl|hq
 ·exact h1
 rcases List.mem_cons.1 hq with rfl|hq
 ·exact h2
 obtain⟨e,he,rfl⟩:=List.mem_map.1 hq;exact h e (List.mem_range.1 he)
theorem AT_mid {a b:Act} {n nx:Nat} (hn:n<=8) (hnx:16<=nx) {z:List (List Bool)} {g:Nat->Option DObj} {L:DH} (h:∀ k,k<16->g k=objsOf (AT a b n z) k) :
  ∀ q,q∈AT a b n z->(g q.1=some q.2\/(g q.1=none/\L.next<=q.1/\∃ sz,q.2=.arr sz []))/\q.1<nx/\q.2.under nx=true :=
 AT_all (g:=g) hn hnx ((h 0 (by omega)).trans rfl) ((h 1 (by omega)).trans rfl) ((h 2 (by omega)).trans rfl) fun e he=>(h (e+8) (by omega)).trans (AT_get he)
def nilT (n:Nat):List (List Bool):=List.replicate n []
theorem colZ_nil (n e:Nat):colZ (nilT n) e=[]:=by
 unfold colZ nilT;rw[List.getD_eq_getElem?_getD,List.getElem?_replicate]
 split<;>rfl
theorem AT_start {a b:Act} {n:Nat} (hn:n<=8) {L:DH} (h0:L.get 0=some (.var (q0c a))) (h1:L.get 1=some (.var (q0c b))) (h2:L.get 2=some (.var (List.replicate n (.pv .nil)))) (hno:∀ k,3<=k->L.get k=none) (hnx:L.next<=8) :
  ∀ q,q∈AT a b n (nilT n)->WkO L (AT a b n (nilT n)) q.1 q.2/\(L.get q.1=none->L.next<=q.1)/\q.1<16/\q.2.under 16=true:=fun q hq=>by
 refine⟨?_,?_,AT_in hn (Nat.le_refl 16) q hq⟩
 ·rcases List.mem_cons.1 hq with rfl|hq
  ·exact .same _ _ h0
  rcases List.mem_cons.1 hq with rfl|hq
  ·exact .same _ _ h1
  rcases List.mem_cons.1 hq with rfl|hq
  ·refine .var 2 _ _ h2 (by rw[tabC_len,List.length_replicate]) fun i d d' hd hd' => ?_
   have hi:i<n:=by
    have:=(List.getElem?_eq_some_iff.1 hd).1;simpa using this
   rw[List.getElem?_replicate,if_pos hi] at hd;rw[tabC_get hi] at hd';obtain rfl:=Option.some.inj hd;obtain rfl:=Option.some.inj hd';rw[lenZ,colZ_nil];exact .new _ (i+8) 1 (.inl rfl) (hno _ (by omega)) (by rw[AT_get hi,colZ_nil])
  obtain⟨e,he,rfl⟩:=List.mem_map.1 hq
  show WkO L _ (e+8) (.arr 1 (colZ (nilT n) e))
  rw[colZ_nil];exact .new _ 1 (hno _ (by show 3<=e+8;omega))
 ·rcases List.mem_cons.1 hq with rfl|hq
  ·intro h;rw[h0] at h;cases h
  rcases List.mem_cons.1 hq with rfl|hq
  ·intro h;rw[h1] at h;cases h
  rcases List.mem_cons.1 hq with rfl|hq
  ·intro h;rw[h2] at h;cases h
  obtain⟨e,he,rfl⟩:=List.mem_map.1 hq;intro _
  show L.next<=e+8
  omega
def bldT (a b:Act) (e f:Nat):List (List Bool):=(List.range a.pre.length).map fun e'=>if e'<e then row0 a b e' else if e'=e then (row0 a b e).take f else []
theorem bld_at {a b:Act} {e f e':Nat} (h:e'<a.pre.length):(bldT a b e f).getD e' []=if e'<e then row0 a b e' else if e'=e then (row0 a b e).take f else []:=by
 rw[bldT,List.getD_eq_getElem?_getD,List.getElem?_map,List.getElem?_range h];rfl
theorem bld_nil (a b:Act):bldT a b 0 0=nilT a.pre.length:=by
 apply List.ext_getElem?;intro i;rw[bldT,nilT,List.getElem?_map,List.getElem?_replicate]
 by_cases h:i<a.pre.length
 ·rw[List.getElem?_range h,if_pos h];simp
 ·rw[List.getElem?_eq_none (by simp;omega),if_neg h];rfl
theorem row0_len (a b:Act) (e:Nat):(row0 a b e).length=b.pre.length:=by simp[row0]
theorem bld_next (a b:Act) (e:Nat):bldT a b e b.pre.length=bldT a b (e+1) 0:=by
 refine List.map_congr_left fun e' _ => ?_
 have h1:(row0 a b e).take b.pre.length=row0 a b e:=by rw[<- row0_len a b e,List.take_length]
 by_cases h:e'<e
 ·rw[if_pos h,if_pos (by omega)]
 ·by_cases h2:e'=e
  ·subst h2;rw[if_neg h,if_pos rfl,if_pos (by omega),h1]
  ·rw[if_neg h,if_neg h2,if_neg (by omega)];simp
theorem bld_all (a b:Act):bldT a b a.pre.length 0=tab0 a b:=List.map_congr_left fun e' h=>by rw[if_pos (List.mem_range.1 h)]
theorem bld_cell {a b:Act} {e f:Nat} (he:e<a.pre.length) (hf:f<b.pre.length):colZ (bldT a b e (f+1)) e=colZ (bldT a b e f) e++[.bool (z0B a b e f)]:=by
 have h:(row0 a b e)[f]? = some (z0B a b e f):=by rw[row0,List.getElem?_map,List.getElem?_range hf];rfl
 rw[colZ,colZ,bld_at he,bld_at he,if_neg (Nat.lt_irrefl e),if_pos rfl,if_neg (Nat.lt_irrefl e),if_pos rfl,tak_map h]
theorem bld_else {a b:Act} {e f e':Nat} (h:e'≠e):colZ (bldT a b e (f+1)) e'=colZ (bldT a b e f) e':=by
 by_cases he:e'<a.pre.length
 ·rw[colZ,colZ,bld_at he,bld_at he,if_neg h,if_neg h]
 ·rw[colZ,colZ,List.getD_eq_getElem?_getD,List.getD_eq_getElem?_getD,List.getElem?_eq_none (by simp[bldT];omega),List.getElem?_eq_none (by simp[bldT];omega)]
theorem frz1s_rows (col:Nat->List PV):∀ (l:List Nat) (L:DH) (K:List PV->DH->Prop),(∀ e,e∈l->L.get (e+8)=some (.arr 1 (col e))\/L.get (e+8)=some (.fz (col e)))->L.lo<=8->(∀ L',K (l.map fun e=>.sl (col e)) L')->frz1s (l.map fun e=>.buf (e+8) (col e).length) L K
 | [],L,_,_,_,hK=>hK L
 |e::r,L,K,h,hlo,hK=>by
  rw[List.map_cons,frz1s,frz1]
  rcases h e (by simp) with h1|h1
  ·rw[h1];refine⟨rfl,by rw[Nat.ble_eq];omega,frz1s_rows col r _ _ (fun e' he' => ?_) hlo fun L'=>hK L'⟩
   by_cases q:e'=e
   ·subst q;exact .inr (DH.put_same L _ _)
   ·rw[DH.put_ne L _ (by omega)];exact h e' (by simp[he'])
  ·rw[h1];exact⟨rfl,frz1s_rows col r _ _ (fun e' he'=>h e' (by simp[he'])) hlo fun L'=>hK L'⟩
theorem brw1s_rows (col:Nat->List PV) (L:DH):∀ (l:List Nat) (K:List PV->Prop),(∀ e,e∈l->L.get (e+8)=some (.arr 1 (col e)))->K (l.map fun e=>.sl (col e))->brw1s (l.map fun e=>.buf (e+8) (col e).length) L K
 | [],_,_,hK=>hK
 |e::r,K,h,hK=>by
  rw[List.map_cons,brw1s,brw1,h e (by simp)];exact⟨rfl,brw1s_rows col L r _ (fun e' he'=>h e' (by simp[he'])) hK⟩
theorem tabPV_rows {z:List (List Bool)} {n:Nat} (h:z.length=n):tabPV z=.sl ((List.range n).map fun e=>.sl (colZ z e)):=by
 rw[tabPV]
 congr 1
 apply List.ext_getElem?;intro i;rw[List.getElem?_map,List.getElem?_map]
 by_cases hi:i<n
 ·rw[List.getElem?_range hi,q0f (d:=[]) (by rw[h];exact hi)];rfl
 ·rw[List.getElem?_eq_none (by rw[h];omega),List.getElem?_eq_none (by simp;omega)];rfl
theorem mt_brws {a b:Act} {n:Nat} {Z:List (List Bool)} {L:DH} (h2:L.get 2=some (.var (tabC n (lenZ Z)))) (hr:∀ e,e<n->L.get (e+8)=some (.arr 1 (colZ Z e))) (hz:tabPV Z=.sl ((List.range n).map fun e=>.sl (colZ Z e))) (e f:Nat) :
  brws [.agg (q0c a),.agg (q0c b),.vbuf 2 n,.pv (i64 e),.pv (i64 f)] L fun qs=>PLes qs [a.pv,b.pv,tabPV Z,i64 e,i64 f]:=by
 rw[hz]
 show (match L.get 2 with
   |some (.var cs)=>brw1s cs L (fun ps=>n=ps.length/\ps.all PV.one=true/\PLes [a.pv,b.pv,.sl ps,i64 e,i64 f] [a.pv,b.pv,.sl ((List.range n).map fun e=>.sl (colZ Z e)),i64 e,i64 f])
   |_=>False)
 rw[h2];refine brw1s_rows (colZ Z) L (List.range n) _ (fun e he=>hr e (List.mem_range.1 he)) ⟨by simp,by simp[PV.one],.refl _,.refl _,.refl _,.refl _,.refl _,trivial⟩
theorem colZ_clr {z:List (List Bool)} {e f:Nat} (he:e<z.length):colZ (clrT z e f) e=(colZ z e).set f (.bool false):=by
 unfold colZ clrT;rw[List.getD_eq_getElem?_getD,List.getElem?_set,if_pos rfl,if_pos he,Option.getD_some,List.map_set]
theorem colZ_cle {z:List (List Bool)} {e f e':Nat} (h:e'≠e):colZ (clrT z e f) e'=colZ z e':=by
 unfold colZ clrT;rw[List.getD_eq_getElem?_getD,List.getElem?_set,if_neg (fun q=>h q.symm),<- List.getD_eq_getElem?_getD]
theorem lenZ_clr (z:List (List Bool)) (e f e':Nat):lenZ (clrT z e f) e'=lenZ z e':=by
 by_cases h:e'=e
 ·subst h
  by_cases he:e'<z.length
  ·rw[lenZ,lenZ,colZ_clr he,List.length_set]
  ·have:clrT z e' f=z:=by rw[clrT,List.set_eq_of_length_le (by omega)]
   rw[this]
 ·rw[lenZ,lenZ,colZ_cle h]
theorem tabC_clr (z:List (List Bool)) (n e f:Nat):tabC n (lenZ (clrT z e f))=tabC n (lenZ z):=by
 rw[show lenZ (clrT z e f)=lenZ z from funext fun e'=>lenZ_clr z e f e']
theorem al1 (x y:Asg):PureFn Tryz.prog 107 [x.pv,y.pv] (.bool (asS x y)):=by
 refine PureFn.intro mixed (fn:=Tryz.f107) rfl rfl rfl fun M w0 => ?_
 (try conv=>whnf);repeat' (first|((first|apply And.intro|intro h)<;>try conv=>whnf)|apply True.intro|(apply WhenQ.mk;(try conv=>whnf);rotate_left;(try conv=>whnf);rotate_right)|with_reducible assumption|(refine PureFn.dcq (f:=33) rfl ?_;try conv=>whnf)|(refine⟨_,_,fm_Same ?_ ?_,?_,?_⟩;rotate_left 2;(focus refine⟨?_,?_,trivial⟩<;>first|exact PLe.refl _|exact PLe.nil);try conv=>whnf)|fail)
 all_goals exact .refl _
theorem cp_alike (a b:Act) (hA:Shp a a.pre.length) (hB:Shp b b.pre.length) (hr:a.rel.length=b.rel.length) (hpa:∀ l,l∈a.post->l.length<=1000) (h0:0<a.pre.length):PureFn Tryz.prog 55 [a.pv,b.pv] (tabPV (alkI a b (tab0 a b))):=by
 have hn:=hA.n8;have hm:=hB.n8;refine PureFn.introC [2,12] mixed (fn:=Tryz.f55) rfl rfl rfl fun M w0 => ?_
 have hN:((a.pre.map fpv).length:Int).toNat=a.pre.length:=by simp
 try conv=>whnf
 refine⟨Unit,fun _=>[(2,.ref 0 0),(3,.ref 1 0),(5,.vbuf 2 a.pre.length)],fun _=>16,fun _=>AT a b a.pre.length (nilT a.pre.length),?_,?_⟩
 ·(try conv=>whnf);repeat' (first|(apply And.intro<;>try conv=>whnf)|(apply Or.inr;refine⟨rfl,?_,rfl,?_⟩;try conv=>whnf)|fail)
  all_goals first
   |rfl
   |exact (show (0:Int)<=((a.pre.map fpv).length:Int) from Int.natCast_nonneg _)
   |exact (show ((a.pre.map fpv).length:Int)<=(big:Nat) by rw[List.length_map];unfold big;omega)
   |exact (show (0:Int)<((a.pre.map fpv).length:Int) by rw[List.length_map];omega)
   |skip
  rw[hN];refine⟨(),Wk.ofP ⟨.same _,.same _,.same _,trivial⟩ rfl rfl rfl (AT_start hn rfl rfl rfl (fun k hk => ?_) (show 3<=8 by decide))⟩
  show (bif Nat.beq k 2 then _ else bif Nat.beq k 1 then _ else bif Nat.beq k 0 then _ else none)=none
  rw[z0s (by omega),z0s (by omega),z0s (by omega)];rfl
 rintro⟨⟩;refine⟨Unit,fun _=>[(2,.ref 0 0),(3,.ref 1 0),(5,.vbuf 2 a.pre.length)],fun _=>16,fun _=>AT a b a.pre.length (tab0 a b),?_,?_⟩
 ·try conv=>whnf
  refine⟨{ e:Nat // e<=a.pre.length },fun e=>[(2,.ref 0 0),(3,.ref 1 0),(5,.vbuf 2 a.pre.length),(18,.pv (i64 (a.pre.map fpv).length)),(19,.pv (i64 e.1))],fun _=>16,fun e=>AT a b a.pre.length (bldT a b e.1 0),fun e=>a.pre.length-e.1,⟨⟨0,Nat.zero_le _⟩,?_⟩,?_⟩
  ·show Wk _ _ _ _ (AT a b a.pre.length (bldT a b 0 0))
   rw[bld_nil]
   (refine Wk.ofN 0 ?_ ?_ rfl rfl rfl ?_<;>repeat' (first|exact trivial|exact WkD.same _|refine⟨?_,?_⟩|fail))
   exact AT_mid hn (Nat.le_refl 16) fun k hk=>rfl
  rintro⟨e,he⟩
  (try conv=>whnf);repeat' (first|((first|apply And.intro|intro h)<;>try conv=>whnf))
  ·have he':e<a.pre.length:=by simpa using q0j h
   refine⟨{ f:Nat // f<=b.pre.length },fun f=>[(2,.ref 0 0),(3,.ref 1 0),(5,.vbuf 2 a.pre.length),(18,.pv (i64 (a.pre.map fpv).length)),(19,.pv (i64 e)),(6,.pv (i64 e)),(24,.pv (i64 (b.pre.map fpv).length)),(25,.pv (i64 f.1))],fun _=>16,fun f=>AT a b a.pre.length (bldT a b e f.1),fun f=>b.pre.length-f.1,⟨⟨0,Nat.zero_le _⟩,?_⟩,?_⟩
   ·(refine Wk.ofN 0 ?_ ?_ rfl rfl rfl ?_<;>repeat' (first|exact trivial|exact WkD.same _|refine⟨?_,?_⟩|fail))
    exact AT_mid hn (Nat.le_refl 16) fun k hk=>rfl
   rintro⟨f,hf⟩
   (try conv=>whnf);repeat' (first|((first|apply And.intro|intro h)<;>try conv=>whnf))
   ·have hf':f<b.pre.length:=by simpa using q0j h
    obtain⟨pa,hpa'⟩:∃ y,a.pre[e]? = some y:=⟨_,List.getElem?_eq_getElem he'⟩;obtain⟨pb,hpb'⟩:∃ y,b.pre[f]? = some y:=⟨_,List.getElem?_eq_getElem hf'⟩;obtain⟨qa,hqa⟩:∃ y,a.post[e]? = some y:=⟨_,List.getElem?_eq_getElem (by rw[hA.post];exact he')⟩;obtain⟨qb,hqb⟩:∃ y,b.post[f]? = some y:=⟨_,List.getElem?_eq_getElem (by rw[hB.post];exact hf')⟩;have i1:=q0a (g:=fpv) hpa';have i2:=q0a (g:=fpv) hpb';have i3:=q0a (g:=q0q) hqa;have i4:=q0a (g:=q0q) hqb;have hql:=hpa qa (List.mem_iff_getElem?.2 ⟨_,hqa⟩);refine⟨Plan.lin 0 12,[10],by kernel_rfl,?_⟩
    (try conv=>whnf);repeat' (first|(apply And.intro<;>try conv=>whnf)|(apply q0i;rfl)|(refine⟨_,_,rfl,q0a (by with_reducible assumption),rfl,?_⟩;try conv=>whnf)|fail)
    refine DC.alone (p:=.bool (eqL asS qa qb)) rfl (fun M w0=>eqf_A 107 asS rfl qa qb hql (fun s _ t _=>al1 s t) M w0) ?_;have hS:=fm_Same pa pb
    try conv=>whnf
    refine⟨Plan.lin 0 24,[21,23],by kernel_rfl,?_⟩
    (try conv=>whnf);repeat' (first|(apply And.intro<;>try conv=>whnf)|(apply q0i;rfl))
    ·exact rfl
    refine⟨e,rfl,he',?_⟩
    try conv=>whnf
    rw[tabC_get he']
    (try conv=>whnf);repeat' (first|((first|apply And.intro|intro h)<;>try conv=>whnf)|apply True.intro|(apply q0i;rfl)|(apply q0p;rfl)|(apply szI;rfl)|(apply WhenQ.mk;(try conv=>whnf);rotate_left;(try conv=>whnf);rotate_right)|with_reducible assumption|(refine⟨_,_,rfl,q0a (by with_reducible assumption),rfl,?_⟩;try conv=>whnf)|(refine⟨_,(by (conv=>whnf);exact hS),rfl,?_⟩;try conv=>whnf)|fail)
    have hcl:(colZ (bldT a b e f) e).length<=8:=by
     rw[colZ,List.length_map,bld_at he',if_neg (Nat.lt_irrefl e),if_pos rfl,List.length_take];omega
    have hel:e+1<=(tabC a.pre.length (lenZ (bldT a b e f))).length:=by rw[tabC_len];exact he'
    rw[get_eq (k:=e+8) (o:=some (.arr 1 (colZ (bldT a b e f) e))) (AT_get (a:=a) (b:=b) he')]
    (try conv=>whnf);repeat' (first|(apply And.intro<;>try conv=>whnf)|(apply q0i;rfl)|(apply q0p;rfl))
    all_goals first
     |exact (show (colZ (bldT a b e f) e).length+1<=4294967296 by omega)
     |exact rfl
     |skip
    refine⟨e,rfl,he',?_⟩
    try conv=>whnf
    rw[ble_s (e:=e) (b:=(tabC a.pre.length (lenZ (bldT a b e f))).length) ?_ hel]
    try conv=>whnf
    ·have hz:z0B a b e f=bif eqL asS qa qb then same pa pb else false:=by
      rw[z0B,List.getD_eq_getElem?_getD,List.getD_eq_getElem?_getD,List.getD_eq_getElem?_getD,List.getD_eq_getElem?_getD,hpa',hpb',hqa,hqb];rfl
     have hbc:=bld_cell (f:=f) he' hf';rw[hz] at hbc;refine⟨⟨f+1,hf'⟩,by show b.pre.length-(f+1)<b.pre.length-f;omega,?_⟩
     (refine Wk.ofN 0 ?_ ?_ rfl rfl rfl ?_<;>repeat' (first|exact trivial|exact WkD.same _|refine WkD.int ?_|refine⟨?_,?_⟩|(apply q0h;(focus simp;done);all_goals (try dsimp only);omega)|fail))
     refine AT_all (g:=_) hn (Nat.le_refl 16) rfl rfl ?_ fun e' hg' => ?_
     ·exact congrArg (fun z=>some (DObj.var z)) (tabC_put he' (by rw[lenZ,hbc]) (fun e' h=>by rw[lenZ,lenZ,bld_else h]))
     ·show (bif Nat.beq (e'+8) (e+8) then some (DObj.arr 1 (colZ (bldT a b e f) e++[.bool (bif eqL asS qa qb then same pa pb else false)])) else objsOf (AT a b a.pre.length (bldT a b e f)) (e'+8))=_
      by_cases q:e'=e
      ·rw[q,Nat.beq_refl,cond_true,hbc]
      ·rw[z0s (by omega),cond_false,AT_get hg',bld_else q]
    ·exact rfl
   ·have hf':f=b.pre.length:=by have:=q0k (m:=(b.pre.map fpv).length) h (by simpa using hf);simpa using this
    subst hf';refine⟨⟨e+1,he'⟩,by show a.pre.length-(e+1)<a.pre.length-e;omega,?_⟩;have hb:=bld_next a b e
    (refine Wk.ofN 0 ?_ ?_ rfl rfl rfl ?_<;>repeat' (first|exact trivial|exact WkD.same _|refine WkD.int ?_|refine⟨?_,?_⟩|(apply q0h;(focus simp;done);all_goals (try dsimp only);omega)|fail))
    exact AT_mid hn (Nat.le_refl 16) fun k hk=>congrFun (congrArg (fun z=>objsOf (AT a b a.pre.length z)) hb) k
  ·have he':e=a.pre.length:=by have:=q0k (m:=(a.pre.map fpv).length) h (by simpa using he);simpa using this
   subst he';refine⟨(),?_⟩
   (refine Wk.ofN 0 ?_ ?_ rfl rfl rfl ?_<;>repeat' (first|exact trivial|exact WkD.same _|refine⟨?_,?_⟩|fail))
   exact AT_mid hn (Nat.le_refl 16) fun k hk=>congrFun (congrArg (fun z=>objsOf (AT a b a.pre.length z)) (bld_all a b)) k
 rintro⟨⟩
 have hT0:Tab (tab0 a b) a.pre.length b.pre.length:=⟨by simp[tab0],fun r hr=>by
  obtain⟨e,_,rfl⟩:=List.mem_map.1 hr
  exact row0_len a b e⟩
 obtain⟨R,hR⟩:∃ R,alkI a b (tab0 a b)=R:=⟨_,rfl⟩;rw[hR]
 try conv=>whnf
 refine⟨{ x:List (List Bool)×Bool // Tab x.1 a.pre.length b.pre.length/\(x.2=true->alkI a b x.1=R)/\(x.2=false->x.1=R) },fun x=>[(2,.ref 0 0),(3,.ref 1 0),(5,.vbuf 2 a.pre.length),(9,.pv (.bool x.1.2))],fun _=>16,fun x=>AT a b a.pre.length x.1.1,fun x=>2*cntZ x.1.1 a.pre.length b.pre.length+(bif x.1.2 then 1 else 0),⟨⟨(tab0 a b,true),hT0,fun _=>hR,fun h=>(by cases h)⟩,?_⟩,?_⟩
 ·(refine Wk.ofN 0 ?_ ?_ rfl rfl rfl ?_<;>repeat' (first|exact trivial|exact WkD.same _|refine⟨?_,?_⟩|fail))
  exact AT_mid hn (Nat.le_refl 16) fun k hk=>rfl
 rintro⟨⟨z,ch⟩,hz,hy,hno⟩;simp only at hz hy hno
 (try conv=>whnf);repeat' (first|((first|apply And.intro|intro h)<;>try conv=>whnf))
 ·have hyR:=hy h;have hO:=fun (k:Nat) (hk:k<=a.pre.length)=>(OkS.start hz).pass (a:=a) (b:=b) (k:=k) hk
  refine⟨{ e:Nat // e<=a.pre.length },fun e=>[(2,.ref 0 0),(3,.ref 1 0),(5,.vbuf 2 a.pre.length),(9,.pv (.bool (z0w a b b.pre.length e.1 (z,false)).2)),(66,.pv (i64 a.pre.length)),(67,.pv (i64 e.1))],fun _=>16,fun e=>AT a b a.pre.length (z0w a b b.pre.length e.1 (z,false)).1,fun e=>a.pre.length-e.1,⟨⟨0,Nat.zero_le _⟩,?_⟩,?_⟩
  ·(refine Wk.ofN 0 ?_ ?_ rfl rfl rfl ?_<;>repeat' (first|exact trivial|exact WkD.same _|refine⟨?_,?_⟩|fail))
   exact AT_mid hn (Nat.le_refl 16) fun k hk=>rfl
  rintro⟨e,he⟩
  (try conv=>whnf);repeat' (first|((first|apply And.intro|intro h)<;>try conv=>whnf)|(apply q0i;rfl))
  ·exact rfl
  ·have he':e<a.pre.length:=by
    have h2:decide ((e:Int)<((a.pre.length:Nat):Int))=true:=by assumption
    have:=of_decide_eq_true h2;omega
   refine⟨e,rfl,he',?_⟩
   try conv=>whnf
   rw[tabC_get he']
   try conv=>whnf
   have hOe:=hO e (by omega)
   have hre:∀ z:List (List Bool),Tab z a.pre.length b.pre.length->lenZ z e=b.pre.length:=fun z hz=>by
    rw[lenZ,colZ,List.length_map];exact hz.row _ (List.mem_iff_getElem?.2 ⟨e,q0f (by rw[hz.len];exact he')⟩)
   refine⟨{ f:Nat // f<=b.pre.length },fun f=>[(2,.ref 0 0),(3,.ref 1 0),(5,.vbuf 2 a.pre.length),(9,.pv (.bool (rowZ a b e f.1 (z0w a b b.pre.length e (z,false))).2)),(66,.pv (i64 a.pre.length)),(67,.pv (i64 e)),(10,.pv (i64 e)),(74,.pv (i64 (lenZ (z0w a b b.pre.length e (z,false)).1 e))),(75,.pv (i64 f.1))],fun _=>16,fun f=>AT a b a.pre.length (rowZ a b e f.1 (z0w a b b.pre.length e (z,false))).1,fun f=>b.pre.length-f.1,⟨⟨0,Nat.zero_le _⟩,?_⟩,?_⟩
   ·(refine Wk.ofN 0 ?_ ?_ rfl rfl rfl ?_<;>repeat' (first|exact trivial|exact WkD.same _|refine⟨?_,?_⟩|fail))
    exact AT_mid hn (Nat.le_refl 16) fun k hk=>rfl
   rintro⟨f,hf⟩;have hle:=hre _ hOe.tab
   (try conv=>whnf);repeat' (first|((first|apply And.intro|intro h)<;>try conv=>whnf)|(apply q0i;rfl))
   ·exact rfl
   ·have hf':f<b.pre.length:=by
     have h2:decide ((f:Int)<((lenZ (z0w a b b.pre.length e (z,false)).1 e:Nat):Int))=true:=by assumption
     have:=of_decide_eq_true h2;omega
    have hOr:=hOe.row (a:=a) (b:=b) he' (k:=f) (by omega);have hls:=hre _ hOr.tab;obtain⟨t1,t2⟩:=hOr.tab.at he' hf';have t3:(colZ (rowZ a b e f (z0w a b b.pre.length e (z,false))).1 e)[f]? = some (.bool (zAt (rowZ a b e f (z0w a b b.pre.length e (z,false))).1 e f)):=by rw[colZ,List.getElem?_map,t2];rfl
    refine⟨e,rfl,he',?_⟩
    try conv=>whnf
    rw[tabC_get he']
    try conv=>whnf
    rw[get_eq (k:=e+8) (o:=some (.arr 1 (colZ (rowZ a b e f (z0w a b b.pre.length e (z,false))).1 e))) (AT_get (a:=a) (b:=b) he')]
    (try conv=>whnf);repeat' (first|(apply And.intro<;>try conv=>whnf))
    ·exact rfl
    refine⟨f,rfl,by rw[hls];exact hf',?_⟩
    try conv=>whnf
    rw[get_eq (k:=e+8) (o:=some (.arr 1 (colZ (rowZ a b e f (z0w a b b.pre.length e (z,false))).1 e))) (AT_get (a:=a) (b:=b) he')];refine⟨rfl,_,t3,?_⟩;have hMt:=cp_matched a b a.pre.length b.pre.length hA hB hr (rowZ a b e f (z0w a b b.pre.length e (z,false))).1 hOr.tab e f he' hf';have htp:=tabPV_rows hOr.tab.len;have hg8:∀ e',e'<a.pre.length->objsOf (AT a b a.pre.length (rowZ a b e f (z0w a b b.pre.length e (z,false))).1) (e'+8)=some (.arr 1 (colZ (rowZ a b e f (z0w a b b.pre.length e (z,false))).1 e')):=fun e' h=>AT_get h
    generalize hv:zAt (rowZ a b e f (z0w a b b.pre.length e (z,false))).1 e f=v at t3 |-
    (try conv=>whnf);repeat' (first|((first|apply And.intro|intro h)<;>try conv=>whnf)|apply True.intro|(apply q0i;rfl)|(apply WhenQ.mk;(try conv=>whnf);rotate_left;(try conv=>whnf);rotate_right)|with_reducible assumption|(exact PureFn.dcb hMt rfl (mt_brws (a:=a) (b:=b) (Z:=(rowZ a b e f (z0w a b b.pre.length e (z,false))).1) rfl hg8 htp e f) ⟨rfl,rfl⟩;try conv=>whnf)|fail)
    ·exact rfl
    ·have hst:stepZ a b e f (rowZ a b e f (z0w a b b.pre.length e (z,false)))=(clrT (rowZ a b e f (z0w a b b.pre.length e (z,false))).1 e f,true):=by
      rw[stepZ,hv,show (bif v then !mtI a b (rowZ a b e f (z0w a b b.pre.length e (z,false))).1 e f else false)=true from h];rfl
     refine⟨e,rfl,he',?_⟩
     try conv=>whnf
     rw[tabC_get he']
     try conv=>whnf
     rw[get_eq (k:=e+8) (o:=some (.arr 1 (colZ (rowZ a b e f (z0w a b b.pre.length e (z,false))).1 e))) (AT_get (a:=a) (b:=b) he')]
     (try conv=>whnf);repeat' (first|(apply And.intro<;>try conv=>whnf))
     all_goals first
      |exact rfl
      |skip
     refine⟨f,rfl,by rw[hls];exact hf',?_⟩
     try conv=>whnf
     rw[get_eq (k:=e+8) (o:=some (.arr 1 (colZ (rowZ a b e f (z0w a b b.pre.length e (z,false))).1 e))) (AT_get (a:=a) (b:=b) he')];refine⟨rfl,_,t3,?_⟩
     (try conv=>whnf);repeat' (first|(apply And.intro<;>try conv=>whnf)|exact Nat.le_refl 1|fail)
     refine⟨⟨f+1,hf'⟩,by show b.pre.length-(f+1)<b.pre.length-f;omega,?_⟩;have hrs:rowZ a b e (f+1) (z0w a b b.pre.length e (z,false))=(clrT (rowZ a b e f (z0w a b b.pre.length e (z,false))).1 e f,true):=by rw[rowZ,hst]
     show Wk _ _ [(2,.ref 0 0),(3,.ref 1 0),(5,.vbuf 2 a.pre.length),(9,.pv (.bool (rowZ a b e (f+1) (z0w a b b.pre.length e (z,false))).2)),(66,.pv (i64 a.pre.length)),(67,.pv (i64 e)),(10,.pv (i64 e)),(74,.pv (i64 (lenZ (z0w a b b.pre.length e (z,false)).1 e))),(75,.pv (i64 (f+1)))] 16 (AT a b a.pre.length (rowZ a b e (f+1) (z0w a b b.pre.length e (z,false))).1)
     rw[hrs];have hcl:=colZ_clr (f:=f) (show e<(rowZ a b e f (z0w a b b.pre.length e (z,false))).1.length by rw[hOr.tab.len];exact he')
     (refine Wk.ofN 0 ?_ ?_ rfl rfl rfl ?_<;>repeat' (first|exact trivial|exact WkD.same _|refine WkD.int ?_|refine⟨?_,?_⟩|(apply q0h;(focus simp;done);all_goals (try dsimp only);omega)|fail))
     refine AT_all (g:=_) hn (Nat.le_refl 16) rfl rfl ?_ fun e' hg' => ?_
     ·exact congrArg (fun z=>some (DObj.var z)) (tabC_clr _ a.pre.length e f).symm
     ·show (bif Nat.beq (e'+8) (e+8) then some (DObj.arr 1 ((colZ (rowZ a b e f (z0w a b b.pre.length e (z,false))).1 e).set f (.bool false))) else objsOf (AT a b a.pre.length (rowZ a b e f (z0w a b b.pre.length e (z,false))).1) (e'+8))=_
      by_cases q:e'=e
      ·rw[q,Nat.beq_refl,cond_true,hcl]
      ·rw[z0s (by omega),cond_false,AT_get hg',colZ_cle q]
    ·have hst:stepZ a b e f (rowZ a b e f (z0w a b b.pre.length e (z,false)))=rowZ a b e f (z0w a b b.pre.length e (z,false)):=by
      rw[stepZ,hv,show (bif v then !mtI a b (rowZ a b e f (z0w a b b.pre.length e (z,false))).1 e f else false)=false from h];rfl
     refine⟨⟨f+1,hf'⟩,by show b.pre.length-(f+1)<b.pre.length-f;omega,?_⟩;have hrs:rowZ a b e (f+1) (z0w a b b.pre.length e (z,false))=rowZ a b e f (z0w a b b.pre.length e (z,false)):=by rw[rowZ,hst]
     show Wk _ _ [(2,.ref 0 0),(3,.ref 1 0),(5,.vbuf 2 a.pre.length),(9,.pv (.bool (rowZ a b e (f+1) (z0w a b b.pre.length e (z,false))).2)),(66,.pv (i64 a.pre.length)),(67,.pv (i64 e)),(10,.pv (i64 e)),(74,.pv (i64 (lenZ (z0w a b b.pre.length e (z,false)).1 e))),(75,.pv (i64 (f+1)))] 16 (AT a b a.pre.length (rowZ a b e (f+1) (z0w a b b.pre.length e (z,false))).1)
     rw[hrs]
     (refine Wk.ofN 0 ?_ ?_ rfl rfl rfl ?_<;>repeat' (first|exact trivial|exact WkD.same _|refine WkD.int ?_|refine⟨?_,?_⟩|(apply q0h;(focus simp;done);all_goals (try dsimp only);omega)|fail))
     exact AT_mid hn (Nat.le_refl 16) fun k hk=>rfl
   ·have hf':f=b.pre.length:=by
     have h2:decide ((f:Int)<((lenZ (z0w a b b.pre.length e (z,false)).1 e:Nat):Int))=false:=by assumption
     have:=of_decide_eq_false h2;omega
    subst hf';refine⟨⟨e+1,he'⟩,by show a.pre.length-(e+1)<a.pre.length-e;omega,?_⟩
    (refine Wk.ofN 0 ?_ ?_ rfl rfl rfl ?_<;>repeat' (first|exact trivial|exact WkD.same _|refine WkD.int ?_|refine⟨?_,?_⟩|(apply q0h;(focus simp;done);all_goals (try dsimp only);omega)|fail))
    exact AT_mid hn (Nat.le_refl 16) fun k hk=>rfl
  ·rename_i hch;have hch:ch=true:=hch
   have he':e=a.pre.length:=by
    have h2:decide ((e:Int)<((a.pre.length:Nat):Int))=false:=h;have:=of_decide_eq_false h2;omega
   subst he';have hOn:=hO a.pre.length (Nat.le_refl _);have hst:=alk_step (a:=a) (b:=b) hz;rw[hyR] at hst;generalize hP:z0w a b b.pre.length a.pre.length (z,false)=P at hOn hst;refine⟨⟨P,hOn.tab,fun h=>by rw[hst,h];rfl,fun h=>by rw[hst,h,hOn.no h];rfl⟩,?_,?_⟩
   ·show 2*cntZ P.1 a.pre.length b.pre.length+(bif P.2 then 1 else 0)<2*cntZ z a.pre.length b.pre.length+(bif ch then 1 else 0)
    rw[hch]
    cases h2:P.2 with
    |true=>have:=hOn.yes h2;simp only[cond_true];omega
    |false=>rw[hOn.no h2];simp only[cond_true,cond_false];omega
   ·subst hP
    (refine Wk.ofN 0 ?_ ?_ rfl rfl rfl ?_<;>repeat' (first|exact trivial|exact WkD.same _|refine⟨?_,?_⟩|fail))
    exact AT_mid hn (Nat.le_refl 16) fun k hk=>rfl
 ·have hzR:=hno h
  have htab:tabPV R=.sl ((List.range a.pre.length).map fun e=>.sl (colZ z e)):=by
   rw[<- hzR];exact tabPV_rows hz.len
  rw[htab];refine frz1s_rows (colZ z) (List.range a.pre.length) _ _ (fun e he=>.inl (AT_get (a:=a) (b:=b) (List.mem_range.1 he))) (Nat.zero_le 8) fun L' => ?_
  refine⟨by simp,by simp[PV.one],rfl,.refl _⟩
theorem smp_shp {a:Act} (h:q0v a=0):Shp (smpA a) (smpA a).pre.length:=by
 have hO:=actI_ok h;have e:(smpA a).pre.length=a.pre.length:=by simp[smpA]
 refine⟨rfl,by rw[e];simp[smpA,hO.post],by rw[e];exact hO.n8,by have:=hO.agn;show a.rel.length<=1000;omega,fun r hr => ?_,fun r hr => ?_⟩
 ·rw[e];exact hO.rows r hr
 ·rw[e];exact hO.bits r hr
theorem smpL_len (l:List Asg):(smpL l).length<=l.length:=by
 unfold smpL;exact Nat.le_trans (List.length_filter_le _ _) (by simp)
theorem smp_post {a:Act} (hS:SmX a):∀ l,l∈(smpA a).post->l.length<=1000:=fun l hl=>by
 obtain⟨q,hq,rfl⟩:=List.mem_map.1 hl;exact Nat.le_trans (smpL_len q) (hS.post q hq)
def alkG (a:Act) (e:Int) (b:Act) (f:Int):Int :=
 bif q0v a != 0 then q0v a else bif q0v b != 0 then q0v b else bif ((a.rel.length:Int) != (b.rel.length:Int)) then 1 else
 bif (bif (bif (bif decide (e<0) then true else decide (e>=(a.pre.length:Int))) then true else decide (f<0)) then true else decide (f>=(b.pre.length:Int))) then 6 else 0
def alkT (a b:Act):List (List Bool):=alkI (smpA a) (smpA b) (tab0 (smpA a) (smpA b))
def alikeI (a:Act) (e:Int) (b:Act) (f:Int):Bool:=bif alkG a e b f != 0 then false else zAt (alkT a b) e.toNat f.toNat
def alikeP (a:Act) (e:Int) (b:Act) (f:Int):PV:=.tup [.bool (alikeI a e b f),.int .i64 (alkG a e b f)]
theorem alikeP_no {a b:Act} {e f c:Int} (h:alkG a e b f=c) (hc:(c != 0)=true):alikeP a e b f=.tup [.bool false,.int .i64 c]:=by
 unfold alikeP alikeI;rw[h,hc];rfl
theorem or_ff4 {a b c d:Bool} (h:(bif (bif (bif a then true else b) then true else c) then true else d)=false):a=false/\b=false/\c=false/\d=false:=by
 cases a<;>cases b<;>cases c<;>cases d<;>simp_all
theorem cp_Alike (a b:Act) (hSa:SmX a) (hSb:SmX b) (e f:Int):PureFn Tryz.prog 21 [a.pv,.int .i64 e,b.pv,.int .i64 f] (alikeP a e b f):=by
 have hCa:=cp_check a hSa;have hCb:=cp_check b hSb;have e1:((a.pre.map fpv).length:Int)=(a.pre.length:Int):=by simp
 have e2:((b.pre.map fpv).length:Int)=(b.pre.length:Int):=by simp
 have e3:((a.rel.map q0b).length:Int)=(a.rel.length:Int):=by simp
 have e4:((b.rel.map q0b).length:Int)=(b.rel.length:Int):=by simp
 refine PureFn.introC [4,7,9,11] mixed (fn:=Tryz.f21) rfl rfl rfl fun M w0 => ?_
 try conv=>whnf
 refine⟨{ _x:Unit // q0v a=0 },fun _=>[(1,.pv (.int .i64 e)),(3,.pv (.int .i64 f)),(4,.ref 0 0),(6,.ref 1 0)],fun _=>2,fun _=>[(0,.var (q0c a)),(1,.var (q0c b))],?_,?_⟩
 ·(try conv=>whnf);repeat' (first|((first|apply And.intro|intro h)<;>try conv=>whnf)|(refine PureFn.dy hCa rfl ?_;try conv=>whnf)|fail)
  ·have hg:alkG a e b f=q0v a:=by rw[alkG,show (q0v a != 0)=true from h];rfl
   rw[alikeP_no hg h];exact .refl _
  ·exact⟨⟨(),by simpa using h⟩,(by exact Wk.s rfl)⟩
 rintro⟨_,ha0⟩;have g1:(q0v a != 0)=false:=by simpa using ha0
 refine⟨{ _x:Unit // q0v b=0 },fun _=>[(1,.pv (.int .i64 e)),(3,.pv (.int .i64 f)),(4,.ref 0 0),(6,.ref 1 0)],fun _=>2,fun _=>[(0,.var (q0c a)),(1,.var (q0c b))],?_,?_⟩
 ·(try conv=>whnf);repeat' (first|((first|apply And.intro|intro h)<;>try conv=>whnf)|(refine PureFn.dy hCb rfl ?_;try conv=>whnf)|fail)
  ·have hg:alkG a e b f=q0v b:=by rw[alkG,g1,cond_false,show (q0v b != 0)=true from h];rfl
   rw[alikeP_no hg h];exact .refl _
  ·exact⟨⟨(),by simpa using h⟩,(by exact Wk.s rfl)⟩
 rintro⟨_,hb0⟩;have g2:(q0v b != 0)=false:=by simpa using hb0
 refine⟨{ _x:Unit // a.rel.length=b.rel.length },fun _=>[(1,.pv (.int .i64 e)),(3,.pv (.int .i64 f)),(4,.ref 0 0),(6,.ref 1 0)],fun _=>2,fun _=>[(0,.var (q0c a)),(1,.var (q0c b))],?_,?_⟩
 ·(try conv=>whnf);repeat' (first|((first|apply And.intro|intro h)<;>try conv=>whnf))
  ·have hg:alkG a e b f=1:=by rw[alkG,g1,cond_false,g2,cond_false,<- e3,<- e4,show (((a.rel.map q0b).length:Int) != ((b.rel.map q0b).length:Int))=true from h];rfl
   rw[alikeP_no hg rfl];exact .refl _
  ·refine⟨⟨(),?_⟩,(by exact Wk.s rfl)⟩;have h2:(((a.rel.map q0b).length:Int) != ((b.rel.map q0b).length:Int))=false:=h;rw[e3,e4] at h2;have:(a.rel.length:Int)=b.rel.length:=by simpa using h2
   omega
 rintro⟨_,hr⟩;have g3:((a.rel.length:Int) != (b.rel.length:Int))=false:=by rw[hr];simp
 refine⟨{ _x:Unit // alkG a e b f=0/\0<=e/\e<(a.pre.length:Int)/\0<=f/\f<(b.pre.length:Int) },fun _=>[(1,.pv (.int .i64 e)),(3,.pv (.int .i64 f)),(4,.ref 0 0),(6,.ref 1 0)],fun _=>2,fun _=>[(0,.var (q0c a)),(1,.var (q0c b))],?_,?_⟩
 ·have hgg:alkG a e b f=bif (bif (bif (bif decide (e<0) then true else decide (e>=((a.pre.map fpv).length:Int))) then true else decide (f<0)) then true else decide (f>=((b.pre.map fpv).length:Int))) then 6 else 0:=by
   rw[alkG,g1,cond_false,g2,cond_false,g3,cond_false,e1,e2]
  (try conv=>whnf);repeat' (first|((first|apply And.intro|intro h)<;>try conv=>whnf)|apply True.intro|(apply WhenQ.mk;(try conv=>whnf);rotate_left;(try conv=>whnf);rotate_right)|with_reducible assumption|(apply q0x;with_reducible assumption))
  ·rw[show (bif (bif (bif decide (e<0) then true else decide (e>=((a.pre.map fpv).length:Int))) then true else decide (f<0)) then true else decide (f>=((b.pre.map fpv).length:Int)))=true from h] at hgg;rw[alikeP_no hgg rfl];exact .refl _
  ·rw[show (bif (bif (bif decide (e<0) then true else decide (e>=((a.pre.map fpv).length:Int))) then true else decide (f<0)) then true else decide (f>=((b.pre.map fpv).length:Int)))=false from h] at hgg;obtain⟨q1,q2,q3,q4⟩:=or_ff4 (show (bif (bif (bif decide (e<0) then true else decide (e>=((a.pre.map fpv).length:Int))) then true else decide (f<0)) then true else decide (f>=((b.pre.map fpv).length:Int)))=false from h);have:=of_decide_eq_false q1;have:=of_decide_eq_false q2;have:=of_decide_eq_false q3;have:=of_decide_eq_false q4;exact⟨⟨(),hgg,by omega,by omega,by omega,by omega⟩,(by exact Wk.s rfl)⟩
 rintro⟨_,h0,he0,he1,hf0,hf1⟩;obtain⟨en,rfl⟩:∃ en:Nat,e=en:=⟨e.toNat,by omega⟩;obtain⟨fn,rfl⟩:∃ fn:Nat,f=fn:=⟨f.toNat,by omega⟩;have hsa:(smpA a).pre.length=a.pre.length:=by simp[smpA]
 have hsb:(smpA b).pre.length=b.pre.length:=by simp[smpA]
 have hA:=smp_shp ha0;have hB:=smp_shp hb0;have n1:=(actI_ok ha0).n1;have hSm1:=cp_simple a ha0;have hSm2:=cp_simple b hb0;have hAl:=cp_alike (smpA a) (smpA b) hA hB hr (smp_post hSa) (by rw[hsa];omega)
 have hT:Tab (alkI (smpA a) (smpA b) (tab0 (smpA a) (smpA b))) a.pre.length b.pre.length:=by
  rw[<- hsa,<- hsb];exact alk_tab _ _
 obtain⟨t1,t2⟩:=hT.at (by omega:en<a.pre.length) (by omega:fn<b.pre.length)
 have hP:alikeP a en b fn=.tup [.bool (zAt (alkI (smpA a) (smpA b) (tab0 (smpA a) (smpA b))) en fn),.int .i64 0]:=by
  unfold alikeP alikeI alkT;rw[h0];simp only[Int.toNat_natCast];rfl
 rw[hP];have i1:=q0a (g:=rowB) t1;have i2:=q0a (g:=PV.bool) t2;generalize zAt (alkI (smpA a) (smpA b) (tab0 (smpA a) (smpA b))) en fn=v at *;generalize (alkI (smpA a) (smpA b) (tab0 (smpA a) (smpA b)))=T at *;generalize smpA a=sa at *;generalize smpA b=sb at *
 (try conv=>whnf);repeat' (first|(apply And.intro<;>try conv=>whnf)|(apply q0i;rfl)|(refine q0w (by kernel_rfl) ?_;try conv=>whnf)|(refine⟨_,_,rfl,q0a (by with_reducible assumption),rfl,?_⟩;try conv=>whnf)|(refine⟨_,(by (conv=>whnf);exact hSm1),rfl,?_⟩;try conv=>whnf)|(refine⟨_,(by (conv=>whnf);exact hSm2),rfl,?_⟩;try conv=>whnf)|(refine⟨_,(by (conv=>whnf);exact hAl),rfl,?_⟩;try conv=>whnf)|fail)
 exact .refl _
def ffF:List Nd:=q0d (n0 2) []
def evtL (s:Act):List Nat:=(List.range s.pre.length).filter fun e=>!same (s.pre.getD e []) ffF
def fsN (Z:List (List Bool)) (e:Nat):Nat:=(Z.getD e []).idxOf true
def keptL (Z:List (List Bool)) (n:Nat):List Nat:=(List.range n).filter fun e=>fsN Z e==e
def plN (Z:List (List Bool)) (n e:Nat):Nat:=(keptL Z n).idxOf (fsN Z e)
def stepQ (r:List Nat) (pl:Nat->Nat) (e f:Nat) (q:List Nat):List Nat:=q.set (pl e) (bif (r.getD e 0).testBit f then q.getD (pl e) 0 |||2^pl f else q.getD (pl e) 0)
def rowQ (r:List Nat) (pl:Nat->Nat) (e:Nat):Nat->List Nat->List Nat
 |0,q=>q
 |k+1,q=>stepQ r pl e k (rowQ r pl e k q)
def allQ (r:List Nat) (pl:Nat->Nat) (n:Nat):Nat->List Nat->List Nat
 |0,q=>q
 |k+1,q=>rowQ r pl k n (allQ r pl n k q)
def relQ (Z:List (List Bool)) (n:Nat) (r:List Nat):List Nat:=allQ r (plN Z n) n n (List.replicate (keptL Z n).length 0)
def sfB (k:Act) (Z:List (List Bool)) (n:Nat):Act:=⟨(keptL Z n).map fun e=>k.pre.getD e [],(keptL Z n).map fun e=>k.post.getD e [],k.rel.map (relQ Z n)⟩
def sfN (evs:List Nat) (Z:List (List Bool)) (e:Nat):Int:=if e∈evs then (plN Z evs.length (evs.idxOf e):Int) else -1
def sfK (a:Act):Act:=keepA (smpA a) (evtL (smpA a))
def sfZ (a:Act):List (List Bool):=alkI (sfK a) (sfK a) (tab0 (sfK a) (sfK a))
def sfyI (a:Act):Act×List Int×Int :=
 bif q0v a != 0 then (noAct,[],q0v a) else bif ((evtL (smpA a)).length:Int)==0 then (noAct,[],11) else
 (sfB (sfK a) (sfZ a) (evtL (smpA a)).length,(List.range a.pre.length).map (sfN (evtL (smpA a)) (sfZ a)),0)
def intI (z:Int):PV:=.int .i64 z
def sfP (x:Act×List Int×Int):PV:=.tup [x.1.pv,.sl (x.2.1.map intI),.int .i64 x.2.2]
def Firsts (Z:List (List Bool)) (n:Nat):Prop:=∀ e,e<n->fsN Z e<n/\fsN Z (fsN Z e)=fsN Z e
theorem Firsts.mem {Z:List (List Bool)} {n e:Nat} (h:Firsts Z n) (he:e<n):fsN Z e∈keptL Z n:=by
 rw[keptL,List.mem_filter,List.mem_range];obtain⟨h1,h2⟩:=h e he;exact⟨h1,by rw[h2];simp⟩
theorem Firsts.pl {Z:List (List Bool)} {n e:Nat} (h:Firsts Z n) (he:e<n):plN Z n e<(keptL Z n).length:=List.idxOf_lt_length_iff.2 (h.mem he)
theorem kept_len (Z:List (List Bool)) (n:Nat):(keptL Z n).length<=n:=by
 unfold keptL;exact Nat.le_trans (List.length_filter_le _ _) (by simp)
theorem kept_mem {Z:List (List Bool)} {n e:Nat} (h:e∈keptL Z n):e<n:=by
 rw[keptL,List.mem_filter,List.mem_range] at h;exact h.1
theorem evtL_mem {s:Act} {e:Nat} (h:e∈evtL s):e<s.pre.length:=by
 rw[evtL,List.mem_filter,List.mem_range] at h;exact h.1
theorem evtL_len (s:Act):(evtL s).length<=s.pre.length:=by
 unfold evtL;exact Nat.le_trans (List.length_filter_le _ _) (by simp)
theorem filt_snoc {p:Nat->Bool} (n:Nat):(List.range (n+1)).filter p=bif p n then (List.range n).filter p++[n] else (List.range n).filter p:=by
 rw[List.range_succ,List.filter_append]
 cases h:p n with
 |true=>simp[h]
 |false=>simp[h]
theorem stepQ_len (r:List Nat) (pl:Nat->Nat) (e f:Nat) (q:List Nat):(stepQ r pl e f q).length=q.length:=by simp[stepQ]
theorem rowQ_len (r:List Nat) (pl:Nat->Nat) (e:Nat):∀ (k:Nat) (q:List Nat),(rowQ r pl e k q).length=q.length
 |0,_=>rfl
 |k+1,q=>by rw[rowQ,stepQ_len,rowQ_len r pl e k q]
theorem allQ_len (r:List Nat) (pl:Nat->Nat) (n:Nat):∀ (k:Nat) (q:List Nat),(allQ r pl n k q).length=q.length
 |0,_=>rfl
 |k+1,q=>by rw[allQ,rowQ_len,allQ_len r pl n k q]
def Und8 (q:List Nat):Prop:=∀ s,s∈q->s<2^8
theorem Und8.get {q:List Nat} (h:Und8 q) (i:Nat):q.getD i 0<2^8:=by
 rw[List.getD_eq_getElem?_getD]
 by_cases hi:i<q.length
 ·rw[List.getElem?_eq_getElem hi];exact h _ (List.getElem_mem hi)
 ·rw[List.getElem?_eq_none (by omega)];exact Nat.two_pow_pos 8
theorem stepQ_und {r:List Nat} {pl:Nat->Nat} {e f:Nat} {q:List Nat} (h:Und8 q) (hf:pl f<8):Und8 (stepQ r pl e f q):=fun s hs=>by
 rcases List.mem_or_eq_of_mem_set hs with hs|rfl
 ·exact h s hs
 ·have:=h.get (pl e)
  cases (r.getD e 0).testBit f with
  |true=>exact Nat.or_lt_two_pow this (Nat.pow_lt_pow_right (by decide) hf)
  |false=>exact this
theorem rowQ_und {r:List Nat} {pl:Nat->Nat} {e:Nat}:∀ {k:Nat} {q:List Nat},Und8 q->(∀ f,f<k->pl f<8)->Und8 (rowQ r pl e k q)
 |0,_,h,_=>h
 |k+1,_,h,hf=>stepQ_und (rowQ_und h fun f hk=>hf f (by omega)) (hf k (by omega))
theorem allQ_und {r:List Nat} {pl:Nat->Nat} {n:Nat}:∀ {k:Nat} {q:List Nat},Und8 q->(∀ f,f<n->pl f<8)->Und8 (allQ r pl n k q)
 |0,_,h,_=>h
 |_+1,_,h,hf=>rowQ_und (allQ_und h hf) hf
theorem zer_und (m:Nat):Und8 (List.replicate m 0):=fun s hs=>by rw[List.eq_of_mem_replicate hs];decide
theorem or_place {x s f p:Nat} (hx:x<2^8) (hs:s<2^64) (hf:f<64) (hp:p<8):orU (x:Nat) (shlU (andU (shrU (s:Nat) (f:Nat)) 1) (p:Nat))=((bif s.testBit f then x |||2^p else x:Nat):Int):=by
 rw[bit_and s f hs hf];have h1:x<2^64:=Nat.lt_of_lt_of_le hx (by decide)
 cases h:s.testBit f with
 |true =>
  rw[if_pos rfl,shlU_one (by omega),orU_nat h1 (Nat.pow_lt_pow_right (by decide) (by omega))];rfl
 |false =>
  rw[if_neg (by decide),show shlU 0 (p:Nat)=((0:Nat):Int) by show IntKind.wrap .u64 (0*_)=0;rw[Int.zero_mul];rfl,orU_nat h1 (by decide),Nat.or_zero];rfl
theorem idxN_first {y:Nat}:∀ {l:List Nat} {i:Nat},l[i]? = some y->y∉l.take i->l.idxOf y=i
 | [],i,h,_=>by simp at h
 |a::r,0,h,_=>by
  have:a=y:=by simpa using h
  subst this;simp
 |a::r,i+1,h,hn=>by
  have h1:r[i]? = some y:=by simpa using h
  have h2:y∉a::r.take i:=by simpa using hn
  have h3:a≠y:=fun e=>h2 (by simp[e])
  have ih:=idxN_first h1 (fun h=>h2 (by simp[h]))
  rw[List.idxOf_cons,show (a==y)=false by simpa using h3,cond_false,ih]
def ixN (l:List Nat) (y:Nat):Int:=if y∈l then (l.idxOf y:Int) else -1
theorem sl_IndexN (l:List Nat) (y:Nat) (hl:l.length<=1000):PureFn Tryz.prog 58 [.sl (l.map i64),i64 y] (.int .i64 (ixN l y)):=by
 refine PureFn.intro mixed (fn:=Tryz.f58) rfl rfl rfl fun M w0 => ?_
 try conv=>whnf
 refine⟨{ i:Nat // i<=l.length/\y∉l.take i },fun i=>[(0,.pv (.sl (l.map i64))),(1,.pv (i64 y)),(7,.pv (i64 (l.map i64).length)),(8,.pv (i64 i.1))],fun _=>0,fun _=>[],fun i=>l.length-i.1,⟨⟨0,Nat.zero_le _,by simp⟩,(by exact Wk.s rfl)⟩,?_⟩;rintro⟨i,hi,hn⟩
 (try conv=>whnf);repeat' (first|((first|apply And.intro|intro h)<;>try conv=>whnf)|(apply q0i;rfl))
 ·have hi':i<l.length:=by simpa using q0j h
  have hm:l[i]? = some l[i]:=List.getElem?_eq_getElem hi';refine⟨_,_,rfl,q0a hm,rfl,?_⟩
  (try conv=>whnf);repeat' (first|((first|apply And.intro|intro h)<;>try conv=>whnf))
  ·have he:y=l[i]:=by
                have:(y:Int)=(l[i]:Nat):=by simpa using h
                omega
   rw[ixN,if_pos (by rw[he];exact List.getElem_mem hi'),idxN_first (by rw[hm,he]) hn];exact .refl _
  ·have he:y≠l[i]:=fun e=>by
    have:¬ (y:Int)=(l[i]:Nat):=by simpa using h
    omega
   refine⟨⟨i+1,hi',?_⟩,by show l.length-(i+1)<l.length-i;omega,(by refine Wk.of ?_ ?_ rfl rfl rfl<;>repeat' (first|exact trivial|exact WkD.same _|refine WkD.int ?_|refine⟨?_,?_⟩|(apply q0h;(focus simp;done);all_goals (try dsimp only);omega)|fail))⟩;rw[List.take_succ_eq_append_getElem hi',List.mem_append,not_or];exact⟨hn,fun h=>he (List.mem_singleton.1 h)⟩
 ·have hi':i=l.length:=by have:=q0k (m:=(l.map i64).length) h (by simpa using hi);simpa using this
  subst hi';rw[List.take_length] at hn;rw[ixN,if_neg hn];exact .refl _
def ixB (r:List Bool):Int:=if true∈r then (r.idxOf true:Int) else -1
theorem idxB_first:∀ {l:List Bool} {i:Nat},l[i]? = some true->true∉l.take i->l.idxOf true=i
 | [],i,h,_=>by simp at h
 |a::r,0,h,_=>by
  have:a=true:=by simpa using h
  subst this;simp
 |a::r,i+1,h,hn=>by
  have h1:r[i]? = some true:=by simpa using h
  have h2:true∉a::r.take i:=by simpa using hn
  have h3:a=false:=by cases a with
   |true=>exact absurd (by simp) h2
   |false=>rfl
  subst h3;have ih:=idxB_first h1 (fun h=>h2 (by simp[h]))
  rw[List.idxOf_cons,show (false==true)=false from rfl,cond_false,ih]
theorem sl_IndexB (l:List Bool) (hl:l.length<=1000):PureFn Tryz.prog 56 [rowB l,.bool true] (.int .i64 (ixB l)):=by
 refine PureFn.intro mixed (fn:=Tryz.f56) rfl rfl rfl fun M w0 => ?_
 try conv=>whnf
 refine⟨{ i:Nat // i<=l.length/\true∉l.take i },fun i=>[(0,.pv (rowB l)),(1,.pv (.bool true)),(7,.pv (i64 (l.map PV.bool).length)),(8,.pv (i64 i.1))],fun _=>0,fun _=>[],fun i=>l.length-i.1,⟨⟨0,Nat.zero_le _,by simp⟩,(by exact Wk.s rfl)⟩,?_⟩;rintro⟨i,hi,hn⟩
 (try conv=>whnf);repeat' (first|((first|apply And.intro|intro h)<;>try conv=>whnf)|(apply q0i;rfl))
 ·have hi':i<l.length:=by simpa using q0j h
  have hm:l[i]? = some l[i]:=List.getElem?_eq_getElem hi';refine⟨_,_,rfl,q0a hm,rfl,?_⟩
  (try conv=>whnf);repeat' (first|((first|apply And.intro|intro h)<;>try conv=>whnf))
  ·have he:l[i]=true:=by
                 have h2:((true:Bool)==l[i])=true:=h
                 cases hq:l[i] with
                 |true=>rfl
                 |false=>rw[hq] at h2;cases h2
   rw[ixB,if_pos (by rw[<- he];exact List.getElem_mem hi'),idxB_first (by rw[hm,he]) hn];exact .refl _
  ·have he:l[i]=false:=by
                  have h2:((true:Bool)==l[i])=false:=h
                  cases hq:l[i] with
                  |true=>rw[hq] at h2;cases h2
                  |false=>rfl
   refine⟨⟨i+1,hi',?_⟩,by show l.length-(i+1)<l.length-i;omega,(by refine Wk.of ?_ ?_ rfl rfl rfl<;>repeat' (first|exact trivial|exact WkD.same _|refine WkD.int ?_|refine⟨?_,?_⟩|(apply q0h;(focus simp;done);all_goals (try dsimp only);omega)|fail))⟩;rw[List.take_succ_eq_append_getElem hi',List.mem_append,not_or];exact⟨hn,fun h=>by have:=List.mem_singleton.1 h;rw[he] at this;cases this⟩
 ·have hi':i=l.length:=by have:=q0k (m:=(l.map PV.bool).length) h (by simpa using hi);simpa using this
  subst hi';rw[List.take_length] at hn;rw[ixB,if_neg hn];exact .refl _
def HPl (a k:Act) (fl kl:List Nat):List (Nat×DObj):=[(0,.var (q0c a)),(1,.var cellsZ),(2,.var (q0c k)),(4,.var [.pv (q0z fl)]),(5,.var [.pv (q0z kl)])]
theorem clo_place {M:Nat->Prop} {w0:W0} (a k:Act) (fl kl:List Nat) (e v:Nat) (he:fl[e]? = some v) (hv:v∈kl) (hl:kl.length<=1000) (base:Nat) (K:DV->DH->Prop) (hK:K (.pv (i64 (kl.idxOf v))) ⟨6,0,base,objsOf (HPl a k fl kl)⟩) :
  DC Tryz.prog M w0 57 [.pv (i64 e),.ref 5 0,.ref 4 0] ⟨6,0,base,objsOf (HPl a k fl kl)⟩ K:=by
 have hI:=sl_IndexN kl v hl;rw[ixN,if_pos hv] at hI;have i1:=q0a (g:=i64) he;generalize kl.idxOf v=j at hI hK;refine DC.weaken (DC.intro mixed (fn:=Tryz.f57) rfl rfl rfl ?_)
 (try conv=>whnf);repeat' (first|(apply And.intro<;>try conv=>whnf)|(apply q0i;rfl)|(refine q0w (by kernel_rfl) ?_;try conv=>whnf)|(refine⟨_,_,rfl,q0a (by with_reducible assumption),rfl,?_⟩;try conv=>whnf)|(refine⟨_,(by (conv=>whnf);exact hI),rfl,?_⟩;try conv=>whnf)|fail)
 exact⟨.pv (i64 j),6,HPl a k fl kl,(by exact Wk.s rfl),hK⟩
set_option maxHeartbeats 8000000
def Plan.pre:List Nat->Plan->Plan
 | [],p=>p
 |i::r,p=>.one i (Plan.pre r p)
def planQ:Plan:=Plan.pre [0,1,2,6,7,8,9,10,11,3] (.two 4 (.two 5 (Plan.ofL [12,13,14,15,16]) 12 (Plan.ofL [13,5,14,15,16])) 12 (Plan.ofL [13,4,5,14,15,16]))
theorem keep_shp {s:Act} {n:Nat} (hS:Shp s n) (ws:List Nat) (hl:ws.length<=8):Shp (keepA s ws) ws.length:=by
 refine⟨by simp[keepA],by simp[keepA],hl,by show (s.rel.map _).length<=1000;rw[List.length_map];exact hS.ag,fun r hr => ?_,fun r hr x hx => ?_⟩
 ·obtain⟨r0,_,rfl⟩:=List.mem_map.1 hr;simp
 ·obtain⟨r0,_,rfl⟩:=List.mem_map.1 hr;obtain⟨w,_,rfl⟩:=List.mem_map.1 hx;exact maskOf_lt _ _
theorem keep_post {s:Act} {ws:List Nat} (h:∀ l,l∈s.post->l.length<=1000):∀ l,l∈(keepA s ws).post->l.length<=1000:=fun l hl=>by
 obtain⟨w,_,rfl⟩:=List.mem_map.1 hl;rw[List.getD_eq_getElem?_getD]
 by_cases hw:w<s.post.length
 ·rw[List.getElem?_eq_getElem hw];exact h _ (List.getElem_mem hw)
 ·rw[List.getElem?_eq_none (by omega)];exact Nat.zero_le _
theorem le_sfNo (c:Int):PLe (.tup [.agg [.nil,.nil,.nil],.nil,.int .i64 c]) (sfP (noAct,[],c)):=PLe.tups ⟨PLe.aggs ⟨.nil,.nil,.nil,trivial⟩,.nil,.refl _,trivial⟩
theorem cp_Simplify (a:Act) (hSa:SmX a) (hFs:q0v a=0->Firsts (sfZ a) (evtL (smpA a)).length):PureFn Tryz.prog 17 [a.pv] (sfP (sfyI a)):=by
 have hCa:=cp_check a hSa;refine PureFn.introC [4,12,14,15,16,17,22,25,32,36,45,47,54,56] mixed (fn:=Tryz.f17) rfl rfl rfl fun M w0 => ?_
 try conv=>whnf
 refine⟨{ _x:Unit // q0v a=0 },fun _=>[(1,.ref 0 0),(2,.ref 1 0)],fun _=>2,fun _=>[(0,.var (q0c a)),(1,.var cellsZ)],?_,?_⟩
 ·(try conv=>whnf);repeat' (first|((first|apply And.intro|intro h)<;>try conv=>whnf)|(refine PureFn.dy hCa rfl ?_;try conv=>whnf)|fail)
  ·rw[sfyI,show (q0v a != 0)=true from h];exact le_sfNo _
  ·exact⟨⟨(),by simpa using h⟩,(by exact Wk.s rfl)⟩
 rintro⟨_,ha0⟩;have g1:(q0v a != 0)=false:=by simpa using ha0
 have hsa:(smpA a).pre.length=a.pre.length:=by simp[smpA]
 have hS:=smp_shp ha0;have hSp:=smp_post hSa;have hSm:=cp_simple a ha0;have hF:=hFs ha0;have hn8:a.pre.length<=8:=(actI_ok ha0).n8;rw[sfyI,g1,cond_false];unfold sfZ sfK;unfold sfZ sfK at hF;generalize smpA a=s at *;have hel:=evtL_len s;have hev8:(evtL s).length<=8:=by omega
 obtain⟨evs,hevs⟩:∃ evs,evs=evtL s:=⟨_,rfl⟩;have hem:∀ w,w∈evs->w<s.pre.length:=fun w h=>evtL_mem (by rw[<- hevs];exact h)
 rw[<- hevs] at hev8 hF |-
 (try conv=>whnf);repeat' (first|(refine PureFn.dy hSm rfl ?_;try conv=>whnf)|fail)
 refine⟨Unit,fun _=>[(1,.ref 0 0),(2,.ref 1 0),(6,.ref 2 0),(7,.pv (q0z evs))],fun _=>3,fun _=>[(0,.var (q0c a)),(1,.var cellsZ),(2,.var (q0c s))],?_,?_⟩
 ·try conv=>whnf
  refine⟨{ i:Nat // i<=s.pre.length },fun i=>[(1,.ref 0 0),(2,.ref 1 0),(6,.ref 2 0),(7,.buf 3 (((List.range i.1).filter fun e=>!same (s.pre.getD e []) ffF).map i64).length),(36,.pv (.sl (s.pre.map fpv))),(37,.pv (i64 (s.pre.map fpv).length)),(38,.pv (i64 i.1))],fun _=>4,fun i=>[(0,.var (q0c a)),(1,.var cellsZ),(2,.var (q0c s)),(3,.arr 1 (((List.range i.1).filter fun e=>!same (s.pre.getD e []) ffF).map i64))],fun i=>s.pre.length-i.1,⟨⟨0,Nat.zero_le _⟩,(by refine Wk.of ?_ ?_ rfl rfl rfl<;>repeat' (first|exact trivial|exact WkD.same _|exact WkO.same _ _ rfl|exact WkD.new' rfl rfl rfl|exact WkO.new _ _ rfl|exact rfl|refine⟨?_,?_⟩|fail))⟩,?_⟩;rintro⟨i,hi⟩
  (try conv=>whnf);repeat' (first|((first|apply And.intro|intro h)<;>try conv=>whnf)|(apply q0i;rfl))
  ·have hi':i<s.pre.length:=by simpa using q0j h
   have hx:s.pre[i]? = some (s.pre.getD i []):=q0f hi';have hsn:=filt_snoc (p:=fun e=>!same (s.pre.getD e []) ffF) i;have hS2:=fm_Same (s.pre.getD i []) ffF;have hFf:PureFn Tryz.prog 53 [] (fpv ffF):=fm_False
   have hlf:(((List.range i).filter fun e=>!same (s.pre.getD e []) ffF).map i64).length<=1000:=by
    rw[List.length_map];exact Nat.le_trans (List.length_filter_le _ _) (by rw[List.length_range];omega)
   generalize same (s.pre.getD i []) ffF=sb at hS2 hsn;refine⟨_,_,rfl,q0a hx,rfl,?_⟩
   (try conv=>whnf);repeat' (first|((first|apply And.intro|intro h)<;>try conv=>whnf)|(apply q0p;rfl)|(apply szI;rfl)|(refine PureFn.dy hFf rfl ?_;try conv=>whnf)|(refine PureFn.dy hS2 rfl ?_;try conv=>whnf)|fail)
   ·exact z0l (n:=1000) hlf (by decide)
   ·rw[show (!sb)=true from h,cond_true] at hsn;have hm:((List.range i).filter fun e=>!same (s.pre.getD e []) ffF).map i64++[i64 i]=((List.range (i+1)).filter fun e=>!same (s.pre.getD e []) ffF).map i64:=by rw[hsn,List.map_append];rfl
    refine⟨⟨i+1,hi'⟩,by show s.pre.length-(i+1)<s.pre.length-i;omega,?_⟩
    (refine Wk.of ?_ ?_ rfl rfl rfl<;>repeat' (first|exact trivial|exact WkD.same _|exact WkO.same _ _ rfl|exact WkD.eq (congrArg (fun z:List PV=>DV.buf _ z.length) hm)|exact WkO.same _ _ (congrArg (fun z=>some (DObj.arr _ z)) hm)|refine WkD.int ?_|refine⟨?_,?_⟩|(apply q0h;(focus simp;done);all_goals (try dsimp only);omega)|fail))
   ·rw[show (!sb)=false from h,cond_false] at hsn;have hm:((List.range i).filter fun e=>!same (s.pre.getD e []) ffF).map i64=((List.range (i+1)).filter fun e=>!same (s.pre.getD e []) ffF).map i64:=by rw[hsn]
    refine⟨⟨i+1,hi'⟩,by show s.pre.length-(i+1)<s.pre.length-i;omega,?_⟩
    (refine Wk.of ?_ ?_ rfl rfl rfl<;>repeat' (first|exact trivial|exact WkD.same _|exact WkO.same _ _ rfl|exact WkD.eq (congrArg (fun z:List PV=>DV.buf _ z.length) hm)|exact WkO.same _ _ (congrArg (fun z=>some (DObj.arr _ z)) hm)|refine WkD.int ?_|refine⟨?_,?_⟩|(apply q0h;(focus simp;done);all_goals (try dsimp only);omega)|fail))
  ·have hi':i=s.pre.length:=by have:=q0k (m:=(s.pre.map fpv).length) h (by simpa using hi);simpa using this
   subst hi';rw[hevs];exact⟨(),(by refine Wk.of ?_ ?_ rfl rfl rfl<;>repeat' (first|exact trivial|exact WkD.same _|exact WkO.same _ _ rfl|exact WkD.fz _ _ _ rfl (Or.inl ⟨_,rfl⟩) rfl|refine⟨?_,?_⟩|fail))⟩
 rintro⟨⟩;have e1:((evs.map i64).length:Int)=(evs.length:Int):=by simp
 refine⟨{ _x:Unit // 0<evs.length },fun _=>[(1,.ref 0 0),(2,.ref 1 0),(6,.ref 2 0),(7,.pv (q0z evs))],fun _=>3,fun _=>[(0,.var (q0c a)),(1,.var cellsZ),(2,.var (q0c s))],?_,?_⟩
 ·(try conv=>whnf);repeat' (first|((first|apply And.intro|intro h)<;>try conv=>whnf))
  ·rw[show ((evs.length:Int)==0)=true by rw[<- e1];exact h];exact le_sfNo _
  ·refine⟨⟨(),?_⟩,(by exact Wk.s rfl)⟩;have h2:(((evs.map i64).length:Int)==0)=false:=h;rw[e1] at h2;have:¬ (evs.length:Int)=0:=by simpa using h2
   omega
 rintro⟨_,hpos⟩
 have e0:((evs.length:Int)==0)=false:=by
  have:¬ (evs.length:Int)=0:=by omega
  simpa using this
 rw[e0,cond_false];have hKp:=cp_keep s s.pre.length hS evs hem hev8;have hK:=keep_shp hS evs hev8;have hKpo:=keep_post (ws:=evs) hSp;have hkp:(keepA s evs).pre.length=evs.length:=hK.pre;clear e0 e1;generalize keepA s evs=k at *;have hK2:Shp k k.pre.length:=by rw[hkp];exact hK
 have hAl:=cp_alike k k hK2 hK2 rfl hKpo (by omega)
 have hTb:Tab (alkI k k (tab0 k k)) evs.length evs.length:=by
  have:=alk_tab k k
  rwa [hkp] at this
 refine⟨Unit,fun _=>[(1,.ref 0 0),(2,.ref 1 0),(6,.ref 2 0),(7,.pv (q0z evs))],fun _=>3,fun _=>[(0,.var (q0c a)),(1,.var cellsZ),(2,.var (q0c k))],?_,?_⟩
 ·(try conv=>whnf);repeat' (first|(refine PureFn.dy hKp rfl ?_;try conv=>whnf)|fail)
  exact⟨(),(by exact Wk.s rfl)⟩
 rintro⟨⟩;generalize alkI k k (tab0 k k)=Z at *;refine⟨Unit,fun _=>[(1,.ref 0 0),(2,.ref 1 0),(6,.ref 2 0),(7,.pv (q0z evs)),(10,.pv (tabPV Z))],fun _=>3,fun _=>[(0,.var (q0c a)),(1,.var cellsZ),(2,.var (q0c k))],?_,?_⟩
 ·(try conv=>whnf);repeat' (first|(refine PureFn.dy hAl rfl ?_;try conv=>whnf)|fail)
  exact⟨(),(by exact Wk.s rfl)⟩
 rintro⟨⟩;have hN:((evs.map i64).length:Int).toNat=evs.length:=by rw[List.length_map];rfl
 have hz1:List.replicate ((evs.map i64).length:Int).toNat (PV.int .i64 0)=mixV evs.length (fun e=>i64 (fsN Z e)) (fun _=>i64 0) 0:=by rw[hN];exact mixV_rep _ _ _
 have hbig:((evs.map i64).length:Int)<=(big:Int):=by
  show ((evs.map i64).length:Int)<=4294967296
  rw[List.length_map];omega
 have hml:=mixV_len evs.length (fun e=>i64 (fsN Z e)) (fun _=>i64 0);refine⟨Unit,fun _=>[(1,.ref 0 0),(2,.ref 1 0),(6,.ref 2 0),(7,.pv (q0z evs)),(10,.pv (tabPV Z)),(11,.ref 4 0)],fun _=>5,fun _=>[(0,.var (q0c a)),(1,.var cellsZ),(2,.var (q0c k)),(3,.arr 1 (mixV evs.length (fun e=>i64 (fsN Z e)) (fun _=>i64 0) 0)),(4,.var [.buf 3 (mixV evs.length (fun e=>i64 (fsN Z e)) (fun _=>i64 0) 0).length])],?_,?_⟩
 ·(try conv=>whnf);repeat' (first|(apply And.intro<;>try conv=>whnf)|(apply Or.inl;try conv=>whnf)|fail)
  ·rfl
  ·exact Int.natCast_nonneg _
  ·exact hbig
  refine⟨(),?_⟩
  (refine Wk.of ?_ ?_ rfl rfl rfl<;>repeat' (first|exact trivial|exact WkD.same _|exact WkO.same _ _ rfl|exact WkD.eq (congrArg (fun z:List PV=>DV.buf _ z.length) hz1)|exact WkO.same _ _ (congrArg (fun z=>some (DObj.arr _ z)) hz1)|refine WkO.vars rfl ?_|refine⟨?_,?_⟩|fail))
 rintro⟨⟩;clear hz1 hN hbig;obtain⟨fl,hfl⟩:∃ fl:List Nat,fl=(List.range evs.length).map (fsN Z):=⟨_,rfl⟩;obtain⟨kl,hkl0⟩:∃ kl:List Nat,kl=keptL Z evs.length:=⟨_,rfl⟩;have hfm:mixV evs.length (fun e=>i64 (fsN Z e)) (fun _=>i64 0) evs.length=fl.map i64:=by rw[mixV_full,hfl,List.map_map];rfl
 try conv=>whnf
 refine⟨Unit,fun _=>[(1,.ref 0 0),(2,.ref 1 0),(6,.ref 2 0),(7,.pv (q0z evs)),(11,.ref 4 0),(12,.ref 5 0)],fun _=>6,fun _=>[(0,.var (q0c a)),(1,.var cellsZ),(2,.var (q0c k)),(4,.var [.pv (.sl (mixV evs.length (fun e=>i64 (fsN Z e)) (fun _=>i64 0) evs.length))]),(5,.var [.pv (.sl ((keptL Z evs.length).map i64))])],?_,?_⟩
 ·try conv=>whnf
  refine⟨{ e:Nat // e<=evs.length },fun e=>[(1,.ref 0 0),(2,.ref 1 0),(6,.ref 2 0),(7,.pv (q0z evs)),(10,.pv (tabPV Z)),(11,.ref 4 0),(12,.ref 5 0),(66,.pv (i64 evs.length)),(67,.pv (i64 e.1))],fun _=>7,fun e=>[(0,.var (q0c a)),(1,.var cellsZ),(2,.var (q0c k)),(3,.arr 1 (mixV evs.length (fun e=>i64 (fsN Z e)) (fun _=>i64 0) e.1)),(4,.var [.buf 3 (mixV evs.length (fun e=>i64 (fsN Z e)) (fun _=>i64 0) e.1).length]),(5,.var [.buf 6 ((keptL Z e.1).map i64).length]),(6,.arr 1 ((keptL Z e.1).map i64))],fun e=>evs.length-e.1,⟨⟨0,Nat.zero_le _⟩,?_⟩,?_⟩
  ·(refine Wk.of ?_ ?_ rfl rfl rfl<;>repeat' (first|exact trivial|exact WkD.same _|exact WkO.same _ _ rfl|refine WkD.int ?_|exact WkD.new' rfl rfl rfl|exact WkO.new _ _ rfl|refine WkO.vars rfl ?_|exact rfl|refine⟨?_,?_⟩|fail))
   exact congrArg (fun z:Nat=>(z:Int)) (hml 0)
  rintro⟨e,he⟩;have hme:=hml e;have hme1:=hml (e+1)
  (try conv=>whnf);repeat' (first|((first|apply And.intro|intro h)<;>try conv=>whnf))
  ·have he':e<evs.length:=by
    have h2:decide ((e:Int)<((evs.length:Nat):Int))=true:=by assumption
    have:=of_decide_eq_true h2;omega
   obtain⟨f1,f2⟩:=hF e he';have hrow:Z[e]? = some (Z.getD e []):=q0f (by rw[hTb.len];exact he');have hrl:=hTb.row _ (List.mem_iff_getElem?.2 ⟨_,hrow⟩);have hIx:=sl_IndexB (Z.getD e []) (by omega);have htr:true∈Z.getD e []:=List.idxOf_lt_length_iff.1 (by rw[hrl];exact f1);rw[ixB,if_pos htr] at hIx;have hIx:PureFn Tryz.prog 56 [rowB (Z.getD e []),.bool true] (i64 (fsN Z e)):=hIx;have hst:=mixV_set (n:=evs.length) (p:=fun e=>i64 (fsN Z e)) (q:=fun _=>i64 0) (e:=e);have hnew:=mixV_new (n:=evs.length) (p:=fun e=>i64 (fsN Z e)) (q:=fun _=>i64 0) (e:=e+1) he' (Nat.lt_succ_self e);have hsn:keptL Z (e+1)=bif fsN Z e==e then keptL Z e++[e] else keptL Z e:=filt_snoc (p:=fun e=>fsN Z e==e) e
   have hlk:((keptL Z e).map i64).length<=1000:=by
    have:=kept_len Z e;rw[List.length_map];omega
   have hix:=q0a (g:=rowB) hrow;generalize Z.getD e []=row at hIx hix hrow;refine⟨Unit,fun _=>[(1,.ref 0 0),(2,.ref 1 0),(6,.ref 2 0),(7,.pv (q0z evs)),(10,.pv (tabPV Z)),(11,.ref 4 0),(12,.ref 5 0),(13,.pv (i64 e)),(66,.pv (i64 evs.length)),(67,.pv (i64 e))],fun _=>7,fun _=>[(0,.var (q0c a)),(1,.var cellsZ),(2,.var (q0c k)),(3,.arr 1 (mixV evs.length (fun e=>i64 (fsN Z e)) (fun _=>i64 0) (e+1))),(4,.var [.buf 3 (mixV evs.length (fun e=>i64 (fsN Z e)) (fun _=>i64 0) (e+1)).length]),(5,.var [.buf 6 ((keptL Z e).map i64).length]),(6,.arr 1 ((keptL Z e).map i64))],?_,?_⟩
   ·try conv=>whnf
    refine⟨Plan.lin 0 9,[8],by kernel_rfl,?_⟩
    (try conv=>whnf);repeat' (first|(apply And.intro<;>try conv=>whnf)|(apply q0i;rfl)|(refine⟨_,_,rfl,q0a (by with_reducible assumption),rfl,?_⟩;try conv=>whnf)|(refine⟨_,(by (conv=>whnf);exact hIx),rfl,?_⟩;try conv=>whnf)|fail)
    refine⟨e,rfl,by rw[hme];exact he',?_⟩
    (try conv=>whnf);repeat' (first|(apply And.intro<;>try conv=>whnf))
    refine⟨_,mixV_old he',Nat.le_refl 1,?_⟩
    try conv=>whnf
    refine⟨(),?_⟩
    (refine Wk.of ?_ ?_ rfl rfl rfl<;>repeat' (first|exact trivial|exact WkD.same _|exact WkO.same _ _ rfl|refine WkO.vars rfl ?_|refine⟨?_,?_⟩|fail))
    ·exact WkO.same _ _ (congrArg (fun z=>some (DObj.arr 1 z)) hst)
    ·exact WkD.eq (congrArg (DV.buf 3) (hme.trans hme1.symm))
   rintro⟨⟩
   (try conv=>whnf);repeat' (first|(apply And.intro<;>try conv=>whnf))
   refine⟨e,rfl,by rw[hme1];exact he',?_⟩
   (try conv=>whnf);repeat' (first|((first|apply And.intro|intro h)<;>try conv=>whnf)|(apply q0p;rfl)|(apply szI;rfl)|(apply ex2;(focus with_reducible assumption);try conv=>whnf)|fail)
   ·exact z0l (n:=1000) hlk (by decide)
   ·have hb:(fsN Z e==e)=true:=by
     have h2:(((fsN Z e:Nat):Int)==(e:Int))=true:=h;have h3:((fsN Z e:Nat):Int)=(e:Int):=by simpa using h2
     rw[show fsN Z e=e by omega];simp
    rw[hb,cond_true] at hsn;have hm:(keptL Z e).map i64++[i64 e]=(keptL Z (e+1)).map i64:=by rw[hsn,List.map_append];rfl
    refine⟨⟨e+1,he'⟩,by show evs.length-(e+1)<evs.length-e;omega,?_⟩
    (refine Wk.of ?_ ?_ rfl rfl rfl<;>repeat' (first|exact trivial|exact WkD.same _|exact WkO.same _ _ rfl|exact WkD.eq (congrArg (fun z:List PV=>DV.buf _ z.length) hm)|exact WkO.same _ _ (congrArg (fun z=>some (DObj.arr _ z)) hm)|refine WkD.int ?_|refine WkO.vars rfl ?_|refine⟨?_,?_⟩|(apply q0h;(focus simp;done);all_goals (try dsimp only);omega)|fail))
   ·have hb:(fsN Z e==e)=false:=by
     have h2:(((fsN Z e:Nat):Int)==(e:Int))=false:=h;have h3:¬ ((fsN Z e:Nat):Int)=(e:Int):=by simpa using h2
     simp;omega
    rw[hb,cond_false] at hsn;have hm:(keptL Z e).map i64=(keptL Z (e+1)).map i64:=by rw[hsn]
    refine⟨⟨e+1,he'⟩,by show evs.length-(e+1)<evs.length-e;omega,?_⟩
    (refine Wk.of ?_ ?_ rfl rfl rfl<;>repeat' (first|exact trivial|exact WkD.same _|exact WkO.same _ _ rfl|exact WkD.eq (congrArg (fun z:List PV=>DV.buf _ z.length) hm)|exact WkO.same _ _ (congrArg (fun z=>some (DObj.arr _ z)) hm)|refine WkD.int ?_|refine WkO.vars rfl ?_|refine⟨?_,?_⟩|(apply q0h;(focus simp;done);all_goals (try dsimp only);omega)|fail))
  ·have he':e=evs.length:=by
    have h2:decide ((e:Int)<((evs.length:Nat):Int))=false:=by assumption
    have:=of_decide_eq_false h2;omega
   subst he';exact⟨(),(by refine Wk.of ?_ ?_ rfl rfl rfl<;>repeat' (first|exact trivial|exact WkD.same _|exact WkO.same _ _ rfl|exact WkD.fz _ _ _ rfl (Or.inl ⟨_,rfl⟩) rfl|refine WkO.vars rfl ?_|refine⟨?_,?_⟩|fail))⟩
 rintro⟨⟩;rw[hfm,<- hkl0];clear hfm hml;have hkl:kl.length<=8:=by rw[hkl0];exact Nat.le_trans (kept_len _ _) hev8
 have hkm:∀ w,w∈kl->w<k.pre.length:=fun w h=>by rw[hkp];exact kept_mem (by rw[<- hkl0];exact h)
 have hkl1:kl.length<=1000:=by omega
 obtain⟨V,hV⟩:∃ V:List PV,V=((kl.take kl.length).map fun w=>k.pre.getD w []).map fpv:=⟨_,rfl⟩;obtain⟨W,hW⟩:∃ W:List PV,W=((kl.take kl.length).map fun w=>k.post.getD w []).map q0q:=⟨_,rfl⟩
 try conv=>whnf
 refine⟨Unit,fun _=>[(1,.ref 0 0),(2,.ref 1 0),(6,.ref 2 0),(7,.pv (q0z evs)),(12,.ref 5 0),(14,.clo 57 [] [.ref 5 0,.ref 4 0]),(15,.ref 6 0)],fun _=>7,fun _=>[(0,.var (q0c a)),(1,.var cellsZ),(2,.var (q0c k)),(4,.var [.pv (q0z fl)]),(5,.var [.pv (q0z kl)]),(6,.var [.pv (.sl (((kl.take kl.length).map fun w=>k.pre.getD w []).map fpv)),.pv (.sl (((kl.take kl.length).map fun w=>k.post.getD w []).map q0q)),.pv .nil])],?_,?_⟩
 ·try conv=>whnf
  refine⟨{ i:Nat // i<=kl.length },fun i=>[(1,.ref 0 0),(2,.ref 1 0),(6,.ref 2 0),(7,.pv (q0z evs)),(12,.ref 5 0),(14,.clo 57 [] [.ref 5 0,.ref 4 0]),(15,.ref 6 0),(90,.pv (q0z kl)),(91,.pv (i64 (kl.map i64).length)),(92,.pv (i64 i.1))],fun _=>9,fun i=>[(0,.var (q0c a)),(1,.var cellsZ),(2,.var (q0c k)),(4,.var [.pv (q0z fl)]),(5,.var [.pv (q0z kl)]),(6,.var [.buf 7 (((kl.take i.1).map fun w=>k.pre.getD w []).map fpv).length,.buf 8 (((kl.take i.1).map fun w=>k.post.getD w []).map q0q).length,.pv .nil]),(7,.arr 1 (((kl.take i.1).map fun w=>k.pre.getD w []).map fpv)),(8,.arr 1 (((kl.take i.1).map fun w=>k.post.getD w []).map q0q))],fun i=>kl.length-i.1,⟨⟨0,Nat.zero_le _⟩,(by refine Wk.of ?_ ?_ rfl rfl rfl<;>repeat' (first|exact trivial|exact WkD.same _|exact WkO.same _ _ rfl|exact WkD.new' rfl rfl rfl|exact WkO.new _ _ rfl|refine WkO.vars rfl ?_|exact rfl|refine⟨?_,?_⟩|fail))⟩,?_⟩;rintro⟨i,hi⟩
  (try conv=>whnf);repeat' (first|((first|apply And.intro|intro h)<;>try conv=>whnf)|(apply q0i;rfl))
  ·have hi':i<kl.length:=by simpa using q0j h
   obtain⟨w,hx⟩:∃ y,kl[i]? = some y:=⟨_,List.getElem?_eq_getElem hi'⟩;have hwn:=hkm w (List.mem_iff_getElem?.2 ⟨_,hx⟩);obtain⟨p,hp⟩:∃ p,k.pre[w]? = some p:=⟨_,List.getElem?_eq_getElem hwn⟩;obtain⟨q,hq⟩:∃ q,k.post[w]? = some q:=⟨_,List.getElem?_eq_getElem (by rw[hK2.post];exact hwn)⟩;have hpd:k.pre.getD w []=p:=by rw[List.getD_eq_getElem?_getD,hp];rfl
   have hqd:k.post.getD w []=q:=by rw[List.getD_eq_getElem?_getD,hq];rfl
   have hixq:=q0a (g:=q0q) hq;have hixp:=q0a (g:=fpv) hp;have hs1:(((kl.take i).map fun w=>k.pre.getD w []).map fpv).length<=1000:=by simp;omega
   have hs2:(((kl.take i).map fun w=>k.post.getD w []).map q0q).length<=1000:=by simp;omega
   have e5:((kl.take i).map fun w=>k.pre.getD w []).map fpv++[fpv p]=((kl.take (i+1)).map fun w=>k.pre.getD w []).map fpv:=by
    rw[List.take_add_one,hx,List.map_append,List.map_append,<- hpd];rfl
   have e6:((kl.take i).map fun w=>k.post.getD w []).map q0q++[q0q q]=((kl.take (i+1)).map fun w=>k.post.getD w []).map q0q:=by
    rw[List.take_add_one,hx,List.map_append,List.map_append,<- hqd];rfl
   refine⟨_,_,rfl,q0a hx,rfl,?_⟩
   try conv=>whnf
   refine⟨Plan.ofL [0,1,2,3,4,5,6,7,9,10,11,12,13,14,15,16,8,18,17,19,20,21],[19,21,1008,1017,2009,2010,2011,2012,2014,2015,2018],by kernel_rfl,?_⟩
   (try conv=>whnf);repeat' (first|((first|apply And.intro|intro h)<;>try conv=>whnf)|(apply q0i;rfl)|(apply q0p;rfl)|(apply szI;rfl)|(refine⟨_,_,rfl,q0a (by with_reducible assumption),rfl,?_⟩;try conv=>whnf)|fail)
   ·exact z0l (n:=1000) hs1 (by decide)
   ·exact ExtV.put (k:=7) (fun cs h=>by cases h) _ _ h
   ·exact z0l (n:=1000) hs2 (by decide)
   ·exact ExtV.put (k:=8) (fun cs h=>by cases h) _ _ h
   ·refine⟨⟨i+1,hi'⟩,by show kl.length-(i+1)<kl.length-i;omega,?_⟩
    (refine Wk.of ?_ ?_ rfl rfl rfl<;>repeat' (first|exact trivial|exact WkD.same _|exact WkO.same _ _ rfl|exact WkD.eq (congrArg (fun z:List PV=>DV.buf _ z.length) e5)|exact WkO.same _ _ (congrArg (fun z=>some (DObj.arr _ z)) e5)|exact WkD.eq (congrArg (fun z:List PV=>DV.buf _ z.length) e6)|exact WkO.same _ _ (congrArg (fun z=>some (DObj.arr _ z)) e6)|refine WkD.int ?_|refine WkO.vars rfl ?_|refine⟨?_,?_⟩|(apply q0h;(focus simp;done);all_goals (try dsimp only);omega)|fail))
  ·have hi':i=kl.length:=by have:=q0k (m:=(kl.map i64).length) h (by simpa using hi);simpa using this
   subst hi';exact⟨(),(by refine Wk.of ?_ ?_ rfl rfl rfl<;>repeat' (first|exact trivial|exact WkD.same _|exact WkO.same _ _ rfl|exact WkD.fz _ _ _ rfl (Or.inl ⟨_,rfl⟩) rfl|refine WkO.vars rfl ?_|refine⟨?_,?_⟩|fail))⟩
 rintro⟨⟩;rw[<- hV,<- hW];obtain⟨rq,hrq⟩:∃ rq:List Nat->List Nat,rq=relQ Z evs.length:=⟨_,rfl⟩;obtain⟨pl,hpl⟩:∃ pl:Nat->Nat,pl=fun e=>kl.idxOf (fsN Z e):=⟨_,rfl⟩
 have hplN:plN Z evs.length=pl:=by rw[hpl];funext e;rw[plN,<- hkl0]
 have hp8:∀ f,f<evs.length->pl f<kl.length:=fun f hf=>by rw[<- hplN,hkl0];exact hF.pl hf
 have hfl2:∀ e,e<evs.length->fl[e]? = some (fsN Z e):=fun e he=>by rw[hfl,List.getElem?_map,List.getElem?_range he];rfl
 have hmk:∀ e,e<evs.length->fsN Z e∈kl:=fun e he=>by rw[hkl0];exact hF.mem he
 have hrqe:∀ r,rq r=allQ r pl evs.length evs.length (List.replicate kl.length 0):=fun r=>by rw[hrq,relQ,hplN,<- hkl0]
 have hag:=hK2.ag;refine⟨Unit,fun _=>[(1,.ref 0 0),(2,.ref 1 0),(7,.pv (q0z evs)),(14,.clo 57 [] [.ref 5 0,.ref 4 0]),(15,.ref 6 0)],fun _=>7,fun _=>[(0,.var (q0c a)),(1,.var cellsZ),(2,.var (q0c k)),(4,.var [.pv (q0z fl)]),(5,.var [.pv (q0z kl)]),(6,.var [.pv (.sl V),.pv (.sl W),.pv (.sl (((k.rel.take k.rel.length).map rq).map q0b))])],?_,?_⟩
 ·try conv=>whnf
  refine⟨{ i:Nat // i<=k.rel.length },fun i=>[(1,.ref 0 0),(2,.ref 1 0),(7,.pv (q0z evs)),(12,.ref 5 0),(14,.clo 57 [] [.ref 5 0,.ref 4 0]),(15,.ref 6 0),(118,.pv (.sl (k.rel.map q0b))),(119,.pv (i64 (k.rel.map q0b).length)),(120,.pv (i64 i.1))],fun _=>8,fun i=>[(0,.var (q0c a)),(1,.var cellsZ),(2,.var (q0c k)),(4,.var [.pv (q0z fl)]),(5,.var [.pv (q0z kl)]),(6,.var [.pv (.sl V),.pv (.sl W),.buf 7 (((k.rel.take i.1).map rq).map q0b).length]),(7,.arr 1 (((k.rel.take i.1).map rq).map q0b))],fun i=>k.rel.length-i.1,⟨⟨0,Nat.zero_le _⟩,(by refine Wk.of ?_ ?_ rfl rfl rfl<;>repeat' (first|exact trivial|exact WkD.same _|exact WkO.same _ _ rfl|exact WkD.new' rfl rfl rfl|exact WkO.new _ _ rfl|refine WkO.vars rfl ?_|exact rfl|refine⟨?_,?_⟩|fail))⟩,?_⟩;rintro⟨i,hi⟩
  (try conv=>whnf);repeat' (first|((first|apply And.intro|intro h)<;>try conv=>whnf)|(apply q0i;rfl))
  ·have hi':i<k.rel.length:=by simpa using q0j h
   obtain⟨r,hx⟩:∃ y,k.rel[i]? = some y:=⟨_,List.getElem?_eq_getElem hi'⟩;have hrm:=List.mem_iff_getElem?.2 ⟨_,hx⟩;have hrl:r.length=evs.length:=by rw[hK2.rows r hrm,hkp]
   have hr64:∀ s,s∈r->s<2^64:=fun s hs=>Nat.lt_of_lt_of_le (hK2.bits r hrm s hs) (Nat.pow_le_pow_right (by decide) (by omega))
   have ht:=take_map (f:=rq) hx;have hvsl:(((k.rel.take i).map rq).map q0b).length<=1000:=by simp;omega
   have er:((k.rel.take i).map rq).map q0b++[q0b (rq r)]=((k.rel.take (i+1)).map rq).map q0b:=by rw[ht,List.map_append];rfl
   have hN:((kl.map i64).length:Int).toNat=kl.length:=by rw[List.length_map];rfl
   have hz1:List.replicate ((kl.map i64).length:Int).toNat (PV.int .u64 0)=(allQ r pl evs.length 0 (List.replicate kl.length 0)).map u64:=by rw[hN,allQ,List.map_replicate];rfl
   have hbig:((kl.map i64).length:Int)<=(big:Int):=by
    show ((kl.map i64).length:Int)<=4294967296
    rw[List.length_map];omega
   refine⟨_,_,rfl,q0a hx,rfl,?_⟩
   try conv=>whnf
   refine⟨Unit,fun _=>[(1,.ref 0 0),(2,.ref 1 0),(7,.pv (q0z evs)),(12,.ref 5 0),(14,.clo 57 [] [.ref 5 0,.ref 4 0]),(15,.ref 6 0),(19,.pv (q0b r)),(20,.buf 8 ((allQ r pl evs.length 0 (List.replicate kl.length 0)).map u64).length),(118,.pv (.sl (k.rel.map q0b))),(119,.pv (i64 (k.rel.map q0b).length)),(120,.pv (i64 i))],fun _=>9,fun _=>[(0,.var (q0c a)),(1,.var cellsZ),(2,.var (q0c k)),(4,.var [.pv (q0z fl)]),(5,.var [.pv (q0z kl)]),(6,.var [.pv (.sl V),.pv (.sl W),.buf 7 (((k.rel.take i).map rq).map q0b).length]),(7,.arr 1 (((k.rel.take i).map rq).map q0b)),(8,.arr 1 ((allQ r pl evs.length 0 (List.replicate kl.length 0)).map u64))],?_,?_⟩
   ·(try conv=>whnf);repeat' (first|(apply And.intro<;>try conv=>whnf)|(apply Or.inl;try conv=>whnf)|fail)
    ·rfl
    ·exact Int.natCast_nonneg _
    ·exact hbig
    refine⟨(),?_⟩
    (refine Wk.of ?_ ?_ rfl rfl rfl<;>repeat' (first|exact trivial|exact WkD.same _|exact WkO.same _ _ rfl|exact WkD.eq (congrArg (fun z:List PV=>DV.buf _ z.length) hz1)|exact WkO.same _ _ (congrArg (fun z=>some (DObj.arr _ z)) hz1)|refine⟨?_,?_⟩|fail))
   rintro⟨⟩;refine⟨Unit,fun _=>[(1,.ref 0 0),(2,.ref 1 0),(7,.pv (q0z evs)),(12,.ref 5 0),(14,.clo 57 [] [.ref 5 0,.ref 4 0]),(15,.ref 6 0),(20,.buf 8 ((allQ r pl evs.length evs.length (List.replicate kl.length 0)).map u64).length),(118,.pv (.sl (k.rel.map q0b))),(119,.pv (i64 (k.rel.map q0b).length)),(120,.pv (i64 i))],fun _=>9,fun _=>[(0,.var (q0c a)),(1,.var cellsZ),(2,.var (q0c k)),(4,.var [.pv (q0z fl)]),(5,.var [.pv (q0z kl)]),(6,.var [.pv (.sl V),.pv (.sl W),.buf 7 (((k.rel.take i).map rq).map q0b).length]),(7,.arr 1 (((k.rel.take i).map rq).map q0b)),(8,.arr 1 ((allQ r pl evs.length evs.length (List.replicate kl.length 0)).map u64))],?_,?_⟩
   ·try conv=>whnf
    refine⟨{ e:Nat // e<=evs.length },fun e=>[(1,.ref 0 0),(2,.ref 1 0),(7,.pv (q0z evs)),(12,.ref 5 0),(14,.clo 57 [] [.ref 5 0,.ref 4 0]),(15,.ref 6 0),(19,.pv (q0b r)),(20,.buf 8 ((allQ r pl evs.length e.1 (List.replicate kl.length 0)).map u64).length),(118,.pv (.sl (k.rel.map q0b))),(119,.pv (i64 (k.rel.map q0b).length)),(120,.pv (i64 i)),(127,.pv (q0b r)),(128,.pv (i64 (r.map u64).length)),(129,.pv (i64 e.1))],fun _=>9,fun e=>[(0,.var (q0c a)),(1,.var cellsZ),(2,.var (q0c k)),(4,.var [.pv (q0z fl)]),(5,.var [.pv (q0z kl)]),(6,.var [.pv (.sl V),.pv (.sl W),.buf 7 (((k.rel.take i).map rq).map q0b).length]),(7,.arr 1 (((k.rel.take i).map rq).map q0b)),(8,.arr 1 ((allQ r pl evs.length e.1 (List.replicate kl.length 0)).map u64))],fun e=>evs.length-e.1,⟨⟨0,Nat.zero_le _⟩,(by exact Wk.s rfl)⟩,?_⟩;rintro⟨e,he⟩
    (try conv=>whnf);repeat' (first|((first|apply And.intro|intro h)<;>try conv=>whnf)|(apply q0i;rfl))
    ·have he':e<evs.length:=by rw[<- hrl];simpa using q0j h
     obtain⟨Qe,hQe⟩:∃ Qe,Qe=allQ r pl evs.length e (List.replicate kl.length 0):=⟨_,rfl⟩;have hQn:allQ r pl evs.length (e+1) (List.replicate kl.length 0)=rowQ r pl e evs.length Qe:=by rw[allQ,hQe]
     have hQl:Qe.length=kl.length:=by rw[hQe,allQ_len,List.length_replicate]
     have hQu:Und8 Qe:=by rw[hQe];exact allQ_und (zer_und _) fun f hf=>by have:=hp8 f hf;omega
     have hq0:(allQ r pl evs.length e (List.replicate kl.length 0)).map u64=(rowQ r pl e 0 Qe).map u64:=by rw[hQe];rfl
     have hq1:(rowQ r pl e evs.length Qe).map u64=(allQ r pl evs.length (e+1) (List.replicate kl.length 0)).map u64:=by rw[hQn]
     have hre:r[e]? = some (r.getD e 0):=q0f (by omega);have hs64:=hr64 _ (List.mem_iff_getElem?.2 ⟨_,hre⟩);refine⟨_,_,rfl,q0a hre,rfl,?_⟩
     try conv=>whnf
     refine⟨{ f:Nat // f<=evs.length },fun f=>[(1,.ref 0 0),(2,.ref 1 0),(7,.pv (q0z evs)),(12,.ref 5 0),(14,.clo 57 [] [.ref 5 0,.ref 4 0]),(15,.ref 6 0),(19,.pv (q0b r)),(20,.buf 8 ((rowQ r pl e f.1 Qe).map u64).length),(118,.pv (.sl (k.rel.map q0b))),(119,.pv (i64 (k.rel.map q0b).length)),(120,.pv (i64 i)),(127,.pv (q0b r)),(128,.pv (i64 (r.map u64).length)),(129,.pv (i64 e)),(21,.pv (i64 e)),(22,.pv (u64 (r.getD e 0))),(135,.pv (i64 (r.map u64).length)),(136,.pv (i64 f.1))],fun _=>9,fun f=>[(0,.var (q0c a)),(1,.var cellsZ),(2,.var (q0c k)),(4,.var [.pv (q0z fl)]),(5,.var [.pv (q0z kl)]),(6,.var [.pv (.sl V),.pv (.sl W),.buf 7 (((k.rel.take i).map rq).map q0b).length]),(7,.arr 1 (((k.rel.take i).map rq).map q0b)),(8,.arr 1 ((rowQ r pl e f.1 Qe).map u64))],fun f=>evs.length-f.1,⟨⟨0,Nat.zero_le _⟩,(by refine Wk.of ?_ ?_ rfl rfl rfl<;>repeat' (first|exact trivial|exact WkD.same _|exact WkO.same _ _ rfl|exact WkD.eq (congrArg (fun z:List PV=>DV.buf _ z.length) hq0)|exact WkO.same _ _ (congrArg (fun z=>some (DObj.arr _ z)) hq0)|refine⟨?_,?_⟩|fail))⟩,?_⟩;rintro⟨f,hf⟩
     (try conv=>whnf);repeat' (first|((first|apply And.intro|intro h)<;>try conv=>whnf))
     ·have hf':f<evs.length:=by rw[<- hrl];simpa using q0j h
      obtain⟨Q,hQ⟩:∃ Q,Q=rowQ r pl e f Qe:=⟨_,rfl⟩;have hQl2:Q.length=kl.length:=by rw[hQ,rowQ_len,hQl]
      have hQu2:Und8 Q:=by rw[hQ];exact rowQ_und hQu fun g hg=>by have:=hp8 g (by omega);omega
      obtain⟨ve,hve⟩:∃ ve,ve=fsN Z e:=⟨_,rfl⟩;obtain⟨vf,hvf⟩:∃ vf,vf=fsN Z f:=⟨_,rfl⟩;have hple:pl e=kl.idxOf ve:=by rw[hpl,hve]
      have hplf:pl f=kl.idxOf vf:=by rw[hpl,hvf]
      have hfe:fl[e]? = some ve:=by rw[hve];exact hfl2 e he'
      have hff:fl[f]? = some vf:=by rw[hvf];exact hfl2 f hf'
      have hme:ve∈kl:=by rw[hve];exact hmk e he'
      have hmf:vf∈kl:=by rw[hvf];exact hmk f hf'
      have hplt:kl.idxOf ve<Q.length:=by rw[hQl2,<- hple];exact hp8 e he'
      have hpf8:kl.idxOf vf<8:=by rw[<- hplf];have:=hp8 f hf';omega
      have hqd:=q0f (d:=0) hplt;have hqe:=q0a (g:=u64) hqd;have hor:=or_place (x:=Q.getD (kl.idxOf ve) 0) (s:=r.getD e 0) (f:=f) (p:=kl.idxOf vf) (hQu2.get _) hs64 (by omega) hpf8;have hQ2:rowQ r pl e (f+1) Qe=Q.set (kl.idxOf ve) (bif (r.getD e 0).testBit f then Q.getD (kl.idxOf ve) 0 |||2^kl.idxOf vf else Q.getD (kl.idxOf ve) 0):=by rw[rowQ,<- hQ,stepQ,hple,hplf]
      have hplm:kl.idxOf ve<(Q.map u64).length:=by rw[List.length_map];exact hplt
      have hst:(Q.map u64).set (kl.idxOf ve) (PV.int .u64 (orU (Q.getD (kl.idxOf ve) 0:Nat) (shlU (andU (shrU (r.getD e 0:Nat) (f:Nat)) 1) (kl.idxOf vf:Nat))))=(rowQ r pl e (f+1) Qe).map u64:=by rw[hQ2,hor,List.map_set];rfl
      rw[hQ] at hqe hplm hst;clear hQ2 hor;have hls:((rowQ r pl e f Qe).map u64).length=((rowQ r pl e (f+1) Qe).map u64).length:=by rw[List.length_map,List.length_map,rowQ_len,rowQ_len]
      have hn1:=Int.natCast_nonneg f;have hn2:=Int.natCast_nonneg (kl.idxOf vf);refine⟨planQ,[3,12,16],by kernel_rfl,?_⟩
      (try conv=>whnf);repeat' (first|(apply And.intro<;>try conv=>whnf)|exact Nat.le_refl 1|(apply ex2;(focus with_reducible assumption);try conv=>whnf)|(refine DC.callA (q:=.pv (i64 (kl.idxOf ve))) 6 (HPl a k fl kl) ⟨rfl,rfl,rfl,rfl,rfl,rfl,trivial⟩ rfl rfl rfl rfl (fun M' K' hK'=>clo_place a k fl kl e ve hfe hme hkl1 _ K' hK') ?_;try conv=>whnf)|(refine DC.callA (q:=.pv (i64 (kl.idxOf vf))) 6 (HPl a k fl kl) ⟨rfl,rfl,rfl,rfl,rfl,rfl,trivial⟩ rfl rfl rfl rfl (fun M' K' hK'=>clo_place a k fl kl f vf hff hmf hkl1 _ K' hK') ?_;try conv=>whnf)|(refine⟨kl.idxOf ve,rfl,hplm,?_⟩;try conv=>whnf)|fail)
      all_goals first
       |exact hn1
       |exact hn2
       |skip
      all_goals
       refine⟨⟨f+1,hf'⟩,by show evs.length-(f+1)<evs.length-f;omega,?_⟩
       (refine Wk.of ?_ ?_ rfl rfl rfl<;>repeat' (first|exact trivial|exact WkD.same _|exact WkO.same _ _ rfl|refine WkD.int ?_|refine⟨?_,?_⟩|(apply q0h;(focus simp;done);all_goals (try dsimp only);omega)|fail))
       ·exact WkD.eq (congrArg (DV.buf 8) hls)
       ·exact WkO.same _ _ (congrArg (fun z=>some (DObj.arr 1 z)) hst)
     ·have hf':f=evs.length:=by have:=q0k (m:=(r.map u64).length) h (by simpa [hrl] using hf);simpa [hrl] using this
      subst hf';refine⟨⟨e+1,he'⟩,by show evs.length-(e+1)<evs.length-e;omega,?_⟩
      (refine Wk.of ?_ ?_ rfl rfl rfl<;>repeat' (first|exact trivial|exact WkD.same _|exact WkO.same _ _ rfl|exact WkD.eq (congrArg (fun z:List PV=>DV.buf _ z.length) hq1)|exact WkO.same _ _ (congrArg (fun z=>some (DObj.arr _ z)) hq1)|refine WkD.int ?_|refine⟨?_,?_⟩|(apply q0h;(focus simp;done);all_goals (try dsimp only);omega)|fail))
    ·have he':e=evs.length:=by have:=q0k (m:=(r.map u64).length) h (by simpa [hrl] using he);simpa [hrl] using this
     subst he';exact⟨(),(by exact Wk.s rfl)⟩
   rintro⟨⟩;rw[<- hrqe r]
   (try conv=>whnf);repeat' (first|(apply And.intro<;>try conv=>whnf)|(apply bleI;rfl)|(apply q0p;rfl)|(apply szI;rfl))
   ·exact z0l (n:=1000) hvsl (by decide)
   ·refine⟨⟨i+1,hi'⟩,by show k.rel.length-(i+1)<k.rel.length-i;omega,?_⟩
    (refine Wk.of ?_ ?_ rfl rfl rfl<;>repeat' (first|exact trivial|exact WkD.same _|exact WkO.same _ _ rfl|exact WkD.eq (congrArg (fun z:List PV=>DV.buf _ z.length) er)|exact WkO.same _ _ (congrArg (fun z=>some (DObj.arr _ z)) er)|refine WkD.int ?_|refine WkO.vars rfl ?_|refine⟨?_,?_⟩|(apply q0h;(focus simp;done);all_goals (try dsimp only);omega)|fail))
  ·have hi':i=k.rel.length:=by have:=q0k (m:=(k.rel.map q0b).length) h (by simpa using hi);simpa using this
   subst hi';exact⟨(),(by refine Wk.of ?_ ?_ rfl rfl rfl<;>repeat' (first|exact trivial|exact WkD.same _|exact WkO.same _ _ rfl|exact WkD.fz _ _ _ rfl (Or.inl ⟨_,rfl⟩) rfl|refine WkO.vars rfl ?_|refine⟨?_,?_⟩|fail))⟩
 rintro⟨⟩
 have hR:sfP (sfB k Z evs.length,(List.range a.pre.length).map (sfN evs Z),0)=.tup [.agg [.sl V,.sl W,.sl (((k.rel.take k.rel.length).map rq).map q0b)],.sl (((List.range a.pre.length).map (sfN evs Z)).map intI),.int .i64 0]:=by
  rw[hV,hW,hrq,List.take_length,List.take_length,hkl0];rfl
 rw[hR];clear hW hV hR;generalize (((k.rel.take k.rel.length).map rq).map q0b)=U;obtain⟨sn,hsn⟩:∃ sn:Nat->Int,sn=sfN evs Z:=⟨_,rfl⟩;rw[<- hsn];have e9:((a.pre.map fpv).length:Int)=(a.pre.length:Int):=by simp
 try conv=>whnf
 refine⟨Unit,fun _=>[(2,.ref 1 0),(15,.ref 6 0),(24,.pv (.sl (((List.range a.pre.length).map sn).map intI)))],fun _=>7,fun _=>[(0,.var (q0c a)),(1,.var cellsZ),(2,.var (q0c k)),(4,.var [.pv (q0z fl)]),(5,.var [.pv (q0z kl)]),(6,.var [.pv (.sl V),.pv (.sl W),.pv (.sl U)])],?_,?_⟩
 ·try conv=>whnf
  refine⟨{ i:Nat // i<=a.pre.length },fun i=>[(2,.ref 1 0),(7,.pv (q0z evs)),(14,.clo 57 [] [.ref 5 0,.ref 4 0]),(15,.ref 6 0),(24,.buf 7 (((List.range i.1).map sn).map intI).length),(166,.pv (i64 (a.pre.map fpv).length)),(167,.pv (i64 i.1))],fun _=>8,fun i=>[(0,.var (q0c a)),(1,.var cellsZ),(2,.var (q0c k)),(4,.var [.pv (q0z fl)]),(5,.var [.pv (q0z kl)]),(6,.var [.pv (.sl V),.pv (.sl W),.pv (.sl U)]),(7,.arr 1 (((List.range i.1).map sn).map intI))],fun i=>a.pre.length-i.1,⟨⟨0,Nat.zero_le _⟩,(by refine Wk.of ?_ ?_ rfl rfl rfl<;>repeat' (first|exact trivial|exact WkD.same _|exact WkO.same _ _ rfl|exact WkD.new' rfl rfl rfl|exact WkO.new _ _ rfl|exact rfl|refine⟨?_,?_⟩|fail))⟩,?_⟩;rintro⟨i,hi⟩
  (try conv=>whnf);repeat' (first|((first|apply And.intro|intro h)<;>try conv=>whnf))
  ·have hi':i<a.pre.length:=by simpa using q0j h
   have hrn:((List.range i).map sn).map intI++[intI (sn i)]=((List.range (i+1)).map sn).map intI:=by rw[List.range_succ,List.map_append,List.map_append];rfl
   have hll:(((List.range i).map sn).map intI).length<=1000:=by simp;omega
   have hI:=sl_IndexN evs i (by omega);obtain⟨x,hx⟩:∃ x,ixN evs i=x:=⟨_,rfl⟩;rw[hx] at hI
   (try conv=>whnf);repeat' (first|(refine PureFn.dy hI rfl ?_;try conv=>whnf)|fail)
   refine⟨Unit,fun _=>[(2,.ref 1 0),(7,.pv (q0z evs)),(14,.clo 57 [] [.ref 5 0,.ref 4 0]),(15,.ref 6 0),(24,.buf 7 (((List.range i).map sn).map intI).length),(166,.pv (i64 (a.pre.map fpv).length)),(167,.pv (i64 i)),(26,.pv (intI (sn i)))],fun _=>8,fun _=>[(0,.var (q0c a)),(1,.var cellsZ),(2,.var (q0c k)),(4,.var [.pv (q0z fl)]),(5,.var [.pv (q0z kl)]),(6,.var [.pv (.sl V),.pv (.sl W),.pv (.sl U)]),(7,.arr 1 (((List.range i).map sn).map intI))],?_,?_⟩
   ·by_cases him:i∈evs
    ·rw[ixN,if_pos him] at hx;have hsi:sn i=(pl (evs.idxOf i):Nat):=by rw[hsn,sfN,if_pos him,hplN]
     have hj:evs.idxOf i<evs.length:=List.idxOf_lt_length_iff.2 him;generalize evs.idxOf i=j at hx hsi hj;subst hx;obtain⟨ve,hve⟩:∃ ve,ve=fsN Z j:=⟨_,rfl⟩;have hplj:pl j=kl.idxOf ve:=by rw[hpl,hve]
     have hfe:fl[j]? = some ve:=by rw[hve];exact hfl2 j hj
     have hme:ve∈kl:=by rw[hve];exact hmk j hj
     rw[hplj] at hsi;rw[hsi]
     (try conv=>whnf);repeat' (first|((first|apply And.intro|intro h)<;>try conv=>whnf)|(refine DC.callA (q:=.pv (i64 (kl.idxOf ve))) 6 (HPl a k fl kl) ⟨rfl,rfl,rfl,rfl,rfl,rfl,trivial⟩ rfl rfl rfl rfl (fun M' K' hK'=>clo_place a k fl kl j ve hfe hme hkl1 _ K' hK') ?_;try conv=>whnf)|fail)
     ·exact⟨(),(by exact Wk.s rfl)⟩
     ·exfalso;have h2:decide ((j:Int)>=0)=false:=h;have:=of_decide_eq_false h2;omega
    ·rw[ixN,if_neg him] at hx;subst hx;have hsi:sn i = -1:=by rw[hsn,sfN,if_neg him]
     rw[hsi]
     (try conv=>whnf);repeat' (first|((first|apply And.intro|intro h)<;>try conv=>whnf))
     ·cases h
     ·exact⟨(),(by exact Wk.s rfl)⟩
   rintro⟨⟩
   (try conv=>whnf);repeat' (first|(apply And.intro<;>try conv=>whnf)|(apply q0p;rfl)|(apply szI;rfl))
   ·exact z0l (n:=1000) hll (by decide)
   ·refine⟨⟨i+1,hi'⟩,by show a.pre.length-(i+1)<a.pre.length-i;omega,?_⟩
    (refine Wk.of ?_ ?_ rfl rfl rfl<;>repeat' (first|exact trivial|exact WkD.same _|exact WkO.same _ _ rfl|exact WkD.eq (congrArg (fun z:List PV=>DV.buf _ z.length) hrn)|exact WkO.same _ _ (congrArg (fun z=>some (DObj.arr _ z)) hrn)|refine WkD.int ?_|refine⟨?_,?_⟩|(apply q0h;(focus simp;done);all_goals (try dsimp only);omega)|fail))
  ·have hi':i=a.pre.length:=by have:=q0k (m:=(a.pre.map fpv).length) h (by simpa using hi);simpa using this
   subst hi';exact⟨(),(by refine Wk.of ?_ ?_ rfl rfl rfl<;>repeat' (first|exact trivial|exact WkD.same _|exact WkO.same _ _ rfl|exact WkD.fz _ _ _ rfl (Or.inl ⟨_,rfl⟩) rfl|refine⟨?_,?_⟩|fail))⟩
 rintro⟨⟩
 try conv=>whnf
 exact .refl _
def evP (z:Act×Int):PV:=.agg [.sl (z.1.pre.map fpv),.sl (z.1.post.map q0q),.sl (z.1.rel.map q0b),.int .i64 z.2]
def q0t (z:Act×Int):List DV:=[.pv (.sl (z.1.pre.map fpv)),.pv (.sl (z.1.post.map q0q)),.pv (.sl (z.1.rel.map q0b)),.pv (.int .i64 z.2)]
def firE {α:Type} (g:α->Int):List α->Int
 | []=>0
 |z::r=>bif g z != 0 then g z else firE g r
theorem firE_drop {α:Type} (g:α->Int) {l:List α} {i:Nat} {z:α} (h:l[i]? = some z):firE g (l.drop i)=bif g z != 0 then g z else firE g (l.drop (i+1)):=by
 obtain⟨q1,q2⟩:=List.getElem?_eq_some_iff.1 h;rw[List.drop_eq_getElem_cons q1,q2];rfl
theorem firE_zero {α:Type} {g:α->Int}:∀ {l:List α},firE g l=0->∀ z,z∈l->g z=0
 |y::r,h,z,hz=>by
  rw[firE] at h
  cases hb:(g y != 0) with
  |true=>rw[hb] at h;have:g y=0:=h;rw[this] at hb;cases hb
  |false =>
   rw[hb] at h
   rcases List.mem_cons.1 hz with rfl|hz
   ·simpa using hb
   ·exact firE_zero (show firE g r=0 from h) z hz
def g1D (m:Mo) (z:Act×Int):Int:=actI z.1 (m.rel.length:Int) (m.val.length:Int)
def g2D (z:Act×Int):Int:=bif z0p z.1 z.2 then 6 else 0
def g3D (m:Mo) (z:Act×Int):Int:=bif (updI m z.1).2.2==8 then 8 else 0
def difG (m:Mo) (l:List (Act×Int)):Int:=bif moI m != 0 then moI m else bif firE (g1D m) l != 0 then firE (g1D m) l else bif firE g2D l != 0 then firE g2D l else firE (g3D m) l
def preS (m:Mo) (z:Act×Int):Nat:=possP m z.1 z.2.toNat
def difW (m:Mo) (x y:Act×Int) (B:Nat->Bool) (w:Nat):Bool:=bif (preS m x).testBit w != (preS m y).testBit w then true else bif (preS m x).testBit w then !B w else false
def firW (p:Nat->Bool) (n:Nat):Int:=match (List.range n).find? p with
 |some w=>(w:Int)
 |none => -1
theorem firW_yes {p:Nat->Bool} {n w:Nat} (hw:w<n) (hp:p w=true) (h:∀ v,v<w->p v=false):firW p n=(w:Int):=by
 have:(List.range n).find? p=some w:=by
  rw[List.find?_range_eq_some];exact⟨hp,List.mem_range.2 hw,fun j hj=>by rw[h j hj];rfl⟩
 rw[firW,this]
theorem firW_no {p:Nat->Bool} {n:Nat} (h:∀ v,v<n->p v=false):firW p n = -1:=by
 have:(List.range n).find? p=none:=List.find?_eq_none.2 fun x hx=>by rw[h x (List.mem_range.1 hx)];simp
 rw[firW,this]
def difI (m:Mo) (x y:Act×Int) (B:Nat->Bool):Int×Int:=bif difG m [x,y] != 0 then (0,difG m [x,y]) else (firW (difW m x y B) m.n.toNat,0)
def difP (z:Int×Int):PV:=.tup [.int .i64 z.1,.int .i64 z.2]
theorem cp_Differ (m:Mo) (x y:Act×Int) (hf:FitM m) (hSx:SmX x.1) (hSy:SmX y.1) (B:Nat->Bool)
  (hB:difG m [x,y]=0->∀ w,w<m.n.toNat->(preS m x).testBit w=true->(preS m y).testBit w=true->∃ c:Int,PureFn Tryz.prog 42 [(atI m w x.1 x.2).1.pv,.int .i64 (atI m w x.1 x.2).2.1,(atI m w y.1 y.2).1.pv,.int .i64 (atI m w y.1 y.2).2.1] (.tup [.bool (B w),.int .i64 c])) :
  PureFn Tryz.prog 14 [m.pv,evP x,evP y] (difP (difI m x y B)):=by
 have hM:=md_Check m hf;obtain⟨l,hl⟩:∃ l,l=[x,y]:=⟨_,rfl⟩
 have hS:∀ z,z∈l->SmX z.1:=fun z hz=>by
  rw[hl] at hz
  rcases List.mem_cons.1 hz with rfl|hz
  ·exact hSx
  ·rw[List.mem_singleton.1 hz];exact hSy
 have hll:l.length=2:=by rw[hl];rfl
 have e1:((m.rel.map q0b).length:Int)=(m.rel.length:Int):=by simp
 have e2:((m.val.map u64).length:Int)=(m.val.length:Int):=by simp
 have eS:PV.sl [evP x,evP y]=.sl (l.map evP):=by rw[hl];rfl
 have hI:difI m x y B=bif difG m l != 0 then (0,difG m l) else (firW (difW m x y B) m.n.toNat,0):=by rw[difI,hl]
 rw[<- hl] at hB;rw[hI];clear hI;obtain⟨R,hR⟩:∃ R,R=difP (bif difG m l != 0 then (0,difG m l) else (firW (difW m x y B) m.n.toNat,0)):=⟨_,rfl⟩;rw[<- hR];have hno:∀ c,difG m l=c->(c != 0)=true->R=.tup [.int .i64 0,.int .i64 c]:=fun c h hc=>by rw[hR,h,hc];rfl
 refine PureFn.introC [4,5,9,12,18,22,25,26,27,32,33,34,35,36,39] mixed (fn:=Tryz.f14) rfl rfl rfl fun M w0 => ?_
 try conv=>whnf
 refine⟨{ _x:Unit // moI m=0 },fun _=>[(3,.ref 0 0),(4,.ref 1 0),(5,.ref 2 0)],fun _=>3,fun _=>[(0,.var (q0e m)),(1,.var (q0t x)),(2,.var (q0t y))],?_,?_⟩
 ·(try conv=>whnf);repeat' (first|((first|apply And.intro|intro h)<;>try conv=>whnf)|(refine PureFn.dy hM rfl ?_;try conv=>whnf)|fail)
  ·rw[hno (moI m) (by rw[difG,show (moI m != 0)=true from h];rfl) h];exact .refl _
  ·exact⟨⟨(),by simpa using h⟩,(by exact Wk.s rfl)⟩
 rintro⟨_,hm0⟩;have g1:(moI m != 0)=false:=by simpa using hm0
 have hG:difG m l=bif firE (g1D m) l != 0 then firE (g1D m) l else bif firE g2D l != 0 then firE g2D l else firE (g3D m) l:=by rw[difG,g1];rfl
 refine⟨Unit,fun _=>[(3,.ref 0 0),(4,.ref 1 0),(5,.ref 2 0),(9,.pv (.sl (l.map evP)))],fun _=>3,fun _=>[(0,.var (q0e m)),(1,.var (q0t x)),(2,.var (q0t y))],?_,?_⟩
 ·(try conv=>whnf);repeat' (first|(apply And.intro<;>try conv=>whnf)|(apply q0p;rfl))
  refine⟨(),?_⟩
  (refine Wk.of ?_ ?_ rfl rfl rfl<;>repeat' (first|exact trivial|exact WkD.same _|exact WkO.same _ _ rfl|refine⟨?_,?_⟩|fail))
  exact WkD.eq (congrArg DV.pv eS)
 rintro⟨⟩;refine⟨{ _x:Unit // firE (g1D m) l=0 },fun _=>[(3,.ref 0 0),(4,.ref 1 0),(5,.ref 2 0),(9,.pv (.sl (l.map evP)))],fun _=>3,fun _=>[(0,.var (q0e m)),(1,.var (q0t x)),(2,.var (q0t y))],?_,?_⟩
 ·try conv=>whnf
  refine⟨{ i:Nat // i<=l.length/\firE (g1D m) l=firE (g1D m) (l.drop i) },fun i=>[(3,.ref 0 0),(4,.ref 1 0),(5,.ref 2 0),(9,.pv (.sl (l.map evP))),(41,.pv (.sl (l.map evP))),(42,.pv (i64 (l.map evP).length)),(43,.pv (i64 i.1))],fun _=>3,fun _=>[(0,.var (q0e m)),(1,.var (q0t x)),(2,.var (q0t y))],fun i=>l.length-i.1,⟨⟨0,Nat.zero_le _,rfl⟩,(by exact Wk.s rfl)⟩,?_⟩;rintro⟨i,hi,hfi⟩
  (try conv=>whnf);repeat' (first|((first|apply And.intro|intro h)<;>try conv=>whnf)|(apply q0i;rfl))
  ·have hi':i<l.length:=by simpa using q0j h
   obtain⟨z,hz⟩:∃ z,l[i]? = some z:=⟨_,List.getElem?_eq_getElem hi'⟩;have hzm:=hS z (List.mem_iff_getElem?.2 ⟨_,hz⟩);have hC:=ac_Check z.1 ((m.rel.map q0b).length:Int) ((m.val.map u64).length:Int) hzm.fit hzm.rel hzm.post;rw[firE_drop _ hz] at hfi;have hgz:g1D m z=actI z.1 ((m.rel.map q0b).length:Int) ((m.val.map u64).length:Int):=by rw[g1D,e1,e2]
   rw[hgz] at hfi;generalize actI z.1 ((m.rel.map q0b).length:Int) ((m.val.map u64).length:Int)=c at hC hfi;refine⟨_,_,rfl,q0a hz,rfl,?_⟩
   try conv=>whnf
   refine⟨Unit,fun _=>[(3,.ref 0 0),(4,.ref 1 0),(5,.ref 2 0),(9,.pv (.sl (l.map evP))),(41,.pv (.sl (l.map evP))),(42,.pv (i64 (l.map evP).length)),(43,.pv (i64 i)),(12,.pv (.int .i64 c))],fun _=>3,fun _=>[(0,.var (q0e m)),(1,.var (q0t x)),(2,.var (q0t y))],?_,?_⟩
   ·(try conv=>whnf);repeat' (first|(refine PureFn.dy hC rfl ?_;try conv=>whnf)|fail)
    exact⟨(),(by exact Wk.s rfl)⟩
   rintro⟨⟩
   (try conv=>whnf);repeat' (first|((first|apply And.intro|intro h)<;>try conv=>whnf))
   ·have hc:(c != 0)=true:=h;rw[hc,cond_true] at hfi;rw[hno c (by rw[hG,hfi,hc];rfl) hc];exact .refl _
   ·have hc:(c != 0)=false:=h;rw[hc,cond_false] at hfi;exact⟨⟨i+1,hi',hfi⟩,by show l.length-(i+1)<l.length-i;omega,(by refine Wk.of ?_ ?_ rfl rfl rfl<;>repeat' (first|exact trivial|exact WkD.same _|exact WkO.same _ _ rfl|refine WkD.int ?_|refine⟨?_,?_⟩|(apply q0h;(focus simp;done);all_goals (try dsimp only);omega)|fail))⟩
  ·have hi':i=l.length:=by have:=q0k (m:=(l.map evP).length) h (by simpa using hi);simpa using this
   subst hi';rw[List.drop_length] at hfi;exact⟨⟨(),hfi⟩,(by exact Wk.s rfl)⟩
 rintro⟨_,hF1⟩;rw[hF1] at hG;have hG:difG m l=bif firE g2D l != 0 then firE g2D l else firE (g3D m) l:=hG
 refine⟨{ _x:Unit // firE g2D l=0 },fun _=>[(3,.ref 0 0),(4,.ref 1 0),(5,.ref 2 0),(9,.pv (.sl (l.map evP)))],fun _=>3,fun _=>[(0,.var (q0e m)),(1,.var (q0t x)),(2,.var (q0t y))],?_,?_⟩
 ·try conv=>whnf
  refine⟨{ i:Nat // i<=l.length/\firE g2D l=firE g2D (l.drop i) },fun i=>[(3,.ref 0 0),(4,.ref 1 0),(5,.ref 2 0),(9,.pv (.sl (l.map evP))),(60,.pv (.sl (l.map evP))),(61,.pv (i64 (l.map evP).length)),(62,.pv (i64 i.1))],fun _=>3,fun _=>[(0,.var (q0e m)),(1,.var (q0t x)),(2,.var (q0t y))],fun i=>l.length-i.1,⟨⟨0,Nat.zero_le _,rfl⟩,(by exact Wk.s rfl)⟩,?_⟩;rintro⟨i,hi,hfi⟩
  (try conv=>whnf);repeat' (first|((first|apply And.intro|intro h)<;>try conv=>whnf)|(apply q0i;rfl))
  ·have hi':i<l.length:=by simpa using q0j h
   obtain⟨z,hz⟩:∃ z,l[i]? = some z:=⟨_,List.getElem?_eq_getElem hi'⟩;rw[firE_drop _ hz] at hfi;have e3:((z.1.pre.map fpv).length:Int)=(z.1.pre.length:Int):=by simp
   refine⟨_,_,rfl,q0a hz,rfl,?_⟩
   (try conv=>whnf);repeat' (first|((first|apply And.intro|intro h)<;>try conv=>whnf)|apply True.intro|(apply WhenQ.mk;(try conv=>whnf);rotate_left;(try conv=>whnf);rotate_right)|with_reducible assumption|(apply q0x;with_reducible assumption))
   ·have hb:z0p z.1 z.2=true:=by rw[z0p,<- e3];exact h
    have hg:g2D z=6:=by rw[g2D,hb];rfl
    rw[hg] at hfi;rw[hno 6 (by rw[hG,hfi];rfl) rfl];exact .refl _
   ·have hb:z0p z.1 z.2=false:=by rw[z0p,<- e3];exact h
    have hg:g2D z=0:=by rw[g2D,hb];rfl
    rw[hg] at hfi;exact⟨⟨i+1,hi',hfi⟩,by show l.length-(i+1)<l.length-i;omega,(by refine Wk.of ?_ ?_ rfl rfl rfl<;>repeat' (first|exact trivial|exact WkD.same _|exact WkO.same _ _ rfl|refine WkD.int ?_|refine⟨?_,?_⟩|(apply q0h;(focus simp;done);all_goals (try dsimp only);omega)|fail))⟩
  ·have hi':i=l.length:=by have:=q0k (m:=(l.map evP).length) h (by simpa using hi);simpa using this
   subst hi';rw[List.drop_length] at hfi;exact⟨⟨(),hfi⟩,(by exact Wk.s rfl)⟩
 rintro⟨_,hF2⟩;rw[hF2] at hG;have hG:difG m l=firE (g3D m) l:=hG
 have hev:∀ z:Act×Int,z∈l->∃ k:Nat,z.2=(k:Int)/\k<z.1.pre.length:=fun z hz=>by
  have hg:=firE_zero hF2 z hz;unfold g2D at hg
  cases hb:z0p z.1 z.2 with
  |true=>rw[hb] at hg;cases hg
  |false =>
   unfold z0p at hb
   cases h1:decide (z.2<0) with
   |true=>rw[h1] at hb;cases hb
   |false =>
    rw[h1] at hb;have h2:=of_decide_eq_false (show decide (z.2>=(z.1.pre.length:Int))=false from hb);have h3:=of_decide_eq_false h1;exact⟨z.2.toNat,by omega,by omega⟩
 obtain⟨xn,hxn,hxl⟩:=hev x (by rw[hl];simp);obtain⟨yn,hyn,hyl⟩:=hev y (by rw[hl];simp);refine⟨{ _x:Unit // difG m l=0 },fun _=>[(3,.ref 0 0),(4,.ref 1 0),(5,.ref 2 0)],fun _=>3,fun _=>[(0,.var (q0e m)),(1,.var (q0t (x.1,(xn:Int)))),(2,.var (q0t (y.1,(yn:Int))))],?_,?_⟩
 ·try conv=>whnf
  refine⟨{ i:Nat // i<=l.length/\firE (g3D m) l=firE (g3D m) (l.drop i) },fun i=>[(3,.ref 0 0),(4,.ref 1 0),(5,.ref 2 0),(9,.pv (.sl (l.map evP))),(79,.pv (.sl (l.map evP))),(80,.pv (i64 (l.map evP).length)),(81,.pv (i64 i.1))],fun _=>3,fun _=>[(0,.var (q0e m)),(1,.var (q0t x)),(2,.var (q0t y))],fun i=>l.length-i.1,⟨⟨0,Nat.zero_le _,rfl⟩,(by exact Wk.s rfl)⟩,?_⟩;rintro⟨i,hi,hfi⟩
  (try conv=>whnf);repeat' (first|((first|apply And.intro|intro h)<;>try conv=>whnf)|(apply q0i;rfl))
  ·have hi':i<l.length:=by simpa using q0j h
   obtain⟨z,hz⟩:∃ z,l[i]? = some z:=⟨_,List.getElem?_eq_getElem hi'⟩;have hzm:=hS z (List.mem_iff_getElem?.2 ⟨_,hz⟩);have hU:=pr_Update m z.1 hf hzm.fit hzm.rel hzm.post;rw[firE_drop _ hz] at hfi;have hgz:g3D m z=bif (updI m z.1).2.2==8 then 8 else 0:=rfl
   rw[hgz] at hfi;generalize updI m z.1=U at hU hfi;obtain⟨um,up,c⟩:=U;refine⟨_,_,rfl,q0a hz,rfl,?_⟩
   try conv=>whnf
   refine⟨Unit,fun _=>[(3,.ref 0 0),(4,.ref 1 0),(5,.ref 2 0),(9,.pv (.sl (l.map evP))),(79,.pv (.sl (l.map evP))),(80,.pv (i64 (l.map evP).length)),(81,.pv (i64 i)),(19,.pv (.int .i64 c))],fun _=>3,fun _=>[(0,.var (q0e m)),(1,.var (q0t x)),(2,.var (q0t y))],?_,?_⟩
   ·(try conv=>whnf);repeat' (first|(refine PureFn.dy hU rfl ?_;try conv=>whnf)|fail)
    exact⟨(),(by exact Wk.s rfl)⟩
   rintro⟨⟩
   (try conv=>whnf);repeat' (first|((first|apply And.intro|intro h)<;>try conv=>whnf))
   ·have hc:(c==8)=true:=h;have hc8:c=8:=by simpa using hc
    subst hc8;rw[hno 8 (by rw[hG,hfi];rfl) rfl];exact .refl _
   ·have hc:(c==8)=false:=h;simp only[hc,cond_false] at hfi;exact⟨⟨i+1,hi',hfi⟩,by show l.length-(i+1)<l.length-i;omega,(by refine Wk.of ?_ ?_ rfl rfl rfl<;>repeat' (first|exact trivial|exact WkD.same _|exact WkO.same _ _ rfl|refine WkD.int ?_|refine⟨?_,?_⟩|(apply q0h;(focus simp;done);all_goals (try dsimp only);omega)|fail))⟩
  ·have hi':i=l.length:=by have:=q0k (m:=(l.map evP).length) h (by simpa using hi);simpa using this
   subst hi';rw[List.drop_length] at hfi;refine⟨⟨(),hG.trans hfi⟩,?_⟩
   (refine Wk.of ?_ ?_ rfl rfl rfl<;>repeat' (first|exact trivial|exact WkD.same _|exact WkO.same _ _ rfl|refine WkD.int ?_|refine WkO.vars rfl ?_|refine⟨?_,?_⟩|fail))
   ·exact hxn
   ·exact hyn
 rintro⟨_,hG0⟩;have hB:=hB hG0;have hR0:R=.tup [.int .i64 (firW (difW m x y B) m.n.toNat),.int .i64 0]:=by rw[hR,hG0];rfl
 obtain⟨n,hMn⟩:=moI_ok hm0
 have hmo:∀ z,z∈l->moaI m z.1=0:=fun z hz=>by
  rw[moaI,g1];exact firE_zero hF1 z hz
 have hx1:=pre_holds (hmo x (by rw[hl];simp)) hxl;have hy1:=pre_holds (hmo y (by rw[hl];simp)) hyl;have hsx:preS m x=possP m x.1 xn:=by rw[preS,hxn];rfl
 have hsy:preS m y=possP m y.1 yn:=by rw[preS,hyn];rfl
 rw[<- hsx,hMn.nn,Int.toNat_natCast] at hx1;rw[<- hsy,hMn.nn,Int.toNat_natCast] at hy1;have hnn:=hMn.nn;have hn64:=hMn.n64;rw[hnn,Int.toNat_natCast] at hR0 hB;have hpx:x.1.pre[xn]? = some (x.1.pre.getD xn []):=q0f hxl;have hpy:y.1.pre[yn]? = some (y.1.pre.getD yn []):=q0f hyl;have hHx:=ck_Holds m (x.1.pre.getD xn []) hf;have hHy:=ck_Holds m (y.1.pre.getD yn []) hf;rw[hx1.1] at hHx;rw[hy1.1] at hHy;have hs64:preS m x<2^64:=Nat.lt_of_lt_of_le hx1.2 (z0j hn64);have ht64:preS m y<2^64:=Nat.lt_of_lt_of_le hy1.2 (z0j hn64);have hAx:=fun w:Nat=>pr_At m (w:Int) x.1 (xn:Int) hf hSx.fit hSx.rel hSx.post
 have hAy:=fun w:Nat=>pr_At m (w:Int) y.1 (yn:Int) hf hSy.fit hSy.rel hSy.post
 rw[hxn,hyn] at hB;have hD:∀ w,difW m x y B w=bif (preS m x).testBit w != (preS m y).testBit w then true else bif (preS m x).testBit w then !B w else false:=fun w=>rfl
 generalize difW m x y B=D at hD hR0;generalize preS m x=s at *;generalize preS m y=t at *;refine⟨Unit,fun _=>[(3,.ref 0 0),(4,.ref 1 0),(5,.ref 2 0),(20,.pv (u64 s))],fun _=>3,fun _=>[(0,.var (q0e m)),(1,.var (q0t (x.1,(xn:Int)))),(2,.var (q0t (y.1,(yn:Int))))],?_,?_⟩
 ·(try conv=>whnf);repeat' (first|(apply And.intro<;>try conv=>whnf)|(apply q0i;rfl)|(refine q0w (by kernel_rfl) ?_;try conv=>whnf)|(refine⟨_,_,rfl,q0a (by with_reducible assumption),rfl,?_⟩;try conv=>whnf)|(refine⟨_,(by (conv=>whnf);exact hHx),rfl,?_⟩;try conv=>whnf)|fail)
  exact⟨(),(by exact Wk.s rfl)⟩
 rintro⟨⟩;refine⟨Unit,fun _=>[(3,.ref 0 0),(4,.ref 1 0),(5,.ref 2 0),(20,.pv (u64 s)),(22,.pv (u64 t))],fun _=>3,fun _=>[(0,.var (q0e m)),(1,.var (q0t (x.1,(xn:Int)))),(2,.var (q0t (y.1,(yn:Int))))],?_,?_⟩
 ·(try conv=>whnf);repeat' (first|(apply And.intro<;>try conv=>whnf)|(apply q0i;rfl)|(refine q0w (by kernel_rfl) ?_;try conv=>whnf)|(refine⟨_,_,rfl,q0a (by with_reducible assumption),rfl,?_⟩;try conv=>whnf)|(refine⟨_,(by (conv=>whnf);exact hHy),rfl,?_⟩;try conv=>whnf)|fail)
  exact⟨(),(by exact Wk.s rfl)⟩
 rintro⟨⟩;refine⟨{ _x:Unit // ∀ v,v<n->D v=false },fun _=>[],fun _=>3,fun _=>[],?_,?_⟩
 ·try conv=>whnf
  refine⟨{ w:Nat // w<=n/\∀ v,v<w->D v=false },fun w=>[(3,.ref 0 0),(4,.ref 1 0),(5,.ref 2 0),(20,.pv (u64 s)),(22,.pv (u64 t)),(122,.pv (.int .i64 m.n)),(123,.pv (i64 w.1))],fun _=>3,fun _=>[(0,.var (q0e m)),(1,.var (q0t (x.1,(xn:Int)))),(2,.var (q0t (y.1,(yn:Int))))],fun w=>n-w.1,⟨⟨0,Nat.zero_le _,fun v h=>by omega⟩,(by exact Wk.s rfl)⟩,?_⟩;rintro⟨w,hw,hnow⟩
  (try conv=>whnf);repeat' (first|((first|apply And.intro|intro h)<;>try conv=>whnf))
  ·have hw':w<n:=by
    have h2:decide ((w:Int)<m.n)=true:=h;have:=of_decide_eq_true h2;rw[hnn] at this;omega
   have hbs:andU (shrU (s:Nat) (w:Nat)) 1=if s.testBit w then 1 else 0:=bit_and s w hs64 (by omega)
   have hbt:andU (shrU (t:Nat) (w:Nat)) 1=if t.testBit w then 1 else 0:=bit_and t w ht64 (by omega)
   have hDw:=hD w;refine⟨{ _x:Unit // s.testBit w=t.testBit w },fun _=>[(3,.ref 0 0),(4,.ref 1 0),(5,.ref 2 0),(20,.pv (u64 s)),(22,.pv (u64 t)),(122,.pv (.int .i64 m.n)),(123,.pv (i64 w)),(24,.pv (i64 w))],fun _=>3,fun _=>[(0,.var (q0e m)),(1,.var (q0t (x.1,(xn:Int)))),(2,.var (q0t (y.1,(yn:Int))))],?_,?_⟩
   ·(try conv=>whnf);repeat' (first|((first|apply And.intro|intro h)<;>try conv=>whnf)|(refine q0w (by kernel_rfl) ?_;try conv=>whnf)|fail)
    ·exact Int.natCast_nonneg _
    ·exact Int.natCast_nonneg _
    ·have h2:(andU (shrU (s:Nat) (w:Nat)) 1 != andU (shrU (t:Nat) (w:Nat)) 1)=true:=h;rw[hbs,hbt] at h2
     have h3:D w=true:=by
      rw[hDw]
      cases hq:s.testBit w<;>cases hq2:t.testBit w<;>rw[hq,hq2] at h2<;>first|rfl|exact absurd h2 (by decide)
     rw[hR0,firW_yes hw' h3 hnow];exact .refl _
    ·refine⟨⟨(),?_⟩,(by exact Wk.s rfl)⟩;have h2:(andU (shrU (s:Nat) (w:Nat)) 1 != andU (shrU (t:Nat) (w:Nat)) 1)=false:=h;rw[hbs,hbt] at h2
     cases hq:s.testBit w<;>cases hq2:t.testBit w<;>rw[hq,hq2] at h2<;>first|rfl|exact absurd h2 (by decide)
   rintro⟨_,hst⟩;refine⟨{ _x:Unit // s.testBit w=true },fun _=>[(3,.ref 0 0),(4,.ref 1 0),(5,.ref 2 0),(20,.pv (u64 s)),(22,.pv (u64 t)),(122,.pv (.int .i64 m.n)),(123,.pv (i64 w)),(24,.pv (i64 w))],fun _=>3,fun _=>[(0,.var (q0e m)),(1,.var (q0t (x.1,(xn:Int)))),(2,.var (q0t (y.1,(yn:Int))))],?_,?_⟩
   ·(try conv=>whnf);repeat' (first|((first|apply And.intro|intro h)<;>try conv=>whnf))
    ·exact Int.natCast_nonneg _
    ·have h2:(andU (shrU (s:Nat) (w:Nat)) 1==0)=true:=h;rw[hbs] at h2
     have hq:s.testBit w=false:=by
      cases hq:s.testBit w with
      |false=>rfl
      |true=>rw[hq] at h2;exact absurd h2 (by decide)
     have h3:D w=false:=by rw[hDw,<- hst,hq];rfl
     refine⟨⟨w+1,hw',fun v hv => ?_⟩,by show n-(w+1)<n-w;omega,(by refine Wk.of ?_ ?_ rfl rfl rfl<;>repeat' (first|exact trivial|exact WkD.same _|exact WkO.same _ _ rfl|refine WkD.int ?_|refine⟨?_,?_⟩|(apply q0h;(focus simp;done);all_goals (try dsimp only);omega)|fail))⟩
     by_cases e:v<w
     ·exact hnow v e
     ·rw[show v=w by omega];exact h3
    ·refine⟨⟨(),?_⟩,(by exact Wk.s rfl)⟩;have h2:(andU (shrU (s:Nat) (w:Nat)) 1==0)=false:=h;rw[hbs] at h2
     cases hq:s.testBit w with
     |true=>rfl
     |false=>rw[hq] at h2;exact absurd h2 (by decide)
   rintro⟨_,hsw⟩;obtain⟨c,hBw⟩:=hB w hw' hsw (by rw[<- hst];exact hsw);have hAx:=hAx w;have hAy:=hAy w;generalize atI m w x.1 xn=X at hAx hBw;generalize atI m w y.1 yn=Y at hAy hBw;refine⟨Unit,fun _=>[(3,.ref 0 0),(4,.ref 1 0),(5,.ref 2 0),(20,.pv (u64 s)),(22,.pv (u64 t)),(122,.pv (.int .i64 m.n)),(123,.pv (i64 w)),(24,.pv (i64 w)),(25,.ref 3 0),(26,.pv (.int .i64 X.2.1))],fun _=>4,fun _=>[(0,.var (q0e m)),(1,.var (q0t (x.1,(xn:Int)))),(2,.var (q0t (y.1,(yn:Int)))),(3,.var (q0e X.1))],?_,?_⟩
   ·(try conv=>whnf);repeat' (first|(refine PureFn.dy hAx rfl ?_;try conv=>whnf)|fail)
    exact⟨(),(by exact Wk.s rfl)⟩
   rintro⟨⟩;refine⟨Unit,fun _=>[(3,.ref 0 0),(4,.ref 1 0),(5,.ref 2 0),(20,.pv (u64 s)),(22,.pv (u64 t)),(122,.pv (.int .i64 m.n)),(123,.pv (i64 w)),(24,.pv (i64 w)),(25,.ref 3 0),(26,.pv (.int .i64 X.2.1)),(28,.ref 4 0),(29,.pv (.int .i64 Y.2.1))],fun _=>5,fun _=>[(0,.var (q0e m)),(1,.var (q0t (x.1,(xn:Int)))),(2,.var (q0t (y.1,(yn:Int)))),(3,.var (q0e X.1)),(4,.var (q0e Y.1))],?_,?_⟩
   ·(try conv=>whnf);repeat' (first|(refine PureFn.dy hAy rfl ?_;try conv=>whnf)|fail)
    exact⟨(),(by exact Wk.s rfl)⟩
   rintro⟨⟩;refine⟨Unit,fun _=>[(3,.ref 0 0),(4,.ref 1 0),(5,.ref 2 0),(20,.pv (u64 s)),(22,.pv (u64 t)),(122,.pv (.int .i64 m.n)),(123,.pv (i64 w)),(24,.pv (i64 w)),(31,.pv (.bool (B w)))],fun _=>3,fun _=>[(0,.var (q0e m)),(1,.var (q0t (x.1,(xn:Int)))),(2,.var (q0t (y.1,(yn:Int))))],?_,?_⟩
   ·(try conv=>whnf);repeat' (first|(refine PureFn.dy hBw rfl ?_;try conv=>whnf)|fail)
    exact⟨(),(by exact Wk.s rfl)⟩
   rintro⟨⟩;have h3:D w=!B w:=by rw[hDw,<- hst,hsw];rfl
   (try conv=>whnf);repeat' (first|((first|apply And.intro|intro h)<;>try conv=>whnf))
   ·have hb:(!B w)=true:=h;rw[hR0,firW_yes hw' (h3.trans hb) hnow];exact .refl _
   ·have hb:(!B w)=false:=h;refine⟨⟨w+1,hw',fun v hv => ?_⟩,by show n-(w+1)<n-w;omega,(by refine Wk.of ?_ ?_ rfl rfl rfl<;>repeat' (first|exact trivial|exact WkD.same _|exact WkO.same _ _ rfl|refine WkD.int ?_|refine⟨?_,?_⟩|(apply q0h;(focus simp;done);all_goals (try dsimp only);omega)|fail))⟩
    by_cases e:v<w
    ·exact hnow v e
    ·rw[show v=w by omega];exact h3.trans hb
  ·have hw':w=n:=by
    have h2:decide ((w:Int)<m.n)=false:=h;have:=of_decide_eq_false h2;rw[hnn] at this;omega
   subst hw';exact⟨⟨(),hnow⟩,(by exact Wk.s rfl)⟩
 rintro⟨_,hall⟩
 try conv=>whnf
 rw[hR0,firW_no hall];exact .refl _
end Go.Proofs.YtejbieopeicgkaaGreatDoor
