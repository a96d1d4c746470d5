/- Parts of the proof, one after the other: Alike events: alike of the program walked. Alike events: Alike of the program walked. Simplified action models: what the program makes of one (plain), the place of an event walked. Simplified action models: Simplify of the program walked. Simplified formulas: where they hold (plain). Formulas: the order of formulas is linear; subformulas are no greater (plain). -/
import Derived.Test.YtejbieopeicgkaaGreatDoorM10
set_option maxRecDepth 100000
set_option maxHeartbeats 4000000
namespace Go.Proofs.YtejbieopeicgkaaGreatDoor
open Go Go.Dv
def colZ (z:List (List Bool)) (e:Nat):List PV:=(z.getD e []).map PV.bool
def lenZ (z:List (List Bool)) (e:Nat):Nat:=(colZ z e).length
def AT (a b:Act) (n:Nat) (z:List (List Bool)):List (Nat×DObj):=(0,.var (cellsA a))::(1,.var (cellsA b))::(2,.var (tabC n (lenZ z)))::tabO n (colZ z)
theorem AT_get {a b:Act} {n e:Nat} {z:List (List Bool)} (h:e<n):objsOf (AT a b n z) (e+8)=some (.arr 1 (colZ z e)):=tabO_get h
theorem AT_in {a b:Act} {n nx:Nat} {z:List (List Bool)} (hn:n≤8) (hnx:16≤nx):∀ q,q∈AT a b n z→q.1<nx∧q.2.under nx=true:=fun q hq=>by
 rcases List.mem_cons.1 hq with rfl|hq
 ·exact⟨by show 0<nx;omega,rfl⟩
 rcases List.mem_cons.1 hq with rfl|hq
 ·exact⟨by show 1<nx;omega,rfl⟩
 rcases List.mem_cons.1 hq with rfl|hq
 ·refine⟨by show 2<nx;omega,unders_mem.2 fun d hd => ?_⟩
  obtain⟨e,he,rfl⟩:=List.mem_map.1 hd
  have he:=List.mem_range.1 he
  show Nat.blt (e+8) nx=true
  rw[Nat.blt_eq];omega
 obtain⟨e,he,rfl⟩:=List.mem_map.1 hq
 have he:=List.mem_range.1 he
 exact⟨by show e+8<nx;omega,rfl⟩
theorem AT_all {a b:Act} {n nx:Nat} {z:List (List Bool)} {g:Nat→Option DObj} {L:DH} (hn:n≤8) (hnx:16≤nx) (h0:g 0=some (.var (cellsA a))) (h1:g 1=some (.var (cellsA b))) (h2:g 2=some (.var (tabC n (lenZ z)))) (h:∀ e,e<n→g (e+8)=some (.arr 1 (colZ z e))) :
  ∀ q,q∈AT a b n z→(g q.1=some q.2∨(g q.1=none∧L.next≤q.1∧∃ sz,q.2=.arr sz []))∧q.1<nx∧q.2.under nx=true:=fun q hq=>by
 refine⟨.inl ?_,AT_in hn hnx q hq⟩
 rcases List.mem_cons.1 hq with rfl|hq
 ·exact h0
 rcases List.mem_cons.1 hq with rfl|hq
 ·exact h1
 rcases List.mem_cons.1 hq with rfl|hq
 ·exact h2
 obtain⟨e,he,rfl⟩:=List.mem_map.1 hq
 exact h e (List.mem_range.1 he)
theorem AT_mid {a b:Act} {n nx:Nat} (hn:n≤8) (hnx:16≤nx) {z:List (List Bool)} {g:Nat→Option DObj} {L:DH} (h:∀ k,k<16→g k=objsOf (AT a b n z) k) :
  ∀ q,q∈AT a b n z→(g q.1=some q.2∨(g q.1=none∧L.next≤q.1∧∃ sz,q.2=.arr sz []))∧q.1<nx∧q.2.under nx=true :=
 AT_all (g:=g) hn hnx ((h 0 (by omega)).trans rfl) ((h 1 (by omega)).trans rfl) ((h 2 (by omega)).trans rfl) fun e he=>(h (e+8) (by omega)).trans (AT_get he)
def nilT (n:Nat):List (List Bool):=List.replicate n []
theorem colZ_nil (n e:Nat):colZ (nilT n) e=[]:=by
 unfold colZ nilT
 rw[List.getD_eq_getElem?_getD,List.getElem?_replicate]
 split<;>rfl
theorem AT_start {a b:Act} {n:Nat} (hn:n≤8) {L:DH} (h0:L.get 0=some (.var (cellsA a))) (h1:L.get 1=some (.var (cellsA b))) (h2:L.get 2=some (.var (List.replicate n (.pv .nil)))) (hno:∀ k,3≤k→L.get k=none) (hnx:L.next≤8) :
  ∀ q,q∈AT a b n (nilT n)→WkO L (AT a b n (nilT n)) q.1 q.2∧(L.get q.1=none→L.next≤q.1)∧q.1<16∧q.2.under 16=true:=fun q hq=>by
 refine⟨?_,?_,AT_in hn (Nat.le_refl 16) q hq⟩
 ·rcases List.mem_cons.1 hq with rfl|hq
  ·exact .same _ _ h0
  rcases List.mem_cons.1 hq with rfl|hq
  ·exact .same _ _ h1
  rcases List.mem_cons.1 hq with rfl|hq
  ·refine .var 2 _ _ h2 (by rw[tabC_len,List.length_replicate]) fun i d d' hd hd' => ?_
   have hi:i<n:=by
    have:=(List.getElem?_eq_some_iff.1 hd).1
    simpa using this
   rw[List.getElem?_replicate,if_pos hi] at hd
   rw[tabC_get hi] at hd'
   obtain rfl:=Option.some.inj hd
   obtain rfl:=Option.some.inj hd'
   rw[lenZ,colZ_nil]
   exact .new _ (i+8) 1 (.inl rfl) (hno _ (by omega)) (by rw[AT_get hi,colZ_nil])
  obtain⟨e,he,rfl⟩:=List.mem_map.1 hq
  show WkO L _ (e+8) (.arr 1 (colZ (nilT n) e))
  rw[colZ_nil]
  exact .new _ 1 (hno _ (by show 3≤e+8;omega))
 ·rcases List.mem_cons.1 hq with rfl|hq
  ·intro h;rw[h0] at h;cases h
  rcases List.mem_cons.1 hq with rfl|hq
  ·intro h;rw[h1] at h;cases h
  rcases List.mem_cons.1 hq with rfl|hq
  ·intro h;rw[h2] at h;cases h
  obtain⟨e,he,rfl⟩:=List.mem_map.1 hq
  intro _
  show L.next≤e+8
  omega
def bldT (a b:Act) (e f:Nat):List (List Bool):=(List.range a.pre.length).map fun e'=>if e'<e then row0 a b e' else if e'=e then (row0 a b e).take f else []
theorem bld_at {a b:Act} {e f e':Nat} (h:e'<a.pre.length):(bldT a b e f).getD e' []=if e'<e then row0 a b e' else if e'=e then (row0 a b e).take f else []:=by
 rw[bldT,List.getD_eq_getElem?_getD,List.getElem?_map,List.getElem?_range h];rfl
theorem bld_nil (a b:Act):bldT a b 0 0=nilT a.pre.length:=by
 apply List.ext_getElem?
 intro i
 rw[bldT,nilT,List.getElem?_map,List.getElem?_replicate]
 by_cases h:i<a.pre.length
 ·rw[List.getElem?_range h,if_pos h]
  simp
 ·rw[List.getElem?_eq_none (by simp;omega),if_neg h];rfl
theorem row0_len (a b:Act) (e:Nat):(row0 a b e).length=b.pre.length:=by simp[row0]
theorem bld_next (a b:Act) (e:Nat):bldT a b e b.pre.length=bldT a b (e+1) 0:=by
 refine List.map_congr_left fun e' _ => ?_
 have h1:(row0 a b e).take b.pre.length=row0 a b e:=by rw[← row0_len a b e,List.take_length]
 by_cases h:e'<e
 ·rw[if_pos h,if_pos (by omega)]
 ·by_cases h2:e'=e
  ·subst h2
   rw[if_neg h,if_pos rfl,if_pos (by omega),h1]
  ·rw[if_neg h,if_neg h2,if_neg (by omega)]
   simp
theorem bld_all (a b:Act):bldT a b a.pre.length 0=tab0 a b:=List.map_congr_left fun e' h=>by rw[if_pos (List.mem_range.1 h)]
theorem bld_cell {a b:Act} {e f:Nat} (he:e<a.pre.length) (hf:f<b.pre.length):colZ (bldT a b e (f+1)) e=colZ (bldT a b e f) e++[.bool (z0B a b e f)]:=by
 have h:(row0 a b e)[f]? = some (z0B a b e f):=by rw[row0,List.getElem?_map,List.getElem?_range hf];rfl
 rw[colZ,colZ,bld_at he,bld_at he,if_neg (Nat.lt_irrefl e),if_pos rfl,if_neg (Nat.lt_irrefl e),if_pos rfl,tak_map h]
theorem bld_else {a b:Act} {e f e':Nat} (h:e'≠e):colZ (bldT a b e (f+1)) e'=colZ (bldT a b e f) e':=by
 by_cases he:e'<a.pre.length
 ·rw[colZ,colZ,bld_at he,bld_at he,if_neg h,if_neg h]
 ·rw[colZ,colZ,List.getD_eq_getElem?_getD,List.getD_eq_getElem?_getD,List.getElem?_eq_none (by simp[bldT];omega),List.getElem?_eq_none (by simp[bldT];omega)]
theorem frz1s_rows (col:Nat→List PV):∀ (l:List Nat) (L:DH) (K:List PV→DH→Prop),(∀ e,e∈l→L.get (e+8)=some (.arr 1 (col e))∨L.get (e+8)=some (.fz (col e)))→L.lo≤8→(∀ L',K (l.map fun e=>.sl (col e)) L')→frz1s (l.map fun e=>.buf (e+8) (col e).length) L K
 | [],L,_,_,_,hK=>hK L
 |e::r,L,K,h,hlo,hK=>by
  rw[List.map_cons,frz1s,frz1]
  rcases h e (by simp) with h1|h1
  ·rw[h1]
   refine⟨rfl,by rw[Nat.ble_eq];omega,frz1s_rows col r _ _ (fun e' he' => ?_) hlo fun L'=>hK L'⟩
   by_cases q:e'=e
   ·subst q;exact .inr (DH.put_same L _ _)
   ·rw[DH.put_ne L _ (by omega)];exact h e' (by simp[he'])
  ·rw[h1]
   exact⟨rfl,frz1s_rows col r _ _ (fun e' he'=>h e' (by simp[he'])) hlo fun L'=>hK L'⟩
theorem brw1s_rows (col:Nat→List PV) (L:DH):∀ (l:List Nat) (K:List PV→Prop),(∀ e,e∈l→L.get (e+8)=some (.arr 1 (col e)))→K (l.map fun e=>.sl (col e))→brw1s (l.map fun e=>.buf (e+8) (col e).length) L K
 | [],_,_,hK=>hK
 |e::r,K,h,hK=>by
  rw[List.map_cons,brw1s,brw1,h e (by simp)]
  exact⟨rfl,brw1s_rows col L r _ (fun e' he'=>h e' (by simp[he'])) hK⟩
theorem tabPV_rows {z:List (List Bool)} {n:Nat} (h:z.length=n):tabPV z=.sl ((List.range n).map fun e=>.sl (colZ z e)):=by
 rw[tabPV]
 congr 1
 apply List.ext_getElem?
 intro i
 rw[List.getElem?_map,List.getElem?_map]
 by_cases hi:i<n
 ·rw[List.getElem?_range hi,getD_mem (d:=[]) (by rw[h];exact hi)];rfl
 ·rw[List.getElem?_eq_none (by rw[h];omega),List.getElem?_eq_none (by simp;omega)];rfl
theorem mt_brws {a b:Act} {n:Nat} {Z:List (List Bool)} {L:DH} (h2:L.get 2=some (.var (tabC n (lenZ Z)))) (hr:∀ e,e<n→L.get (e+8)=some (.arr 1 (colZ Z e))) (hz:tabPV Z=.sl ((List.range n).map fun e=>.sl (colZ Z e))) (e f:Nat) :
  brws [.agg (cellsA a),.agg (cellsA b),.vbuf 2 n,.pv (i64 e),.pv (i64 f)] L fun qs=>PLes qs [a.pv,b.pv,tabPV Z,i64 e,i64 f]:=by
 rw[hz]
 show (match L.get 2 with
   |some (.var cs)=>brw1s cs L (fun ps=>n=ps.length∧ps.all PV.one=true∧PLes [a.pv,b.pv,.sl ps,i64 e,i64 f] [a.pv,b.pv,.sl ((List.range n).map fun e=>.sl (colZ Z e)),i64 e,i64 f])
   |_=>False)
 rw[h2]
 refine brw1s_rows (colZ Z) L (List.range n) _ (fun e he=>hr e (List.mem_range.1 he)) ⟨by simp,by simp[PV.one],.refl _,.refl _,.refl _,.refl _,.refl _,trivial⟩
theorem colZ_clr {z:List (List Bool)} {e f:Nat} (he:e<z.length):colZ (clrT z e f) e=(colZ z e).set f (.bool false):=by
 unfold colZ clrT
 rw[List.getD_eq_getElem?_getD,List.getElem?_set,if_pos rfl,if_pos he,Option.getD_some,List.map_set]
theorem colZ_cle {z:List (List Bool)} {e f e':Nat} (h:e'≠e):colZ (clrT z e f) e'=colZ z e':=by
 unfold colZ clrT
 rw[List.getD_eq_getElem?_getD,List.getElem?_set,if_neg (fun q=>h q.symm),← List.getD_eq_getElem?_getD]
theorem lenZ_clr (z:List (List Bool)) (e f e':Nat):lenZ (clrT z e f) e'=lenZ z e':=by
 by_cases h:e'=e
 ·subst h
  by_cases he:e'<z.length
  ·rw[lenZ,lenZ,colZ_clr he,List.length_set]
  ·have:clrT z e' f=z:=by rw[clrT,List.set_eq_of_length_le (by omega)]
   rw[this]
 ·rw[lenZ,lenZ,colZ_cle h]
theorem tabC_clr (z:List (List Bool)) (n e f:Nat):tabC n (lenZ (clrT z e f))=tabC n (lenZ z):=by
 rw[show lenZ (clrT z e f)=lenZ z from funext fun e'=>lenZ_clr z e f e']
theorem al1 (x y:Asg):PureFn Tryz.prog 107 [x.pv,y.pv] (.bool (asS x y)):=by
 refine PureFn.intro mixed (fn:=Tryz.f107) rfl rfl rfl fun M w0 => ?_
 (try conv=>whnf);repeat' (first|(apply And.intro<;>try conv=>whnf)|(intro h;try conv=>whnf)|apply True.intro|(apply WhenQ.mk;(try conv=>whnf);rotate_left;(try conv=>whnf);rotate_right)|with_reducible assumption|(refine PureFn.dcq (f:=33) rfl ?_;try conv=>whnf)|(refine⟨_,_,fm_Same ?_ ?_,?_,?_⟩;rotate_left 2;(focus first|(refine⟨?_,?_,trivial⟩<;>first|exact PLe.refl _|exact PLe.nil)|exact trivial);try conv=>whnf)|fail)
 all_goals exact .refl _
theorem cp_alike (a b:Act) (hA:Shp a a.pre.length) (hB:Shp b b.pre.length) (hr:a.rel.length=b.rel.length) (hpa:∀ l,l∈a.post→l.length≤1000) (h0:0<a.pre.length):PureFn Tryz.prog 55 [a.pv,b.pv] (tabPV (alkI a b (tab0 a b))):=by
 have hn:=hA.n8
 have hm:=hB.n8
 refine PureFn.introC [2,12] mixed (fn:=Tryz.f55) rfl rfl rfl fun M w0 => ?_
 have hN:((a.pre.map fpv).length:Int).toNat=a.pre.length:=by simp
 try conv=>whnf
 refine⟨Unit,fun _=>[(2,.ref 0 0),(3,.ref 1 0),(5,.vbuf 2 a.pre.length)],fun _=>16,fun _=>AT a b a.pre.length (nilT a.pre.length),?_,?_⟩
 ·(try conv=>whnf);repeat' (first|(apply And.intro<;>try conv=>whnf)|(apply Or.inr;refine⟨rfl,?_,rfl,?_⟩;try conv=>whnf)|fail)
  all_goals first
   |rfl
   |exact (show (0:Int)≤((a.pre.map fpv).length:Int) from Int.natCast_nonneg _)
   |exact (show ((a.pre.map fpv).length:Int)≤(big:Nat) by rw[List.length_map];unfold big;omega)
   |exact (show (0:Int)<((a.pre.map fpv).length:Int) by rw[List.length_map];omega)
   |skip
  rw[hN]
  refine⟨(),Wk.ofP ⟨.same _,.same _,.same _,trivial⟩ rfl rfl rfl (AT_start hn rfl rfl rfl (fun k hk => ?_) (show 3≤8 by decide))⟩
  show (bif Nat.beq k 2 then _ else bif Nat.beq k 1 then _ else bif Nat.beq k 0 then _ else none)=none
  rw[beq_no (by omega),beq_no (by omega),beq_no (by omega)];rfl
 rintro⟨⟩
 refine⟨Unit,fun _=>[(2,.ref 0 0),(3,.ref 1 0),(5,.vbuf 2 a.pre.length)],fun _=>16,fun _=>AT a b a.pre.length (tab0 a b),?_,?_⟩
 ·try conv=>whnf
  refine⟨{ e:Nat // e≤a.pre.length },fun e=>[(2,.ref 0 0),(3,.ref 1 0),(5,.vbuf 2 a.pre.length),(18,.pv (i64 (a.pre.map fpv).length)),(19,.pv (i64 e.1))],fun _=>16,fun e=>AT a b a.pre.length (bldT a b e.1 0),fun e=>a.pre.length-e.1,⟨⟨0,Nat.zero_le _⟩,?_⟩,?_⟩
  ·show Wk _ _ _ _ (AT a b a.pre.length (bldT a b 0 0))
   rw[bld_nil]
   (refine Wk.ofN 0 ?_ ?_ rfl rfl rfl ?_<;>repeat' (first|exact trivial|exact WkD.same _|refine⟨?_,?_⟩|fail))
   exact AT_mid hn (Nat.le_refl 16) fun k hk=>rfl
  rintro⟨e,he⟩
  (try conv=>whnf);repeat' (first|(apply And.intro<;>try conv=>whnf)|(intro h;try conv=>whnf)|fail)
  ·have he':e<a.pre.length:=by simpa using lt_dec h
   refine⟨{ f:Nat // f≤b.pre.length },fun f=>[(2,.ref 0 0),(3,.ref 1 0),(5,.vbuf 2 a.pre.length),(18,.pv (i64 (a.pre.map fpv).length)),(19,.pv (i64 e)),(6,.pv (i64 e)),(24,.pv (i64 (b.pre.map fpv).length)),(25,.pv (i64 f.1))],fun _=>16,fun f=>AT a b a.pre.length (bldT a b e f.1),fun f=>b.pre.length-f.1,⟨⟨0,Nat.zero_le _⟩,?_⟩,?_⟩
   ·(refine Wk.ofN 0 ?_ ?_ rfl rfl rfl ?_<;>repeat' (first|exact trivial|exact WkD.same _|refine⟨?_,?_⟩|fail))
    exact AT_mid hn (Nat.le_refl 16) fun k hk=>rfl
   rintro⟨f,hf⟩
   (try conv=>whnf);repeat' (first|(apply And.intro<;>try conv=>whnf)|(intro h;try conv=>whnf)|fail)
   ·have hf':f<b.pre.length:=by simpa using lt_dec h
    obtain⟨pa,hpa'⟩:∃ y,a.pre[e]? = some y:=⟨_,List.getElem?_eq_getElem he'⟩
    obtain⟨pb,hpb'⟩:∃ y,b.pre[f]? = some y:=⟨_,List.getElem?_eq_getElem hf'⟩
    obtain⟨qa,hqa⟩:∃ y,a.post[e]? = some y:=⟨_,List.getElem?_eq_getElem (by rw[hA.post];exact he')⟩
    obtain⟨qb,hqb⟩:∃ y,b.post[f]? = some y:=⟨_,List.getElem?_eq_getElem (by rw[hB.post];exact hf')⟩
    have i1:=idx_map (g:=fpv) hpa'
    have i2:=idx_map (g:=fpv) hpb'
    have i3:=idx_map (g:=postPV) hqa
    have i4:=idx_map (g:=postPV) hqb
    have hql:=hpa qa (List.mem_iff_getElem?.2 ⟨_,hqa⟩)
    refine⟨Plan.lin 0 12,[10],by kernel_rfl,?_⟩
    (try conv=>whnf);repeat' (first|(apply And.intro<;>try conv=>whnf)|(apply infoT;rfl)|(refine⟨_,_,rfl,idx_map (by with_reducible assumption),rfl,?_⟩;try conv=>whnf)|fail)
    refine DC.alone (p:=.bool (eqL asS qa qb)) rfl (fun M w0=>eqf_A 107 asS rfl qa qb hql (fun s _ t _=>al1 s t) M w0) ?_
    have hS:=fm_Same pa pb
    try conv=>whnf
    refine⟨Plan.lin 0 24,[21,23],by kernel_rfl,?_⟩
    (try conv=>whnf);repeat' (first|(apply And.intro<;>try conv=>whnf)|(apply infoT;rfl)|fail)
    ·exact rfl
    refine⟨e,rfl,he',?_⟩
    try conv=>whnf
    rw[tabC_get he']
    (try conv=>whnf);repeat' (first|(apply And.intro<;>try conv=>whnf)|(intro h;try conv=>whnf)|apply True.intro|(apply infoT;rfl)|(apply cellsI;rfl)|(apply szI;rfl)|(apply WhenQ.mk;(try conv=>whnf);rotate_left;(try conv=>whnf);rotate_right)|with_reducible assumption|(refine⟨_,_,rfl,idx_map (by with_reducible assumption),rfl,?_⟩;try conv=>whnf)|(refine⟨_,(by (conv=>whnf);exact hS),rfl,?_⟩;try conv=>whnf)|fail)
    have hcl:(colZ (bldT a b e f) e).length≤8:=by
     rw[colZ,List.length_map,bld_at he',if_neg (Nat.lt_irrefl e),if_pos rfl,List.length_take];omega
    have hel:e+1≤(tabC a.pre.length (lenZ (bldT a b e f))).length:=by rw[tabC_len];exact he'
    rw[get_eq (k:=e+8) (o:=some (.arr 1 (colZ (bldT a b e f) e))) (AT_get (a:=a) (b:=b) he')]
    (try conv=>whnf);repeat' (first|(apply And.intro<;>try conv=>whnf)|(apply infoT;rfl)|(apply cellsI;rfl)|fail)
    all_goals first
     |exact (show (colZ (bldT a b e f) e).length+1≤4294967296 by omega)
     |exact rfl
     |skip
    refine⟨e,rfl,he',?_⟩
    try conv=>whnf
    rw[ble_s (e:=e) (b:=(tabC a.pre.length (lenZ (bldT a b e f))).length) ?_ hel]
    try conv=>whnf
    ·have hz:z0B a b e f=bif eqL asS qa qb then same pa pb else false:=by
      rw[z0B,List.getD_eq_getElem?_getD,List.getD_eq_getElem?_getD,List.getD_eq_getElem?_getD,List.getD_eq_getElem?_getD,hpa',hpb',hqa,hqb];rfl
     have hbc:=bld_cell (f:=f) he' hf'
     rw[hz] at hbc
     refine⟨⟨f+1,hf'⟩,by show b.pre.length-(f+1)<b.pre.length-f;omega,?_⟩
     (refine Wk.ofN 0 ?_ ?_ rfl rfl rfl ?_<;>repeat' (first|exact trivial|exact WkD.same _|refine WkD.int ?_|refine⟨?_,?_⟩|(refine wrapA ?_ ?_ ?_;(focus simp;done);(focus (try dsimp only);omega);(focus (try dsimp only);omega))|fail))
     refine AT_all (g:=_) hn (Nat.le_refl 16) rfl rfl ?_ fun e' hg' => ?_
     ·exact congrArg (fun z=>some (DObj.var z)) (tabC_put he' (by rw[lenZ,hbc]) (fun e' h=>by rw[lenZ,lenZ,bld_else h]))
     ·show (bif Nat.beq (e'+8) (e+8) then some (DObj.arr 1 (colZ (bldT a b e f) e++[.bool (bif eqL asS qa qb then same pa pb else false)])) else objsOf (AT a b a.pre.length (bldT a b e f)) (e'+8))=_
      by_cases q:e'=e
      ·rw[q,Nat.beq_refl,cond_true,hbc]
      ·rw[beq_no (by omega),cond_false,AT_get hg',bld_else q]
    ·exact rfl
   ·have hf':f=b.pre.length:=by have:=ge_dec (m:=(b.pre.map fpv).length) h (by simpa using hf);simpa using this
    subst hf'
    refine⟨⟨e+1,he'⟩,by show a.pre.length-(e+1)<a.pre.length-e;omega,?_⟩
    have hb:=bld_next a b e
    (refine Wk.ofN 0 ?_ ?_ rfl rfl rfl ?_<;>repeat' (first|exact trivial|exact WkD.same _|refine WkD.int ?_|refine⟨?_,?_⟩|(refine wrapA ?_ ?_ ?_;(focus simp;done);(focus (try dsimp only);omega);(focus (try dsimp only);omega))|fail))
    exact AT_mid hn (Nat.le_refl 16) fun k hk=>congrFun (congrArg (fun z=>objsOf (AT a b a.pre.length z)) hb) k
  ·have he':e=a.pre.length:=by have:=ge_dec (m:=(a.pre.map fpv).length) h (by simpa using he);simpa using this
   subst he'
   refine⟨(),?_⟩
   (refine Wk.ofN 0 ?_ ?_ rfl rfl rfl ?_<;>repeat' (first|exact trivial|exact WkD.same _|refine⟨?_,?_⟩|fail))
   exact AT_mid hn (Nat.le_refl 16) fun k hk=>congrFun (congrArg (fun z=>objsOf (AT a b a.pre.length z)) (bld_all a b)) k
 rintro⟨⟩
 have hT0:Tab (tab0 a b) a.pre.length b.pre.length:=⟨by simp[tab0],fun r hr=>by
  obtain⟨e,_,rfl⟩:=List.mem_map.1 hr
  exact row0_len a b e⟩
 obtain⟨R,hR⟩:∃ R,alkI a b (tab0 a b)=R:=⟨_,rfl⟩
 rw[hR]
 try conv=>whnf
 refine⟨{ x:List (List Bool)×Bool // Tab x.1 a.pre.length b.pre.length∧(x.2=true→alkI a b x.1=R)∧(x.2=false→x.1=R) },fun x=>[(2,.ref 0 0),(3,.ref 1 0),(5,.vbuf 2 a.pre.length),(9,.pv (.bool x.1.2))],fun _=>16,fun x=>AT a b a.pre.length x.1.1,fun x=>2*cntZ x.1.1 a.pre.length b.pre.length+(bif x.1.2 then 1 else 0),⟨⟨(tab0 a b,true),hT0,fun _=>hR,fun h=>(by cases h)⟩,?_⟩,?_⟩
 ·(refine Wk.ofN 0 ?_ ?_ rfl rfl rfl ?_<;>repeat' (first|exact trivial|exact WkD.same _|refine⟨?_,?_⟩|fail))
  exact AT_mid hn (Nat.le_refl 16) fun k hk=>rfl
 rintro⟨⟨z,ch⟩,hz,hy,hno⟩
 simp only at hz hy hno
 (try conv=>whnf);repeat' (first|(apply And.intro<;>try conv=>whnf)|(intro h;try conv=>whnf)|fail)
 ·have hyR:=hy h
  have hO:=fun (k:Nat) (hk:k≤a.pre.length)=>(OkS.start hz).pass (a:=a) (b:=b) (k:=k) hk
  refine⟨{ e:Nat // e≤a.pre.length },fun e=>[(2,.ref 0 0),(3,.ref 1 0),(5,.vbuf 2 a.pre.length),(9,.pv (.bool (passZ a b b.pre.length e.1 (z,false)).2)),(66,.pv (i64 a.pre.length)),(67,.pv (i64 e.1))],fun _=>16,fun e=>AT a b a.pre.length (passZ a b b.pre.length e.1 (z,false)).1,fun e=>a.pre.length-e.1,⟨⟨0,Nat.zero_le _⟩,?_⟩,?_⟩
  ·(refine Wk.ofN 0 ?_ ?_ rfl rfl rfl ?_<;>repeat' (first|exact trivial|exact WkD.same _|refine⟨?_,?_⟩|fail))
   exact AT_mid hn (Nat.le_refl 16) fun k hk=>rfl
  rintro⟨e,he⟩
  (try conv=>whnf);repeat' (first|(apply And.intro<;>try conv=>whnf)|(intro h;try conv=>whnf)|(apply infoT;rfl)|fail)
  ·exact rfl
  ·have he':e<a.pre.length:=by
    have h2:decide ((e:Int)<((a.pre.length:Nat):Int))=true:=by assumption
    have:=of_decide_eq_true h2
    omega
   refine⟨e,rfl,he',?_⟩
   try conv=>whnf
   rw[tabC_get he']
   try conv=>whnf
   have hOe:=hO e (by omega)
   have hre:∀ z:List (List Bool),Tab z a.pre.length b.pre.length→lenZ z e=b.pre.length:=fun z hz=>by
    rw[lenZ,colZ,List.length_map]
    exact hz.row _ (List.mem_iff_getElem?.2 ⟨e,getD_mem (by rw[hz.len];exact he')⟩)
   refine⟨{ f:Nat // f≤b.pre.length },fun f=>[(2,.ref 0 0),(3,.ref 1 0),(5,.vbuf 2 a.pre.length),(9,.pv (.bool (rowZ a b e f.1 (passZ a b b.pre.length e (z,false))).2)),(66,.pv (i64 a.pre.length)),(67,.pv (i64 e)),(10,.pv (i64 e)),(74,.pv (i64 (lenZ (passZ a b b.pre.length e (z,false)).1 e))),(75,.pv (i64 f.1))],fun _=>16,fun f=>AT a b a.pre.length (rowZ a b e f.1 (passZ a b b.pre.length e (z,false))).1,fun f=>b.pre.length-f.1,⟨⟨0,Nat.zero_le _⟩,?_⟩,?_⟩
   ·(refine Wk.ofN 0 ?_ ?_ rfl rfl rfl ?_<;>repeat' (first|exact trivial|exact WkD.same _|refine⟨?_,?_⟩|fail))
    exact AT_mid hn (Nat.le_refl 16) fun k hk=>rfl
   rintro⟨f,hf⟩
   have hle:=hre _ hOe.tab
   (try conv=>whnf);repeat' (first|(apply And.intro<;>try conv=>whnf)|(intro h;try conv=>whnf)|(apply infoT;rfl)|fail)
   ·exact rfl
   ·have hf':f<b.pre.length:=by
     have h2:decide ((f:Int)<((lenZ (passZ a b b.pre.length e (z,false)).1 e:Nat):Int))=true:=by assumption
     have:=of_decide_eq_true h2
     omega
    have hOr:=hOe.row (a:=a) (b:=b) he' (k:=f) (by omega)
    have hls:=hre _ hOr.tab
    obtain⟨t1,t2⟩:=hOr.tab.at he' hf'
    have t3:(colZ (rowZ a b e f (passZ a b b.pre.length e (z,false))).1 e)[f]? = some (.bool (zAt (rowZ a b e f (passZ a b b.pre.length e (z,false))).1 e f)):=by rw[colZ,List.getElem?_map,t2];rfl
    refine⟨e,rfl,he',?_⟩
    try conv=>whnf
    rw[tabC_get he']
    try conv=>whnf
    rw[get_eq (k:=e+8) (o:=some (.arr 1 (colZ (rowZ a b e f (passZ a b b.pre.length e (z,false))).1 e))) (AT_get (a:=a) (b:=b) he')]
    (try conv=>whnf);repeat' (first|(apply And.intro<;>try conv=>whnf)|fail)
    ·exact rfl
    refine⟨f,rfl,by rw[hls];exact hf',?_⟩
    try conv=>whnf
    rw[get_eq (k:=e+8) (o:=some (.arr 1 (colZ (rowZ a b e f (passZ a b b.pre.length e (z,false))).1 e))) (AT_get (a:=a) (b:=b) he')]
    refine⟨rfl,_,t3,?_⟩
    have hMt:=cp_matched a b a.pre.length b.pre.length hA hB hr (rowZ a b e f (passZ a b b.pre.length e (z,false))).1 hOr.tab e f he' hf'
    have htp:=tabPV_rows hOr.tab.len
    have hg8:∀ e',e'<a.pre.length→objsOf (AT a b a.pre.length (rowZ a b e f (passZ a b b.pre.length e (z,false))).1) (e'+8)=some (.arr 1 (colZ (rowZ a b e f (passZ a b b.pre.length e (z,false))).1 e')):=fun e' h=>AT_get h
    generalize hv:zAt (rowZ a b e f (passZ a b b.pre.length e (z,false))).1 e f=v at t3 ⊢
    (try conv=>whnf);repeat' (first|(apply And.intro<;>try conv=>whnf)|(intro h;try conv=>whnf)|apply True.intro|(apply infoT;rfl)|(apply WhenQ.mk;(try conv=>whnf);rotate_left;(try conv=>whnf);rotate_right)|with_reducible assumption|(exact PureFn.dcb hMt rfl (mt_brws (a:=a) (b:=b) (Z:=(rowZ a b e f (passZ a b b.pre.length e (z,false))).1) rfl hg8 htp e f) ⟨rfl,rfl⟩;try conv=>whnf)|fail)
    ·exact rfl
    ·have hst:stepZ a b e f (rowZ a b e f (passZ a b b.pre.length e (z,false)))=(clrT (rowZ a b e f (passZ a b b.pre.length e (z,false))).1 e f,true):=by
      rw[stepZ,hv,show (bif v then !mtI a b (rowZ a b e f (passZ a b b.pre.length e (z,false))).1 e f else false)=true from h];rfl
     refine⟨e,rfl,he',?_⟩
     try conv=>whnf
     rw[tabC_get he']
     try conv=>whnf
     rw[get_eq (k:=e+8) (o:=some (.arr 1 (colZ (rowZ a b e f (passZ a b b.pre.length e (z,false))).1 e))) (AT_get (a:=a) (b:=b) he')]
     (try conv=>whnf);repeat' (first|(apply And.intro<;>try conv=>whnf)|fail)
     all_goals first
      |exact rfl
      |skip
     refine⟨f,rfl,by rw[hls];exact hf',?_⟩
     try conv=>whnf
     rw[get_eq (k:=e+8) (o:=some (.arr 1 (colZ (rowZ a b e f (passZ a b b.pre.length e (z,false))).1 e))) (AT_get (a:=a) (b:=b) he')]
     refine⟨rfl,_,t3,?_⟩
     (try conv=>whnf);repeat' (first|(apply And.intro<;>try conv=>whnf)|exact Nat.le_refl 1|fail)
     refine⟨⟨f+1,hf'⟩,by show b.pre.length-(f+1)<b.pre.length-f;omega,?_⟩
     have hrs:rowZ a b e (f+1) (passZ a b b.pre.length e (z,false))=(clrT (rowZ a b e f (passZ a b b.pre.length e (z,false))).1 e f,true):=by rw[rowZ,hst]
     show Wk _ _ [(2,.ref 0 0),(3,.ref 1 0),(5,.vbuf 2 a.pre.length),(9,.pv (.bool (rowZ a b e (f+1) (passZ a b b.pre.length e (z,false))).2)),(66,.pv (i64 a.pre.length)),(67,.pv (i64 e)),(10,.pv (i64 e)),(74,.pv (i64 (lenZ (passZ a b b.pre.length e (z,false)).1 e))),(75,.pv (i64 (f+1)))] 16 (AT a b a.pre.length (rowZ a b e (f+1) (passZ a b b.pre.length e (z,false))).1)
     rw[hrs]
     have hcl:=colZ_clr (f:=f) (show e<(rowZ a b e f (passZ a b b.pre.length e (z,false))).1.length by rw[hOr.tab.len];exact he')
     (refine Wk.ofN 0 ?_ ?_ rfl rfl rfl ?_<;>repeat' (first|exact trivial|exact WkD.same _|refine WkD.int ?_|refine⟨?_,?_⟩|(refine wrapA ?_ ?_ ?_;(focus simp;done);(focus (try dsimp only);omega);(focus (try dsimp only);omega))|fail))
     refine AT_all (g:=_) hn (Nat.le_refl 16) rfl rfl ?_ fun e' hg' => ?_
     ·exact congrArg (fun z=>some (DObj.var z)) (tabC_clr _ a.pre.length e f).symm
     ·show (bif Nat.beq (e'+8) (e+8) then some (DObj.arr 1 ((colZ (rowZ a b e f (passZ a b b.pre.length e (z,false))).1 e).set f (.bool false))) else objsOf (AT a b a.pre.length (rowZ a b e f (passZ a b b.pre.length e (z,false))).1) (e'+8))=_
      by_cases q:e'=e
      ·rw[q,Nat.beq_refl,cond_true,hcl]
      ·rw[beq_no (by omega),cond_false,AT_get hg',colZ_cle q]
    ·have hst:stepZ a b e f (rowZ a b e f (passZ a b b.pre.length e (z,false)))=rowZ a b e f (passZ a b b.pre.length e (z,false)):=by
      rw[stepZ,hv,show (bif v then !mtI a b (rowZ a b e f (passZ a b b.pre.length e (z,false))).1 e f else false)=false from h];rfl
     refine⟨⟨f+1,hf'⟩,by show b.pre.length-(f+1)<b.pre.length-f;omega,?_⟩
     have hrs:rowZ a b e (f+1) (passZ a b b.pre.length e (z,false))=rowZ a b e f (passZ a b b.pre.length e (z,false)):=by rw[rowZ,hst]
     show Wk _ _ [(2,.ref 0 0),(3,.ref 1 0),(5,.vbuf 2 a.pre.length),(9,.pv (.bool (rowZ a b e (f+1) (passZ a b b.pre.length e (z,false))).2)),(66,.pv (i64 a.pre.length)),(67,.pv (i64 e)),(10,.pv (i64 e)),(74,.pv (i64 (lenZ (passZ a b b.pre.length e (z,false)).1 e))),(75,.pv (i64 (f+1)))] 16 (AT a b a.pre.length (rowZ a b e (f+1) (passZ a b b.pre.length e (z,false))).1)
     rw[hrs]
     (refine Wk.ofN 0 ?_ ?_ rfl rfl rfl ?_<;>repeat' (first|exact trivial|exact WkD.same _|refine WkD.int ?_|refine⟨?_,?_⟩|(refine wrapA ?_ ?_ ?_;(focus simp;done);(focus (try dsimp only);omega);(focus (try dsimp only);omega))|fail))
     exact AT_mid hn (Nat.le_refl 16) fun k hk=>rfl
   ·have hf':f=b.pre.length:=by
     have h2:decide ((f:Int)<((lenZ (passZ a b b.pre.length e (z,false)).1 e:Nat):Int))=false:=by assumption
     have:=of_decide_eq_false h2
     omega
    subst hf'
    refine⟨⟨e+1,he'⟩,by show a.pre.length-(e+1)<a.pre.length-e;omega,?_⟩
    (refine Wk.ofN 0 ?_ ?_ rfl rfl rfl ?_<;>repeat' (first|exact trivial|exact WkD.same _|refine WkD.int ?_|refine⟨?_,?_⟩|(refine wrapA ?_ ?_ ?_;(focus simp;done);(focus (try dsimp only);omega);(focus (try dsimp only);omega))|fail))
    exact AT_mid hn (Nat.le_refl 16) fun k hk=>rfl
  ·rename_i hch
   have hch:ch=true:=hch
   have he':e=a.pre.length:=by
    have h2:decide ((e:Int)<((a.pre.length:Nat):Int))=false:=h
    have:=of_decide_eq_false h2
    omega
   subst he'
   have hOn:=hO a.pre.length (Nat.le_refl _)
   have hst:=alk_step (a:=a) (b:=b) hz
   rw[hyR] at hst
   generalize hP:passZ a b b.pre.length a.pre.length (z,false)=P at hOn hst
   refine⟨⟨P,hOn.tab,fun h=>by rw[hst,h];rfl,fun h=>by rw[hst,h,hOn.no h];rfl⟩,?_,?_⟩
   ·show 2*cntZ P.1 a.pre.length b.pre.length+(bif P.2 then 1 else 0)<2*cntZ z a.pre.length b.pre.length+(bif ch then 1 else 0)
    rw[hch]
    cases h2:P.2 with
    |true=>have:=hOn.yes h2;simp only[cond_true];omega
    |false=>rw[hOn.no h2];simp only[cond_true,cond_false];omega
   ·subst hP
    (refine Wk.ofN 0 ?_ ?_ rfl rfl rfl ?_<;>repeat' (first|exact trivial|exact WkD.same _|refine⟨?_,?_⟩|fail))
    exact AT_mid hn (Nat.le_refl 16) fun k hk=>rfl
 ·have hzR:=hno h
  have htab:tabPV R=.sl ((List.range a.pre.length).map fun e=>.sl (colZ z e)):=by
   rw[← hzR];exact tabPV_rows hz.len
  rw[htab]
  refine frz1s_rows (colZ z) (List.range a.pre.length) _ _ (fun e he=>.inl (AT_get (a:=a) (b:=b) (List.mem_range.1 he))) (Nat.zero_le 8) fun L' => ?_
  refine⟨by simp,by simp[PV.one],rfl,.refl _⟩
theorem smp_shp {a:Act} (h:aloneI a=0):Shp (smpA a) (smpA a).pre.length:=by
 have hO:=actI_ok h
 have e:(smpA a).pre.length=a.pre.length:=by simp[smpA]
 refine⟨rfl,by rw[e];simp[smpA,hO.post],by rw[e];exact hO.n8,by have:=hO.agn;show a.rel.length≤1000;omega,fun r hr => ?_,fun r hr => ?_⟩
 ·rw[e];exact hO.rows r hr
 ·rw[e];exact hO.bits r hr
theorem smpL_len (l:List Asg):(smpL l).length≤l.length:=by
 unfold smpL
 exact Nat.le_trans (List.length_filter_le _ _) (by simp)
theorem smp_post {a:Act} (hS:SmX a):∀ l,l∈(smpA a).post→l.length≤1000:=fun l hl=>by
 obtain⟨q,hq,rfl⟩:=List.mem_map.1 hl
 exact Nat.le_trans (smpL_len q) (hS.post q hq)
def alkG (a:Act) (e:Int) (b:Act) (f:Int):Int :=
 bif aloneI a != 0 then aloneI a else bif aloneI b != 0 then aloneI b else bif ((a.rel.length:Int) != (b.rel.length:Int)) then 1 else
 bif (bif (bif (bif decide (e<0) then true else decide (e≥(a.pre.length:Int))) then true else decide (f<0)) then true else decide (f≥(b.pre.length:Int))) then 6 else 0
def alkT (a b:Act):List (List Bool):=alkI (smpA a) (smpA b) (tab0 (smpA a) (smpA b))
def alikeI (a:Act) (e:Int) (b:Act) (f:Int):Bool:=bif alkG a e b f != 0 then false else zAt (alkT a b) e.toNat f.toNat
def alikeP (a:Act) (e:Int) (b:Act) (f:Int):PV:=.tup [.bool (alikeI a e b f),.int .i64 (alkG a e b f)]
theorem alikeP_no {a b:Act} {e f c:Int} (h:alkG a e b f=c) (hc:(c != 0)=true):alikeP a e b f=.tup [.bool false,.int .i64 c]:=by
 unfold alikeP alikeI
 rw[h,hc];rfl
theorem or_ff4 {a b c d:Bool} (h:(bif (bif (bif a then true else b) then true else c) then true else d)=false):a=false∧b=false∧c=false∧d=false:=by
 cases a<;>cases b<;>cases c<;>cases d<;>simp_all
theorem cp_Alike (a b:Act) (hSa:SmX a) (hSb:SmX b) (e f:Int):PureFn Tryz.prog 21 [a.pv,.int .i64 e,b.pv,.int .i64 f] (alikeP a e b f):=by
 have hCa:=cp_check a hSa
 have hCb:=cp_check b hSb
 have e1:((a.pre.map fpv).length:Int)=(a.pre.length:Int):=by simp
 have e2:((b.pre.map fpv).length:Int)=(b.pre.length:Int):=by simp
 have e3:((a.rel.map rowPV).length:Int)=(a.rel.length:Int):=by simp
 have e4:((b.rel.map rowPV).length:Int)=(b.rel.length:Int):=by simp
 refine PureFn.introC [4,7,9,11] mixed (fn:=Tryz.f21) rfl rfl rfl fun M w0 => ?_
 try conv=>whnf
 refine⟨{ _x:Unit // aloneI a=0 },fun _=>[(1,.pv (.int .i64 e)),(3,.pv (.int .i64 f)),(4,.ref 0 0),(6,.ref 1 0)],fun _=>2,fun _=>[(0,.var (cellsA a)),(1,.var (cellsA b))],?_,?_⟩
 ·(try conv=>whnf);repeat' (first|(apply And.intro<;>try conv=>whnf)|(intro h;try conv=>whnf)|(refine PureFn.dy hCa rfl ?_;try conv=>whnf)|fail)
  ·have hg:alkG a e b f=aloneI a:=by rw[alkG,show (aloneI a != 0)=true from h];rfl
   rw[alikeP_no hg h]
   exact .refl _
  ·exact⟨⟨(),by simpa using h⟩,(by exact Wk.sm rfl rfl rfl rfl rfl)⟩
 rintro⟨_,ha0⟩
 have g1:(aloneI a != 0)=false:=by simpa using ha0
 refine⟨{ _x:Unit // aloneI b=0 },fun _=>[(1,.pv (.int .i64 e)),(3,.pv (.int .i64 f)),(4,.ref 0 0),(6,.ref 1 0)],fun _=>2,fun _=>[(0,.var (cellsA a)),(1,.var (cellsA b))],?_,?_⟩
 ·(try conv=>whnf);repeat' (first|(apply And.intro<;>try conv=>whnf)|(intro h;try conv=>whnf)|(refine PureFn.dy hCb rfl ?_;try conv=>whnf)|fail)
  ·have hg:alkG a e b f=aloneI b:=by rw[alkG,g1,cond_false,show (aloneI b != 0)=true from h];rfl
   rw[alikeP_no hg h]
   exact .refl _
  ·exact⟨⟨(),by simpa using h⟩,(by exact Wk.sm rfl rfl rfl rfl rfl)⟩
 rintro⟨_,hb0⟩
 have g2:(aloneI b != 0)=false:=by simpa using hb0
 refine⟨{ _x:Unit // a.rel.length=b.rel.length },fun _=>[(1,.pv (.int .i64 e)),(3,.pv (.int .i64 f)),(4,.ref 0 0),(6,.ref 1 0)],fun _=>2,fun _=>[(0,.var (cellsA a)),(1,.var (cellsA b))],?_,?_⟩
 ·(try conv=>whnf);repeat' (first|(apply And.intro<;>try conv=>whnf)|(intro h;try conv=>whnf)|fail)
  ·have hg:alkG a e b f=1:=by rw[alkG,g1,cond_false,g2,cond_false,← e3,← e4,show (((a.rel.map rowPV).length:Int) != ((b.rel.map rowPV).length:Int))=true from h];rfl
   rw[alikeP_no hg rfl]
   exact .refl _
  ·refine⟨⟨(),?_⟩,(by exact Wk.sm rfl rfl rfl rfl rfl)⟩
   have h2:(((a.rel.map rowPV).length:Int) != ((b.rel.map rowPV).length:Int))=false:=h
   rw[e3,e4] at h2
   have:(a.rel.length:Int)=b.rel.length:=by simpa using h2
   omega
 rintro⟨_,hr⟩
 have g3:((a.rel.length:Int) != (b.rel.length:Int))=false:=by rw[hr];simp
 refine⟨{ _x:Unit // alkG a e b f=0∧0≤e∧e<(a.pre.length:Int)∧0≤f∧f<(b.pre.length:Int) },fun _=>[(1,.pv (.int .i64 e)),(3,.pv (.int .i64 f)),(4,.ref 0 0),(6,.ref 1 0)],fun _=>2,fun _=>[(0,.var (cellsA a)),(1,.var (cellsA b))],?_,?_⟩
 ·have hgg:alkG a e b f=bif (bif (bif (bif decide (e<0) then true else decide (e≥((a.pre.map fpv).length:Int))) then true else decide (f<0)) then true else decide (f≥((b.pre.map fpv).length:Int))) then 6 else 0:=by
   rw[alkG,g1,cond_false,g2,cond_false,g3,cond_false,e1,e2]
  (try conv=>whnf);repeat' (first|(apply And.intro<;>try conv=>whnf)|(intro h;try conv=>whnf)|apply True.intro|(apply WhenQ.mk;(try conv=>whnf);rotate_left;(try conv=>whnf);rotate_right)|with_reducible assumption|(apply not_of;with_reducible assumption)|fail)
  ·rw[show (bif (bif (bif decide (e<0) then true else decide (e≥((a.pre.map fpv).length:Int))) then true else decide (f<0)) then true else decide (f≥((b.pre.map fpv).length:Int)))=true from h] at hgg
   rw[alikeP_no hgg rfl]
   exact .refl _
  ·rw[show (bif (bif (bif decide (e<0) then true else decide (e≥((a.pre.map fpv).length:Int))) then true else decide (f<0)) then true else decide (f≥((b.pre.map fpv).length:Int)))=false from h] at hgg
   obtain⟨q1,q2,q3,q4⟩:=or_ff4 (show (bif (bif (bif decide (e<0) then true else decide (e≥((a.pre.map fpv).length:Int))) then true else decide (f<0)) then true else decide (f≥((b.pre.map fpv).length:Int)))=false from h)
   have:=of_decide_eq_false q1
   have:=of_decide_eq_false q2
   have:=of_decide_eq_false q3
   have:=of_decide_eq_false q4
   exact⟨⟨(),hgg,by omega,by omega,by omega,by omega⟩,(by exact Wk.sm rfl rfl rfl rfl rfl)⟩
 rintro⟨_,h0,he0,he1,hf0,hf1⟩
 obtain⟨en,rfl⟩:∃ en:Nat,e=en:=⟨e.toNat,by omega⟩
 obtain⟨fn,rfl⟩:∃ fn:Nat,f=fn:=⟨f.toNat,by omega⟩
 have hsa:(smpA a).pre.length=a.pre.length:=by simp[smpA]
 have hsb:(smpA b).pre.length=b.pre.length:=by simp[smpA]
 have hA:=smp_shp ha0
 have hB:=smp_shp hb0
 have n1:=(actI_ok ha0).n1
 have hSm1:=cp_simple a ha0
 have hSm2:=cp_simple b hb0
 have hAl:=cp_alike (smpA a) (smpA b) hA hB hr (smp_post hSa) (by rw[hsa];omega)
 have hT:Tab (alkI (smpA a) (smpA b) (tab0 (smpA a) (smpA b))) a.pre.length b.pre.length:=by
  rw[← hsa,← hsb]
  exact alk_tab _ _
 obtain⟨t1,t2⟩:=hT.at (by omega:en<a.pre.length) (by omega:fn<b.pre.length)
 have hP:alikeP a en b fn=.tup [.bool (zAt (alkI (smpA a) (smpA b) (tab0 (smpA a) (smpA b))) en fn),.int .i64 0]:=by
  unfold alikeP alikeI alkT
  rw[h0]
  simp only[Int.toNat_natCast]
  rfl
 rw[hP]
 have i1:=idx_map (g:=rowB) t1
 have i2:=idx_map (g:=PV.bool) t2
 generalize zAt (alkI (smpA a) (smpA b) (tab0 (smpA a) (smpA b))) en fn=v at *
 generalize (alkI (smpA a) (smpA b) (tab0 (smpA a) (smpA b)))=T at *
 generalize smpA a=sa at *
 generalize smpA b=sb at *
 (try conv=>whnf);repeat' (first|(apply And.intro<;>try conv=>whnf)|(apply infoT;rfl)|(refine lin_plan (by kernel_rfl) ?_;try conv=>whnf)|(refine⟨_,_,rfl,idx_map (by with_reducible assumption),rfl,?_⟩;try conv=>whnf)|(refine⟨_,(by (conv=>whnf);exact hSm1),rfl,?_⟩;try conv=>whnf)|(refine⟨_,(by (conv=>whnf);exact hSm2),rfl,?_⟩;try conv=>whnf)|(refine⟨_,(by (conv=>whnf);exact hAl),rfl,?_⟩;try conv=>whnf)|fail)
 exact .refl _
def ffF:List Nd:=buildL (n0 2) []
def evtL (s:Act):List Nat:=(List.range s.pre.length).filter fun e=>!same (s.pre.getD e []) ffF
def fsN (Z:List (List Bool)) (e:Nat):Nat:=(Z.getD e []).idxOf true
def keptL (Z:List (List Bool)) (n:Nat):List Nat:=(List.range n).filter fun e=>fsN Z e==e
def plN (Z:List (List Bool)) (n e:Nat):Nat:=(keptL Z n).idxOf (fsN Z e)
def stepQ (r:List Nat) (pl:Nat→Nat) (e f:Nat) (q:List Nat):List Nat:=q.set (pl e) (bif (r.getD e 0).testBit f then q.getD (pl e) 0 |||2^pl f else q.getD (pl e) 0)
def rowQ (r:List Nat) (pl:Nat→Nat) (e:Nat):Nat→List Nat→List Nat
 |0,q=>q
 |k+1,q=>stepQ r pl e k (rowQ r pl e k q)
def allQ (r:List Nat) (pl:Nat→Nat) (n:Nat):Nat→List Nat→List Nat
 |0,q=>q
 |k+1,q=>rowQ r pl k n (allQ r pl n k q)
def relQ (Z:List (List Bool)) (n:Nat) (r:List Nat):List Nat:=allQ r (plN Z n) n n (List.replicate (keptL Z n).length 0)
def sfB (k:Act) (Z:List (List Bool)) (n:Nat):Act:=⟨(keptL Z n).map fun e=>k.pre.getD e [],(keptL Z n).map fun e=>k.post.getD e [],k.rel.map (relQ Z n)⟩
def sfN (evs:List Nat) (Z:List (List Bool)) (e:Nat):Int:=if e∈evs then (plN Z evs.length (evs.idxOf e):Int) else -1
def sfK (a:Act):Act:=keepA (smpA a) (evtL (smpA a))
def sfZ (a:Act):List (List Bool):=alkI (sfK a) (sfK a) (tab0 (sfK a) (sfK a))
def sfyI (a:Act):Act×List Int×Int :=
 bif aloneI a != 0 then (noAct,[],aloneI a) else bif ((evtL (smpA a)).length:Int)==0 then (noAct,[],11) else
 (sfB (sfK a) (sfZ a) (evtL (smpA a)).length,(List.range a.pre.length).map (sfN (evtL (smpA a)) (sfZ a)),0)
def intI (z:Int):PV:=.int .i64 z
def sfP (x:Act×List Int×Int):PV:=.tup [x.1.pv,.sl (x.2.1.map intI),.int .i64 x.2.2]
def Firsts (Z:List (List Bool)) (n:Nat):Prop:=∀ e,e<n→fsN Z e<n∧fsN Z (fsN Z e)=fsN Z e
theorem Firsts.mem {Z:List (List Bool)} {n e:Nat} (h:Firsts Z n) (he:e<n):fsN Z e∈keptL Z n:=by
 rw[keptL,List.mem_filter,List.mem_range]
 obtain⟨h1,h2⟩:=h e he
 exact⟨h1,by rw[h2];simp⟩
theorem Firsts.pl {Z:List (List Bool)} {n e:Nat} (h:Firsts Z n) (he:e<n):plN Z n e<(keptL Z n).length:=List.idxOf_lt_length_iff.2 (h.mem he)
theorem kept_len (Z:List (List Bool)) (n:Nat):(keptL Z n).length≤n:=by
 unfold keptL
 exact Nat.le_trans (List.length_filter_le _ _) (by simp)
theorem kept_mem {Z:List (List Bool)} {n e:Nat} (h:e∈keptL Z n):e<n:=by
 rw[keptL,List.mem_filter,List.mem_range] at h
 exact h.1
theorem evtL_mem {s:Act} {e:Nat} (h:e∈evtL s):e<s.pre.length:=by
 rw[evtL,List.mem_filter,List.mem_range] at h
 exact h.1
theorem evtL_len (s:Act):(evtL s).length≤s.pre.length:=by
 unfold evtL
 exact Nat.le_trans (List.length_filter_le _ _) (by simp)
theorem filt_snoc {p:Nat→Bool} (n:Nat):(List.range (n+1)).filter p=bif p n then (List.range n).filter p++[n] else (List.range n).filter p:=by
 rw[List.range_succ,List.filter_append]
 cases h:p n with
 |true=>simp[h]
 |false=>simp[h]
theorem stepQ_len (r:List Nat) (pl:Nat→Nat) (e f:Nat) (q:List Nat):(stepQ r pl e f q).length=q.length:=by simp[stepQ]
theorem rowQ_len (r:List Nat) (pl:Nat→Nat) (e:Nat):∀ (k:Nat) (q:List Nat),(rowQ r pl e k q).length=q.length
 |0,_=>rfl
 |k+1,q=>by rw[rowQ,stepQ_len,rowQ_len r pl e k q]
theorem allQ_len (r:List Nat) (pl:Nat→Nat) (n:Nat):∀ (k:Nat) (q:List Nat),(allQ r pl n k q).length=q.length
 |0,_=>rfl
 |k+1,q=>by rw[allQ,rowQ_len,allQ_len r pl n k q]
def Und8 (q:List Nat):Prop:=∀ s,s∈q→s<2^8
theorem Und8.get {q:List Nat} (h:Und8 q) (i:Nat):q.getD i 0<2^8:=by
 rw[List.getD_eq_getElem?_getD]
 by_cases hi:i<q.length
 ·rw[List.getElem?_eq_getElem hi];exact h _ (List.getElem_mem hi)
 ·rw[List.getElem?_eq_none (by omega)];exact Nat.two_pow_pos 8
theorem stepQ_und {r:List Nat} {pl:Nat→Nat} {e f:Nat} {q:List Nat} (h:Und8 q) (hf:pl f<8):Und8 (stepQ r pl e f q):=fun s hs=>by
 rcases List.mem_or_eq_of_mem_set hs with hs|rfl
 ·exact h s hs
 ·have:=h.get (pl e)
  cases (r.getD e 0).testBit f with
  |true=>exact Nat.or_lt_two_pow this (Nat.pow_lt_pow_right (by decide) hf)
  |false=>exact this
theorem rowQ_und {r:List Nat} {pl:Nat→Nat} {e:Nat}:∀ {k:Nat} {q:List Nat},Und8 q→(∀ f,f<k→pl f<8)→Und8 (rowQ r pl e k q)
 |0,_,h,_=>h
 |k+1,_,h,hf=>stepQ_und (rowQ_und h fun f hk=>hf f (by omega)) (hf k (by omega))
theorem allQ_und {r:List Nat} {pl:Nat→Nat} {n:Nat}:∀ {k:Nat} {q:List Nat},Und8 q→(∀ f,f<n→pl f<8)→Und8 (allQ r pl n k q)
 |0,_,h,_=>h
 |_+1,_,h,hf=>rowQ_und (allQ_und h hf) hf
theorem zer_und (m:Nat):Und8 (List.replicate m 0):=fun s hs=>by rw[List.eq_of_mem_replicate hs];decide
theorem or_place {x s f p:Nat} (hx:x<2^8) (hs:s<2^64) (hf:f<64) (hp:p<8):orU (x:Nat) (shlU (andU (shrU (s:Nat) (f:Nat)) 1) (p:Nat))=((bif s.testBit f then x |||2^p else x:Nat):Int):=by
 rw[bit_and s f hs hf]
 have h1:x<2^64:=Nat.lt_of_lt_of_le hx (by decide)
 cases h:s.testBit f with
 |true =>
  rw[if_pos rfl,shlU_one (by omega),orU_nat h1 (Nat.pow_lt_pow_right (by decide) (by omega))];rfl
 |false =>
  rw[if_neg (by decide),show shlU 0 (p:Nat)=((0:Nat):Int) by show IntKind.wrap .u64 (0*_)=0;rw[Int.zero_mul];rfl,orU_nat h1 (by decide),Nat.or_zero];rfl
theorem idxN_first {y:Nat}:∀ {l:List Nat} {i:Nat},l[i]? = some y→y∉l.take i→l.idxOf y=i
 | [],i,h,_=>by simp at h
 |a::r,0,h,_=>by
  have:a=y:=by simpa using h
  subst this;simp
 |a::r,i+1,h,hn=>by
  have h1:r[i]? = some y:=by simpa using h
  have h2:y∉a::r.take i:=by simpa using hn
  have h3:a≠y:=fun e=>h2 (by simp[e])
  have ih:=idxN_first h1 (fun h=>h2 (by simp[h]))
  rw[List.idxOf_cons,show (a==y)=false by simpa using h3,cond_false,ih]
def ixN (l:List Nat) (y:Nat):Int:=if y∈l then (l.idxOf y:Int) else -1
theorem sl_IndexN (l:List Nat) (y:Nat) (hl:l.length≤1000):PureFn Tryz.prog 58 [.sl (l.map i64),i64 y] (.int .i64 (ixN l y)):=by
 refine PureFn.intro mixed (fn:=Tryz.f58) rfl rfl rfl fun M w0 => ?_
 try conv=>whnf
 refine⟨{ i:Nat // i≤l.length∧y∉l.take i },fun i=>[(0,.pv (.sl (l.map i64))),(1,.pv (i64 y)),(7,.pv (i64 (l.map i64).length)),(8,.pv (i64 i.1))],fun _=>0,fun _=>[],fun i=>l.length-i.1,⟨⟨0,Nat.zero_le _,by simp⟩,(by exact Wk.sm rfl rfl rfl rfl rfl)⟩,?_⟩
 rintro⟨i,hi,hn⟩
 (try conv=>whnf);repeat' (first|(apply And.intro<;>try conv=>whnf)|(intro h;try conv=>whnf)|(apply infoT;rfl)|fail)
 ·have hi':i<l.length:=by simpa using lt_dec h
  have hm:l[i]? = some l[i]:=List.getElem?_eq_getElem hi'
  refine⟨_,_,rfl,idx_map hm,rfl,?_⟩
  (try conv=>whnf);repeat' (first|(apply And.intro<;>try conv=>whnf)|(intro h;try conv=>whnf)|fail)
  ·have he:y=l[i]:=by
                have:(y:Int)=(l[i]:Nat):=by simpa using h
                omega
   rw[ixN,if_pos (by rw[he];exact List.getElem_mem hi'),idxN_first (by rw[hm,he]) hn]
   exact .refl _
  ·have he:y≠l[i]:=fun e=>by
    have:¬ (y:Int)=(l[i]:Nat):=by simpa using h
    omega
   refine⟨⟨i+1,hi',?_⟩,by show l.length-(i+1)<l.length-i;omega,(by refine Wk.of ?_ ?_ rfl rfl rfl<;>repeat' (first|exact trivial|exact WkD.same _|refine WkD.int ?_|refine⟨?_,?_⟩|(refine wrapA ?_ ?_ ?_;(focus simp;done);(focus (try dsimp only);omega);(focus (try dsimp only);omega))|fail))⟩
   rw[List.take_succ_eq_append_getElem hi',List.mem_append,not_or]
   exact⟨hn,fun h=>he (List.mem_singleton.1 h)⟩
 ·have hi':i=l.length:=by have:=ge_dec (m:=(l.map i64).length) h (by simpa using hi);simpa using this
  subst hi'
  rw[List.take_length] at hn
  rw[ixN,if_neg hn]
  exact .refl _
def ixB (r:List Bool):Int:=if true∈r then (r.idxOf true:Int) else -1
theorem idxB_first:∀ {l:List Bool} {i:Nat},l[i]? = some true→true∉l.take i→l.idxOf true=i
 | [],i,h,_=>by simp at h
 |a::r,0,h,_=>by
  have:a=true:=by simpa using h
  subst this;simp
 |a::r,i+1,h,hn=>by
  have h1:r[i]? = some true:=by simpa using h
  have h2:true∉a::r.take i:=by simpa using hn
  have h3:a=false:=by cases a with
   |true=>exact absurd (by simp) h2
   |false=>rfl
  subst h3
  have ih:=idxB_first h1 (fun h=>h2 (by simp[h]))
  rw[List.idxOf_cons,show (false==true)=false from rfl,cond_false,ih]
theorem sl_IndexB (l:List Bool) (hl:l.length≤1000):PureFn Tryz.prog 56 [rowB l,.bool true] (.int .i64 (ixB l)):=by
 refine PureFn.intro mixed (fn:=Tryz.f56) rfl rfl rfl fun M w0 => ?_
 try conv=>whnf
 refine⟨{ i:Nat // i≤l.length∧true∉l.take i },fun i=>[(0,.pv (rowB l)),(1,.pv (.bool true)),(7,.pv (i64 (l.map PV.bool).length)),(8,.pv (i64 i.1))],fun _=>0,fun _=>[],fun i=>l.length-i.1,⟨⟨0,Nat.zero_le _,by simp⟩,(by exact Wk.sm rfl rfl rfl rfl rfl)⟩,?_⟩
 rintro⟨i,hi,hn⟩
 (try conv=>whnf);repeat' (first|(apply And.intro<;>try conv=>whnf)|(intro h;try conv=>whnf)|(apply infoT;rfl)|fail)
 ·have hi':i<l.length:=by simpa using lt_dec h
  have hm:l[i]? = some l[i]:=List.getElem?_eq_getElem hi'
  refine⟨_,_,rfl,idx_map hm,rfl,?_⟩
  (try conv=>whnf);repeat' (first|(apply And.intro<;>try conv=>whnf)|(intro h;try conv=>whnf)|fail)
  ·have he:l[i]=true:=by
                 have h2:((true:Bool)==l[i])=true:=h
                 cases hq:l[i] with
                 |true=>rfl
                 |false=>rw[hq] at h2;cases h2
   rw[ixB,if_pos (by rw[← he];exact List.getElem_mem hi'),idxB_first (by rw[hm,he]) hn]
   exact .refl _
  ·have he:l[i]=false:=by
                  have h2:((true:Bool)==l[i])=false:=h
                  cases hq:l[i] with
                  |true=>rw[hq] at h2;cases h2
                  |false=>rfl
   refine⟨⟨i+1,hi',?_⟩,by show l.length-(i+1)<l.length-i;omega,(by refine Wk.of ?_ ?_ rfl rfl rfl<;>repeat' (first|exact trivial|exact WkD.same _|refine WkD.int ?_|refine⟨?_,?_⟩|(refine wrapA ?_ ?_ ?_;(focus simp;done);(focus (try dsimp only);omega);(focus (try dsimp only);omega))|fail))⟩
   rw[List.take_succ_eq_append_getElem hi',List.mem_append,not_or]
   exact⟨hn,fun h=>by have:=List.mem_singleton.1 h;rw[he] at this;cases this⟩
 ·have hi':i=l.length:=by have:=ge_dec (m:=(l.map PV.bool).length) h (by simpa using hi);simpa using this
  subst hi'
  rw[List.take_length] at hn
  rw[ixB,if_neg hn]
  exact .refl _
def HPl (a k:Act) (fl kl:List Nat):List (Nat×DObj):=[(0,.var (cellsA a)),(1,.var cellsZ),(2,.var (cellsA k)),(4,.var [.pv (intsPV fl)]),(5,.var [.pv (intsPV kl)])]
theorem clo_place {M:Nat→Prop} {w0:W0} (a k:Act) (fl kl:List Nat) (e v:Nat) (he:fl[e]? = some v) (hv:v∈kl) (hl:kl.length≤1000) (base:Nat) (K:DV→DH→Prop) (hK:K (.pv (i64 (kl.idxOf v))) ⟨6,0,base,objsOf (HPl a k fl kl)⟩) :
  DC Tryz.prog M w0 57 [.pv (i64 e),.ref 5 0,.ref 4 0] ⟨6,0,base,objsOf (HPl a k fl kl)⟩ K:=by
 have hI:=sl_IndexN kl v hl
 rw[ixN,if_pos hv] at hI
 have i1:=idx_map (g:=i64) he
 generalize kl.idxOf v=j at hI hK
 refine DC.weaken (DC.intro mixed (fn:=Tryz.f57) rfl rfl rfl ?_)
 (try conv=>whnf);repeat' (first|(apply And.intro<;>try conv=>whnf)|(apply infoT;rfl)|(refine lin_plan (by kernel_rfl) ?_;try conv=>whnf)|(refine⟨_,_,rfl,idx_map (by with_reducible assumption),rfl,?_⟩;try conv=>whnf)|(refine⟨_,(by (conv=>whnf);exact hI),rfl,?_⟩;try conv=>whnf)|fail)
 exact⟨.pv (i64 j),6,HPl a k fl kl,(by exact Wk.sm rfl rfl rfl rfl rfl),hK⟩
set_option maxHeartbeats 8000000
def Plan.pre:List Nat→Plan→Plan
 | [],p=>p
 |i::r,p=>.one i (Plan.pre r p)
def planQ:Plan:=Plan.pre [0,1,2,6,7,8,9,10,11,3] (.two 4 (.two 5 (Plan.ofL [12,13,14,15,16]) 12 (Plan.ofL [13,5,14,15,16])) 12 (Plan.ofL [13,4,5,14,15,16]))
theorem keep_shp {s:Act} {n:Nat} (hS:Shp s n) (ws:List Nat) (hl:ws.length≤8):Shp (keepA s ws) ws.length:=by
 refine⟨by simp[keepA],by simp[keepA],hl,by show (s.rel.map _).length≤1000;rw[List.length_map];exact hS.ag,fun r hr => ?_,fun r hr x hx => ?_⟩
 ·obtain⟨r0,_,rfl⟩:=List.mem_map.1 hr
  simp
 ·obtain⟨r0,_,rfl⟩:=List.mem_map.1 hr
  obtain⟨w,_,rfl⟩:=List.mem_map.1 hx
  exact maskOf_lt _ _
theorem keep_post {s:Act} {ws:List Nat} (h:∀ l,l∈s.post→l.length≤1000):∀ l,l∈(keepA s ws).post→l.length≤1000:=fun l hl=>by
 obtain⟨w,_,rfl⟩:=List.mem_map.1 hl
 rw[List.getD_eq_getElem?_getD]
 by_cases hw:w<s.post.length
 ·rw[List.getElem?_eq_getElem hw];exact h _ (List.getElem_mem hw)
 ·rw[List.getElem?_eq_none (by omega)];exact Nat.zero_le _
theorem le_sfNo (c:Int):PLe (.tup [.agg [.nil,.nil,.nil],.nil,.int .i64 c]) (sfP (noAct,[],c)):=PLe.tups ⟨PLe.aggs ⟨.nil,.nil,.nil,trivial⟩,.nil,.refl _,trivial⟩
theorem cp_Simplify (a:Act) (hSa:SmX a) (hFs:aloneI a=0→Firsts (sfZ a) (evtL (smpA a)).length):PureFn Tryz.prog 17 [a.pv] (sfP (sfyI a)):=by
 have hCa:=cp_check a hSa
 refine PureFn.introC [4,12,14,15,16,17,22,25,32,36,45,47,54,56] mixed (fn:=Tryz.f17) rfl rfl rfl fun M w0 => ?_
 try conv=>whnf
 refine⟨{ _x:Unit // aloneI a=0 },fun _=>[(1,.ref 0 0),(2,.ref 1 0)],fun _=>2,fun _=>[(0,.var (cellsA a)),(1,.var cellsZ)],?_,?_⟩
 ·(try conv=>whnf);repeat' (first|(apply And.intro<;>try conv=>whnf)|(intro h;try conv=>whnf)|(refine PureFn.dy hCa rfl ?_;try conv=>whnf)|fail)
  ·rw[sfyI,show (aloneI a != 0)=true from h]
   exact le_sfNo _
  ·exact⟨⟨(),by simpa using h⟩,(by exact Wk.sm rfl rfl rfl rfl rfl)⟩
 rintro⟨_,ha0⟩
 have g1:(aloneI a != 0)=false:=by simpa using ha0
 have hsa:(smpA a).pre.length=a.pre.length:=by simp[smpA]
 have hS:=smp_shp ha0
 have hSp:=smp_post hSa
 have hSm:=cp_simple a ha0
 have hF:=hFs ha0
 have hn8:a.pre.length≤8:=(actI_ok ha0).n8
 rw[sfyI,g1,cond_false]
 unfold sfZ sfK
 unfold sfZ sfK at hF
 generalize smpA a=s at *
 have hel:=evtL_len s
 have hev8:(evtL s).length≤8:=by omega
 obtain⟨evs,hevs⟩:∃ evs,evs=evtL s:=⟨_,rfl⟩
 have hem:∀ w,w∈evs→w<s.pre.length:=fun w h=>evtL_mem (by rw[← hevs];exact h)
 rw[← hevs] at hev8 hF ⊢
 (try conv=>whnf);repeat' (first|(refine PureFn.dy hSm rfl ?_;try conv=>whnf)|fail)
 refine⟨Unit,fun _=>[(1,.ref 0 0),(2,.ref 1 0),(6,.ref 2 0),(7,.pv (intsPV evs))],fun _=>3,fun _=>[(0,.var (cellsA a)),(1,.var cellsZ),(2,.var (cellsA s))],?_,?_⟩
 ·try conv=>whnf
  refine⟨{ i:Nat // i≤s.pre.length },fun i=>[(1,.ref 0 0),(2,.ref 1 0),(6,.ref 2 0),(7,.buf 3 (((List.range i.1).filter fun e=>!same (s.pre.getD e []) ffF).map i64).length),(36,.pv (.sl (s.pre.map fpv))),(37,.pv (i64 (s.pre.map fpv).length)),(38,.pv (i64 i.1))],fun _=>4,fun i=>[(0,.var (cellsA a)),(1,.var cellsZ),(2,.var (cellsA s)),(3,.arr 1 (((List.range i.1).filter fun e=>!same (s.pre.getD e []) ffF).map i64))],fun i=>s.pre.length-i.1,⟨⟨0,Nat.zero_le _⟩,(by refine Wk.of ?_ ?_ rfl rfl rfl<;>repeat' (first|exact trivial|exact WkD.same _|exact WkO.same _ _ rfl|exact WkD.new' rfl rfl rfl|exact WkO.new _ _ rfl|exact rfl|refine⟨?_,?_⟩|fail))⟩,?_⟩
  rintro⟨i,hi⟩
  (try conv=>whnf);repeat' (first|(apply And.intro<;>try conv=>whnf)|(intro h;try conv=>whnf)|(apply infoT;rfl)|fail)
  ·have hi':i<s.pre.length:=by simpa using lt_dec h
   have hx:s.pre[i]? = some (s.pre.getD i []):=getD_mem hi'
   have hsn:=filt_snoc (p:=fun e=>!same (s.pre.getD e []) ffF) i
   have hS2:=fm_Same (s.pre.getD i []) ffF
   have hFf:PureFn Tryz.prog 53 [] (fpv ffF):=fm_False
   have hlf:(((List.range i).filter fun e=>!same (s.pre.getD e []) ffF).map i64).length≤1000:=by
    rw[List.length_map]
    exact Nat.le_trans (List.length_filter_le _ _) (by rw[List.length_range];omega)
   generalize same (s.pre.getD i []) ffF=sb at hS2 hsn
   refine⟨_,_,rfl,idx_map hx,rfl,?_⟩
   (try conv=>whnf);repeat' (first|(apply And.intro<;>try conv=>whnf)|(intro h;try conv=>whnf)|(apply cellsI;rfl)|(apply szI;rfl)|(refine PureFn.dy hFf rfl ?_;try conv=>whnf)|(refine PureFn.dy hS2 rfl ?_;try conv=>whnf)|fail)
   ·exact app_big (n:=1000) hlf (by decide)
   ·rw[show (!sb)=true from h,cond_true] at hsn
    have hm:((List.range i).filter fun e=>!same (s.pre.getD e []) ffF).map i64++[i64 i]=((List.range (i+1)).filter fun e=>!same (s.pre.getD e []) ffF).map i64:=by rw[hsn,List.map_append];rfl
    refine⟨⟨i+1,hi'⟩,by show s.pre.length-(i+1)<s.pre.length-i;omega,?_⟩
    (refine Wk.of ?_ ?_ rfl rfl rfl<;>repeat' (first|exact trivial|exact WkD.same _|exact WkO.same _ _ rfl|exact WkD.eq (congrArg (fun z:List PV=>DV.buf _ z.length) hm)|exact WkO.same _ _ (congrArg (fun z=>some (DObj.arr _ z)) hm)|refine WkD.int ?_|refine⟨?_,?_⟩|(refine wrapA ?_ ?_ ?_;(focus simp;done);(focus (try dsimp only);omega);(focus (try dsimp only);omega))|fail))
   ·rw[show (!sb)=false from h,cond_false] at hsn
    have hm:((List.range i).filter fun e=>!same (s.pre.getD e []) ffF).map i64=((List.range (i+1)).filter fun e=>!same (s.pre.getD e []) ffF).map i64:=by rw[hsn]
    refine⟨⟨i+1,hi'⟩,by show s.pre.length-(i+1)<s.pre.length-i;omega,?_⟩
    (refine Wk.of ?_ ?_ rfl rfl rfl<;>repeat' (first|exact trivial|exact WkD.same _|exact WkO.same _ _ rfl|exact WkD.eq (congrArg (fun z:List PV=>DV.buf _ z.length) hm)|exact WkO.same _ _ (congrArg (fun z=>some (DObj.arr _ z)) hm)|refine WkD.int ?_|refine⟨?_,?_⟩|(refine wrapA ?_ ?_ ?_;(focus simp;done);(focus (try dsimp only);omega);(focus (try dsimp only);omega))|fail))
  ·have hi':i=s.pre.length:=by have:=ge_dec (m:=(s.pre.map fpv).length) h (by simpa using hi);simpa using this
   subst hi'
   rw[hevs]
   exact⟨(),(by refine Wk.of ?_ ?_ rfl rfl rfl<;>repeat' (first|exact trivial|exact WkD.same _|exact WkO.same _ _ rfl|exact WkD.fz _ _ _ rfl (Or.inl ⟨_,rfl⟩) rfl|refine⟨?_,?_⟩|fail))⟩
 rintro⟨⟩
 have e1:((evs.map i64).length:Int)=(evs.length:Int):=by simp
 refine⟨{ _x:Unit // 0<evs.length },fun _=>[(1,.ref 0 0),(2,.ref 1 0),(6,.ref 2 0),(7,.pv (intsPV evs))],fun _=>3,fun _=>[(0,.var (cellsA a)),(1,.var cellsZ),(2,.var (cellsA s))],?_,?_⟩
 ·(try conv=>whnf);repeat' (first|(apply And.intro<;>try conv=>whnf)|(intro h;try conv=>whnf)|fail)
  ·rw[show ((evs.length:Int)==0)=true by rw[← e1];exact h]
   exact le_sfNo _
  ·refine⟨⟨(),?_⟩,(by exact Wk.sm rfl rfl rfl rfl rfl)⟩
   have h2:(((evs.map i64).length:Int)==0)=false:=h
   rw[e1] at h2
   have:¬ (evs.length:Int)=0:=by simpa using h2
   omega
 rintro⟨_,hpos⟩
 have e0:((evs.length:Int)==0)=false:=by
  have:¬ (evs.length:Int)=0:=by omega
  simpa using this
 rw[e0,cond_false]
 have hKp:=cp_keep s s.pre.length hS evs hem hev8
 have hK:=keep_shp hS evs hev8
 have hKpo:=keep_post (ws:=evs) hSp
 have hkp:(keepA s evs).pre.length=evs.length:=hK.pre
 clear e0 e1
 generalize keepA s evs=k at *
 have hK2:Shp k k.pre.length:=by rw[hkp];exact hK
 have hAl:=cp_alike k k hK2 hK2 rfl hKpo (by omega)
 have hTb:Tab (alkI k k (tab0 k k)) evs.length evs.length:=by
  have:=alk_tab k k
  rwa [hkp] at this
 refine⟨Unit,fun _=>[(1,.ref 0 0),(2,.ref 1 0),(6,.ref 2 0),(7,.pv (intsPV evs))],fun _=>3,fun _=>[(0,.var (cellsA a)),(1,.var cellsZ),(2,.var (cellsA k))],?_,?_⟩
 ·(try conv=>whnf);repeat' (first|(refine PureFn.dy hKp rfl ?_;try conv=>whnf)|fail)
  exact⟨(),(by exact Wk.sm rfl rfl rfl rfl rfl)⟩
 rintro⟨⟩
 generalize alkI k k (tab0 k k)=Z at *
 refine⟨Unit,fun _=>[(1,.ref 0 0),(2,.ref 1 0),(6,.ref 2 0),(7,.pv (intsPV evs)),(10,.pv (tabPV Z))],fun _=>3,fun _=>[(0,.var (cellsA a)),(1,.var cellsZ),(2,.var (cellsA k))],?_,?_⟩
 ·(try conv=>whnf);repeat' (first|(refine PureFn.dy hAl rfl ?_;try conv=>whnf)|fail)
  exact⟨(),(by exact Wk.sm rfl rfl rfl rfl rfl)⟩
 rintro⟨⟩
 have hN:((evs.map i64).length:Int).toNat=evs.length:=by rw[List.length_map];rfl
 have hz1:List.replicate ((evs.map i64).length:Int).toNat (PV.int .i64 0)=mixV evs.length (fun e=>i64 (fsN Z e)) (fun _=>i64 0) 0:=by rw[hN];exact mixV_rep _ _ _
 have hbig:((evs.map i64).length:Int)≤(big:Int):=by
  show ((evs.map i64).length:Int)≤4294967296
  rw[List.length_map];omega
 have hml:=mixV_len evs.length (fun e=>i64 (fsN Z e)) (fun _=>i64 0)
 refine⟨Unit,fun _=>[(1,.ref 0 0),(2,.ref 1 0),(6,.ref 2 0),(7,.pv (intsPV evs)),(10,.pv (tabPV Z)),(11,.ref 4 0)],fun _=>5,fun _=>[(0,.var (cellsA a)),(1,.var cellsZ),(2,.var (cellsA k)),(3,.arr 1 (mixV evs.length (fun e=>i64 (fsN Z e)) (fun _=>i64 0) 0)),(4,.var [.buf 3 (mixV evs.length (fun e=>i64 (fsN Z e)) (fun _=>i64 0) 0).length])],?_,?_⟩
 ·(try conv=>whnf);repeat' (first|(apply And.intro<;>try conv=>whnf)|(apply Or.inl;try conv=>whnf)|fail)
  ·rfl
  ·exact Int.natCast_nonneg _
  ·exact hbig
  refine⟨(),?_⟩
  (refine Wk.of ?_ ?_ rfl rfl rfl<;>repeat' (first|exact trivial|exact WkD.same _|exact WkO.same _ _ rfl|exact WkD.eq (congrArg (fun z:List PV=>DV.buf _ z.length) hz1)|exact WkO.same _ _ (congrArg (fun z=>some (DObj.arr _ z)) hz1)|refine WkO.vars rfl ?_|refine⟨?_,?_⟩|fail))
 rintro⟨⟩
 clear hz1 hN hbig
 obtain⟨fl,hfl⟩:∃ fl:List Nat,fl=(List.range evs.length).map (fsN Z):=⟨_,rfl⟩
 obtain⟨kl,hkl0⟩:∃ kl:List Nat,kl=keptL Z evs.length:=⟨_,rfl⟩
 have hfm:mixV evs.length (fun e=>i64 (fsN Z e)) (fun _=>i64 0) evs.length=fl.map i64:=by rw[mixV_full,hfl,List.map_map];rfl
 try conv=>whnf
 refine⟨Unit,fun _=>[(1,.ref 0 0),(2,.ref 1 0),(6,.ref 2 0),(7,.pv (intsPV evs)),(11,.ref 4 0),(12,.ref 5 0)],fun _=>6,fun _=>[(0,.var (cellsA a)),(1,.var cellsZ),(2,.var (cellsA k)),(4,.var [.pv (.sl (mixV evs.length (fun e=>i64 (fsN Z e)) (fun _=>i64 0) evs.length))]),(5,.var [.pv (.sl ((keptL Z evs.length).map i64))])],?_,?_⟩
 ·try conv=>whnf
  refine⟨{ e:Nat // e≤evs.length },fun e=>[(1,.ref 0 0),(2,.ref 1 0),(6,.ref 2 0),(7,.pv (intsPV evs)),(10,.pv (tabPV Z)),(11,.ref 4 0),(12,.ref 5 0),(66,.pv (i64 evs.length)),(67,.pv (i64 e.1))],fun _=>7,fun e=>[(0,.var (cellsA a)),(1,.var cellsZ),(2,.var (cellsA k)),(3,.arr 1 (mixV evs.length (fun e=>i64 (fsN Z e)) (fun _=>i64 0) e.1)),(4,.var [.buf 3 (mixV evs.length (fun e=>i64 (fsN Z e)) (fun _=>i64 0) e.1).length]),(5,.var [.buf 6 ((keptL Z e.1).map i64).length]),(6,.arr 1 ((keptL Z e.1).map i64))],fun e=>evs.length-e.1,⟨⟨0,Nat.zero_le _⟩,?_⟩,?_⟩
  ·(refine Wk.of ?_ ?_ rfl rfl rfl<;>repeat' (first|exact trivial|exact WkD.same _|exact WkO.same _ _ rfl|refine WkD.int ?_|exact WkD.new' rfl rfl rfl|exact WkO.new _ _ rfl|refine WkO.vars rfl ?_|exact rfl|refine⟨?_,?_⟩|fail))
   exact congrArg (fun z:Nat=>(z:Int)) (hml 0)
  rintro⟨e,he⟩
  have hme:=hml e
  have hme1:=hml (e+1)
  (try conv=>whnf);repeat' (first|(apply And.intro<;>try conv=>whnf)|(intro h;try conv=>whnf)|fail)
  ·have he':e<evs.length:=by
    have h2:decide ((e:Int)<((evs.length:Nat):Int))=true:=by assumption
    have:=of_decide_eq_true h2
    omega
   obtain⟨f1,f2⟩:=hF e he'
   have hrow:Z[e]? = some (Z.getD e []):=getD_mem (by rw[hTb.len];exact he')
   have hrl:=hTb.row _ (List.mem_iff_getElem?.2 ⟨_,hrow⟩)
   have hIx:=sl_IndexB (Z.getD e []) (by omega)
   have htr:true∈Z.getD e []:=List.idxOf_lt_length_iff.1 (by rw[hrl];exact f1)
   rw[ixB,if_pos htr] at hIx
   have hIx:PureFn Tryz.prog 56 [rowB (Z.getD e []),.bool true] (i64 (fsN Z e)):=hIx
   have hst:=mixV_set (n:=evs.length) (p:=fun e=>i64 (fsN Z e)) (q:=fun _=>i64 0) (e:=e)
   have hnew:=mixV_new (n:=evs.length) (p:=fun e=>i64 (fsN Z e)) (q:=fun _=>i64 0) (e:=e+1) he' (Nat.lt_succ_self e)
   have hsn:keptL Z (e+1)=bif fsN Z e==e then keptL Z e++[e] else keptL Z e:=filt_snoc (p:=fun e=>fsN Z e==e) e
   have hlk:((keptL Z e).map i64).length≤1000:=by
    have:=kept_len Z e
    rw[List.length_map];omega
   have hix:=idx_map (g:=rowB) hrow
   generalize Z.getD e []=row at hIx hix hrow
   refine⟨Unit,fun _=>[(1,.ref 0 0),(2,.ref 1 0),(6,.ref 2 0),(7,.pv (intsPV evs)),(10,.pv (tabPV Z)),(11,.ref 4 0),(12,.ref 5 0),(13,.pv (i64 e)),(66,.pv (i64 evs.length)),(67,.pv (i64 e))],fun _=>7,fun _=>[(0,.var (cellsA a)),(1,.var cellsZ),(2,.var (cellsA k)),(3,.arr 1 (mixV evs.length (fun e=>i64 (fsN Z e)) (fun _=>i64 0) (e+1))),(4,.var [.buf 3 (mixV evs.length (fun e=>i64 (fsN Z e)) (fun _=>i64 0) (e+1)).length]),(5,.var [.buf 6 ((keptL Z e).map i64).length]),(6,.arr 1 ((keptL Z e).map i64))],?_,?_⟩
   ·try conv=>whnf
    refine⟨Plan.lin 0 9,[8],by kernel_rfl,?_⟩
    (try conv=>whnf);repeat' (first|(apply And.intro<;>try conv=>whnf)|(apply infoT;rfl)|(refine⟨_,_,rfl,idx_map (by with_reducible assumption),rfl,?_⟩;try conv=>whnf)|(refine⟨_,(by (conv=>whnf);exact hIx),rfl,?_⟩;try conv=>whnf)|fail)
    refine⟨e,rfl,by rw[hme];exact he',?_⟩
    (try conv=>whnf);repeat' (first|(apply And.intro<;>try conv=>whnf)|fail)
    refine⟨_,mixV_old he',Nat.le_refl 1,?_⟩
    try conv=>whnf
    refine⟨(),?_⟩
    (refine Wk.of ?_ ?_ rfl rfl rfl<;>repeat' (first|exact trivial|exact WkD.same _|exact WkO.same _ _ rfl|refine WkO.vars rfl ?_|refine⟨?_,?_⟩|fail))
    ·exact WkO.same _ _ (congrArg (fun z=>some (DObj.arr 1 z)) hst)
    ·exact WkD.eq (congrArg (DV.buf 3) (hme.trans hme1.symm))
   rintro⟨⟩
   (try conv=>whnf);repeat' (first|(apply And.intro<;>try conv=>whnf)|fail)
   refine⟨e,rfl,by rw[hme1];exact he',?_⟩
   (try conv=>whnf);repeat' (first|(apply And.intro<;>try conv=>whnf)|(intro h;try conv=>whnf)|(apply cellsI;rfl)|(apply szI;rfl)|(apply ex2;(focus with_reducible assumption);try conv=>whnf)|fail)
   ·exact app_big (n:=1000) hlk (by decide)
   ·have hb:(fsN Z e==e)=true:=by
     have h2:(((fsN Z e:Nat):Int)==(e:Int))=true:=h
     have h3:((fsN Z e:Nat):Int)=(e:Int):=by simpa using h2
     rw[show fsN Z e=e by omega];simp
    rw[hb,cond_true] at hsn
    have hm:(keptL Z e).map i64++[i64 e]=(keptL Z (e+1)).map i64:=by rw[hsn,List.map_append];rfl
    refine⟨⟨e+1,he'⟩,by show evs.length-(e+1)<evs.length-e;omega,?_⟩
    (refine Wk.of ?_ ?_ rfl rfl rfl<;>repeat' (first|exact trivial|exact WkD.same _|exact WkO.same _ _ rfl|exact WkD.eq (congrArg (fun z:List PV=>DV.buf _ z.length) hm)|exact WkO.same _ _ (congrArg (fun z=>some (DObj.arr _ z)) hm)|refine WkD.int ?_|refine WkO.vars rfl ?_|refine⟨?_,?_⟩|(refine wrapA ?_ ?_ ?_;(focus simp;done);(focus (try dsimp only);omega);(focus (try dsimp only);omega))|fail))
   ·have hb:(fsN Z e==e)=false:=by
     have h2:(((fsN Z e:Nat):Int)==(e:Int))=false:=h
     have h3:¬ ((fsN Z e:Nat):Int)=(e:Int):=by simpa using h2
     simp;omega
    rw[hb,cond_false] at hsn
    have hm:(keptL Z e).map i64=(keptL Z (e+1)).map i64:=by rw[hsn]
    refine⟨⟨e+1,he'⟩,by show evs.length-(e+1)<evs.length-e;omega,?_⟩
    (refine Wk.of ?_ ?_ rfl rfl rfl<;>repeat' (first|exact trivial|exact WkD.same _|exact WkO.same _ _ rfl|exact WkD.eq (congrArg (fun z:List PV=>DV.buf _ z.length) hm)|exact WkO.same _ _ (congrArg (fun z=>some (DObj.arr _ z)) hm)|refine WkD.int ?_|refine WkO.vars rfl ?_|refine⟨?_,?_⟩|(refine wrapA ?_ ?_ ?_;(focus simp;done);(focus (try dsimp only);omega);(focus (try dsimp only);omega))|fail))
  ·have he':e=evs.length:=by
    have h2:decide ((e:Int)<((evs.length:Nat):Int))=false:=by assumption
    have:=of_decide_eq_false h2
    omega
   subst he'
   exact⟨(),(by refine Wk.of ?_ ?_ rfl rfl rfl<;>repeat' (first|exact trivial|exact WkD.same _|exact WkO.same _ _ rfl|exact WkD.fz _ _ _ rfl (Or.inl ⟨_,rfl⟩) rfl|refine WkO.vars rfl ?_|refine⟨?_,?_⟩|fail))⟩
 rintro⟨⟩
 rw[hfm,← hkl0]
 clear hfm hml
 have hkl:kl.length≤8:=by rw[hkl0];exact Nat.le_trans (kept_len _ _) hev8
 have hkm:∀ w,w∈kl→w<k.pre.length:=fun w h=>by rw[hkp];exact kept_mem (by rw[← hkl0];exact h)
 have hkl1:kl.length≤1000:=by omega
 obtain⟨V,hV⟩:∃ V:List PV,V=((kl.take kl.length).map fun w=>k.pre.getD w []).map fpv:=⟨_,rfl⟩
 obtain⟨W,hW⟩:∃ W:List PV,W=((kl.take kl.length).map fun w=>k.post.getD w []).map postPV:=⟨_,rfl⟩
 try conv=>whnf
 refine⟨Unit,fun _=>[(1,.ref 0 0),(2,.ref 1 0),(6,.ref 2 0),(7,.pv (intsPV evs)),(12,.ref 5 0),(14,.clo 57 [] [.ref 5 0,.ref 4 0]),(15,.ref 6 0)],fun _=>7,fun _=>[(0,.var (cellsA a)),(1,.var cellsZ),(2,.var (cellsA k)),(4,.var [.pv (intsPV fl)]),(5,.var [.pv (intsPV kl)]),(6,.var [.pv (.sl (((kl.take kl.length).map fun w=>k.pre.getD w []).map fpv)),.pv (.sl (((kl.take kl.length).map fun w=>k.post.getD w []).map postPV)),.pv .nil])],?_,?_⟩
 ·try conv=>whnf
  refine⟨{ i:Nat // i≤kl.length },fun i=>[(1,.ref 0 0),(2,.ref 1 0),(6,.ref 2 0),(7,.pv (intsPV evs)),(12,.ref 5 0),(14,.clo 57 [] [.ref 5 0,.ref 4 0]),(15,.ref 6 0),(90,.pv (intsPV kl)),(91,.pv (i64 (kl.map i64).length)),(92,.pv (i64 i.1))],fun _=>9,fun i=>[(0,.var (cellsA a)),(1,.var cellsZ),(2,.var (cellsA k)),(4,.var [.pv (intsPV fl)]),(5,.var [.pv (intsPV kl)]),(6,.var [.buf 7 (((kl.take i.1).map fun w=>k.pre.getD w []).map fpv).length,.buf 8 (((kl.take i.1).map fun w=>k.post.getD w []).map postPV).length,.pv .nil]),(7,.arr 1 (((kl.take i.1).map fun w=>k.pre.getD w []).map fpv)),(8,.arr 1 (((kl.take i.1).map fun w=>k.post.getD w []).map postPV))],fun i=>kl.length-i.1,⟨⟨0,Nat.zero_le _⟩,(by refine Wk.of ?_ ?_ rfl rfl rfl<;>repeat' (first|exact trivial|exact WkD.same _|exact WkO.same _ _ rfl|exact WkD.new' rfl rfl rfl|exact WkO.new _ _ rfl|refine WkO.vars rfl ?_|exact rfl|refine⟨?_,?_⟩|fail))⟩,?_⟩
  rintro⟨i,hi⟩
  (try conv=>whnf);repeat' (first|(apply And.intro<;>try conv=>whnf)|(intro h;try conv=>whnf)|(apply infoT;rfl)|fail)
  ·have hi':i<kl.length:=by simpa using lt_dec h
   obtain⟨w,hx⟩:∃ y,kl[i]? = some y:=⟨_,List.getElem?_eq_getElem hi'⟩
   have hwn:=hkm w (List.mem_iff_getElem?.2 ⟨_,hx⟩)
   obtain⟨p,hp⟩:∃ p,k.pre[w]? = some p:=⟨_,List.getElem?_eq_getElem hwn⟩
   obtain⟨q,hq⟩:∃ q,k.post[w]? = some q:=⟨_,List.getElem?_eq_getElem (by rw[hK2.post];exact hwn)⟩
   have hpd:k.pre.getD w []=p:=by rw[List.getD_eq_getElem?_getD,hp];rfl
   have hqd:k.post.getD w []=q:=by rw[List.getD_eq_getElem?_getD,hq];rfl
   have hixq:=idx_map (g:=postPV) hq
   have hixp:=idx_map (g:=fpv) hp
   have hs1:(((kl.take i).map fun w=>k.pre.getD w []).map fpv).length≤1000:=by simp;omega
   have hs2:(((kl.take i).map fun w=>k.post.getD w []).map postPV).length≤1000:=by simp;omega
   have e5:((kl.take i).map fun w=>k.pre.getD w []).map fpv++[fpv p]=((kl.take (i+1)).map fun w=>k.pre.getD w []).map fpv:=by
    rw[List.take_add_one,hx,List.map_append,List.map_append,← hpd];rfl
   have e6:((kl.take i).map fun w=>k.post.getD w []).map postPV++[postPV q]=((kl.take (i+1)).map fun w=>k.post.getD w []).map postPV:=by
    rw[List.take_add_one,hx,List.map_append,List.map_append,← hqd];rfl
   refine⟨_,_,rfl,idx_map hx,rfl,?_⟩
   try conv=>whnf
   refine⟨Plan.ofL [0,1,2,3,4,5,6,7,9,10,11,12,13,14,15,16,8,18,17,19,20,21],[19,21,1008,1017,2009,2010,2011,2012,2014,2015,2018],by kernel_rfl,?_⟩
   (try conv=>whnf);repeat' (first|(apply And.intro<;>try conv=>whnf)|(intro h;try conv=>whnf)|(apply infoT;rfl)|(apply cellsI;rfl)|(apply szI;rfl)|(refine⟨_,_,rfl,idx_map (by with_reducible assumption),rfl,?_⟩;try conv=>whnf)|fail)
   ·exact app_big (n:=1000) hs1 (by decide)
   ·exact ExtV.put (k:=7) (fun cs h=>by cases h) _ _ h
   ·exact app_big (n:=1000) hs2 (by decide)
   ·exact ExtV.put (k:=8) (fun cs h=>by cases h) _ _ h
   ·refine⟨⟨i+1,hi'⟩,by show kl.length-(i+1)<kl.length-i;omega,?_⟩
    (refine Wk.of ?_ ?_ rfl rfl rfl<;>repeat' (first|exact trivial|exact WkD.same _|exact WkO.same _ _ rfl|exact WkD.eq (congrArg (fun z:List PV=>DV.buf _ z.length) e5)|exact WkO.same _ _ (congrArg (fun z=>some (DObj.arr _ z)) e5)|exact WkD.eq (congrArg (fun z:List PV=>DV.buf _ z.length) e6)|exact WkO.same _ _ (congrArg (fun z=>some (DObj.arr _ z)) e6)|refine WkD.int ?_|refine WkO.vars rfl ?_|refine⟨?_,?_⟩|(refine wrapA ?_ ?_ ?_;(focus simp;done);(focus (try dsimp only);omega);(focus (try dsimp only);omega))|fail))
  ·have hi':i=kl.length:=by have:=ge_dec (m:=(kl.map i64).length) h (by simpa using hi);simpa using this
   subst hi'
   exact⟨(),(by refine Wk.of ?_ ?_ rfl rfl rfl<;>repeat' (first|exact trivial|exact WkD.same _|exact WkO.same _ _ rfl|exact WkD.fz _ _ _ rfl (Or.inl ⟨_,rfl⟩) rfl|refine WkO.vars rfl ?_|refine⟨?_,?_⟩|fail))⟩
 rintro⟨⟩
 rw[← hV,← hW]
 obtain⟨rq,hrq⟩:∃ rq:List Nat→List Nat,rq=relQ Z evs.length:=⟨_,rfl⟩
 obtain⟨pl,hpl⟩:∃ pl:Nat→Nat,pl=fun e=>kl.idxOf (fsN Z e):=⟨_,rfl⟩
 have hplN:plN Z evs.length=pl:=by rw[hpl];funext e;rw[plN,← hkl0]
 have hp8:∀ f,f<evs.length→pl f<kl.length:=fun f hf=>by rw[← hplN,hkl0];exact hF.pl hf
 have hfl2:∀ e,e<evs.length→fl[e]? = some (fsN Z e):=fun e he=>by rw[hfl,List.getElem?_map,List.getElem?_range he];rfl
 have hmk:∀ e,e<evs.length→fsN Z e∈kl:=fun e he=>by rw[hkl0];exact hF.mem he
 have hrqe:∀ r,rq r=allQ r pl evs.length evs.length (List.replicate kl.length 0):=fun r=>by rw[hrq,relQ,hplN,← hkl0]
 have hag:=hK2.ag
 refine⟨Unit,fun _=>[(1,.ref 0 0),(2,.ref 1 0),(7,.pv (intsPV evs)),(14,.clo 57 [] [.ref 5 0,.ref 4 0]),(15,.ref 6 0)],fun _=>7,fun _=>[(0,.var (cellsA a)),(1,.var cellsZ),(2,.var (cellsA k)),(4,.var [.pv (intsPV fl)]),(5,.var [.pv (intsPV kl)]),(6,.var [.pv (.sl V),.pv (.sl W),.pv (.sl (((k.rel.take k.rel.length).map rq).map rowPV))])],?_,?_⟩
 ·try conv=>whnf
  refine⟨{ i:Nat // i≤k.rel.length },fun i=>[(1,.ref 0 0),(2,.ref 1 0),(7,.pv (intsPV evs)),(12,.ref 5 0),(14,.clo 57 [] [.ref 5 0,.ref 4 0]),(15,.ref 6 0),(118,.pv (.sl (k.rel.map rowPV))),(119,.pv (i64 (k.rel.map rowPV).length)),(120,.pv (i64 i.1))],fun _=>8,fun i=>[(0,.var (cellsA a)),(1,.var cellsZ),(2,.var (cellsA k)),(4,.var [.pv (intsPV fl)]),(5,.var [.pv (intsPV kl)]),(6,.var [.pv (.sl V),.pv (.sl W),.buf 7 (((k.rel.take i.1).map rq).map rowPV).length]),(7,.arr 1 (((k.rel.take i.1).map rq).map rowPV))],fun i=>k.rel.length-i.1,⟨⟨0,Nat.zero_le _⟩,(by refine Wk.of ?_ ?_ rfl rfl rfl<;>repeat' (first|exact trivial|exact WkD.same _|exact WkO.same _ _ rfl|exact WkD.new' rfl rfl rfl|exact WkO.new _ _ rfl|refine WkO.vars rfl ?_|exact rfl|refine⟨?_,?_⟩|fail))⟩,?_⟩
  rintro⟨i,hi⟩
  (try conv=>whnf);repeat' (first|(apply And.intro<;>try conv=>whnf)|(intro h;try conv=>whnf)|(apply infoT;rfl)|fail)
  ·have hi':i<k.rel.length:=by simpa using lt_dec h
   obtain⟨r,hx⟩:∃ y,k.rel[i]? = some y:=⟨_,List.getElem?_eq_getElem hi'⟩
   have hrm:=List.mem_iff_getElem?.2 ⟨_,hx⟩
   have hrl:r.length=evs.length:=by rw[hK2.rows r hrm,hkp]
   have hr64:∀ s,s∈r→s<2^64:=fun s hs=>Nat.lt_of_lt_of_le (hK2.bits r hrm s hs) (Nat.pow_le_pow_right (by decide) (by omega))
   have ht:=take_map (f:=rq) hx
   have hvsl:(((k.rel.take i).map rq).map rowPV).length≤1000:=by simp;omega
   have er:((k.rel.take i).map rq).map rowPV++[rowPV (rq r)]=((k.rel.take (i+1)).map rq).map rowPV:=by rw[ht,List.map_append];rfl
   have hN:((kl.map i64).length:Int).toNat=kl.length:=by rw[List.length_map];rfl
   have hz1:List.replicate ((kl.map i64).length:Int).toNat (PV.int .u64 0)=(allQ r pl evs.length 0 (List.replicate kl.length 0)).map u64:=by rw[hN,allQ,List.map_replicate];rfl
   have hbig:((kl.map i64).length:Int)≤(big:Int):=by
    show ((kl.map i64).length:Int)≤4294967296
    rw[List.length_map];omega
   refine⟨_,_,rfl,idx_map hx,rfl,?_⟩
   try conv=>whnf
   refine⟨Unit,fun _=>[(1,.ref 0 0),(2,.ref 1 0),(7,.pv (intsPV evs)),(12,.ref 5 0),(14,.clo 57 [] [.ref 5 0,.ref 4 0]),(15,.ref 6 0),(19,.pv (rowPV r)),(20,.buf 8 ((allQ r pl evs.length 0 (List.replicate kl.length 0)).map u64).length),(118,.pv (.sl (k.rel.map rowPV))),(119,.pv (i64 (k.rel.map rowPV).length)),(120,.pv (i64 i))],fun _=>9,fun _=>[(0,.var (cellsA a)),(1,.var cellsZ),(2,.var (cellsA k)),(4,.var [.pv (intsPV fl)]),(5,.var [.pv (intsPV kl)]),(6,.var [.pv (.sl V),.pv (.sl W),.buf 7 (((k.rel.take i).map rq).map rowPV).length]),(7,.arr 1 (((k.rel.take i).map rq).map rowPV)),(8,.arr 1 ((allQ r pl evs.length 0 (List.replicate kl.length 0)).map u64))],?_,?_⟩
   ·(try conv=>whnf);repeat' (first|(apply And.intro<;>try conv=>whnf)|(apply Or.inl;try conv=>whnf)|fail)
    ·rfl
    ·exact Int.natCast_nonneg _
    ·exact hbig
    refine⟨(),?_⟩
    (refine Wk.of ?_ ?_ rfl rfl rfl<;>repeat' (first|exact trivial|exact WkD.same _|exact WkO.same _ _ rfl|exact WkD.eq (congrArg (fun z:List PV=>DV.buf _ z.length) hz1)|exact WkO.same _ _ (congrArg (fun z=>some (DObj.arr _ z)) hz1)|refine⟨?_,?_⟩|fail))
   rintro⟨⟩
   refine⟨Unit,fun _=>[(1,.ref 0 0),(2,.ref 1 0),(7,.pv (intsPV evs)),(12,.ref 5 0),(14,.clo 57 [] [.ref 5 0,.ref 4 0]),(15,.ref 6 0),(20,.buf 8 ((allQ r pl evs.length evs.length (List.replicate kl.length 0)).map u64).length),(118,.pv (.sl (k.rel.map rowPV))),(119,.pv (i64 (k.rel.map rowPV).length)),(120,.pv (i64 i))],fun _=>9,fun _=>[(0,.var (cellsA a)),(1,.var cellsZ),(2,.var (cellsA k)),(4,.var [.pv (intsPV fl)]),(5,.var [.pv (intsPV kl)]),(6,.var [.pv (.sl V),.pv (.sl W),.buf 7 (((k.rel.take i).map rq).map rowPV).length]),(7,.arr 1 (((k.rel.take i).map rq).map rowPV)),(8,.arr 1 ((allQ r pl evs.length evs.length (List.replicate kl.length 0)).map u64))],?_,?_⟩
   ·try conv=>whnf
    refine⟨{ e:Nat // e≤evs.length },fun e=>[(1,.ref 0 0),(2,.ref 1 0),(7,.pv (intsPV evs)),(12,.ref 5 0),(14,.clo 57 [] [.ref 5 0,.ref 4 0]),(15,.ref 6 0),(19,.pv (rowPV r)),(20,.buf 8 ((allQ r pl evs.length e.1 (List.replicate kl.length 0)).map u64).length),(118,.pv (.sl (k.rel.map rowPV))),(119,.pv (i64 (k.rel.map rowPV).length)),(120,.pv (i64 i)),(127,.pv (rowPV r)),(128,.pv (i64 (r.map u64).length)),(129,.pv (i64 e.1))],fun _=>9,fun e=>[(0,.var (cellsA a)),(1,.var cellsZ),(2,.var (cellsA k)),(4,.var [.pv (intsPV fl)]),(5,.var [.pv (intsPV kl)]),(6,.var [.pv (.sl V),.pv (.sl W),.buf 7 (((k.rel.take i).map rq).map rowPV).length]),(7,.arr 1 (((k.rel.take i).map rq).map rowPV)),(8,.arr 1 ((allQ r pl evs.length e.1 (List.replicate kl.length 0)).map u64))],fun e=>evs.length-e.1,⟨⟨0,Nat.zero_le _⟩,(by exact Wk.sm rfl rfl rfl rfl rfl)⟩,?_⟩
    rintro⟨e,he⟩
    (try conv=>whnf);repeat' (first|(apply And.intro<;>try conv=>whnf)|(intro h;try conv=>whnf)|(apply infoT;rfl)|fail)
    ·have he':e<evs.length:=by rw[← hrl];simpa using lt_dec h
     obtain⟨Qe,hQe⟩:∃ Qe,Qe=allQ r pl evs.length e (List.replicate kl.length 0):=⟨_,rfl⟩
     have hQn:allQ r pl evs.length (e+1) (List.replicate kl.length 0)=rowQ r pl e evs.length Qe:=by rw[allQ,hQe]
     have hQl:Qe.length=kl.length:=by rw[hQe,allQ_len,List.length_replicate]
     have hQu:Und8 Qe:=by rw[hQe];exact allQ_und (zer_und _) fun f hf=>by have:=hp8 f hf;omega
     have hq0:(allQ r pl evs.length e (List.replicate kl.length 0)).map u64=(rowQ r pl e 0 Qe).map u64:=by rw[hQe];rfl
     have hq1:(rowQ r pl e evs.length Qe).map u64=(allQ r pl evs.length (e+1) (List.replicate kl.length 0)).map u64:=by rw[hQn]
     have hre:r[e]? = some (r.getD e 0):=getD_mem (by omega)
     have hs64:=hr64 _ (List.mem_iff_getElem?.2 ⟨_,hre⟩)
     refine⟨_,_,rfl,idx_map hre,rfl,?_⟩
     try conv=>whnf
     refine⟨{ f:Nat // f≤evs.length },fun f=>[(1,.ref 0 0),(2,.ref 1 0),(7,.pv (intsPV evs)),(12,.ref 5 0),(14,.clo 57 [] [.ref 5 0,.ref 4 0]),(15,.ref 6 0),(19,.pv (rowPV r)),(20,.buf 8 ((rowQ r pl e f.1 Qe).map u64).length),(118,.pv (.sl (k.rel.map rowPV))),(119,.pv (i64 (k.rel.map rowPV).length)),(120,.pv (i64 i)),(127,.pv (rowPV r)),(128,.pv (i64 (r.map u64).length)),(129,.pv (i64 e)),(21,.pv (i64 e)),(22,.pv (u64 (r.getD e 0))),(135,.pv (i64 (r.map u64).length)),(136,.pv (i64 f.1))],fun _=>9,fun f=>[(0,.var (cellsA a)),(1,.var cellsZ),(2,.var (cellsA k)),(4,.var [.pv (intsPV fl)]),(5,.var [.pv (intsPV kl)]),(6,.var [.pv (.sl V),.pv (.sl W),.buf 7 (((k.rel.take i).map rq).map rowPV).length]),(7,.arr 1 (((k.rel.take i).map rq).map rowPV)),(8,.arr 1 ((rowQ r pl e f.1 Qe).map u64))],fun f=>evs.length-f.1,⟨⟨0,Nat.zero_le _⟩,(by refine Wk.of ?_ ?_ rfl rfl rfl<;>repeat' (first|exact trivial|exact WkD.same _|exact WkO.same _ _ rfl|exact WkD.eq (congrArg (fun z:List PV=>DV.buf _ z.length) hq0)|exact WkO.same _ _ (congrArg (fun z=>some (DObj.arr _ z)) hq0)|refine⟨?_,?_⟩|fail))⟩,?_⟩
     rintro⟨f,hf⟩
     (try conv=>whnf);repeat' (first|(apply And.intro<;>try conv=>whnf)|(intro h;try conv=>whnf)|fail)
     ·have hf':f<evs.length:=by rw[← hrl];simpa using lt_dec h
      obtain⟨Q,hQ⟩:∃ Q,Q=rowQ r pl e f Qe:=⟨_,rfl⟩
      have hQl2:Q.length=kl.length:=by rw[hQ,rowQ_len,hQl]
      have hQu2:Und8 Q:=by rw[hQ];exact rowQ_und hQu fun g hg=>by have:=hp8 g (by omega);omega
      obtain⟨ve,hve⟩:∃ ve,ve=fsN Z e:=⟨_,rfl⟩
      obtain⟨vf,hvf⟩:∃ vf,vf=fsN Z f:=⟨_,rfl⟩
      have hple:pl e=kl.idxOf ve:=by rw[hpl,hve]
      have hplf:pl f=kl.idxOf vf:=by rw[hpl,hvf]
      have hfe:fl[e]? = some ve:=by rw[hve];exact hfl2 e he'
      have hff:fl[f]? = some vf:=by rw[hvf];exact hfl2 f hf'
      have hme:ve∈kl:=by rw[hve];exact hmk e he'
      have hmf:vf∈kl:=by rw[hvf];exact hmk f hf'
      have hplt:kl.idxOf ve<Q.length:=by rw[hQl2,← hple];exact hp8 e he'
      have hpf8:kl.idxOf vf<8:=by rw[← hplf];have:=hp8 f hf';omega
      have hqd:=getD_mem (d:=0) hplt
      have hqe:=idx_map (g:=u64) hqd
      have hor:=or_place (x:=Q.getD (kl.idxOf ve) 0) (s:=r.getD e 0) (f:=f) (p:=kl.idxOf vf) (hQu2.get _) hs64 (by omega) hpf8
      have hQ2:rowQ r pl e (f+1) Qe=Q.set (kl.idxOf ve) (bif (r.getD e 0).testBit f then Q.getD (kl.idxOf ve) 0 |||2^kl.idxOf vf else Q.getD (kl.idxOf ve) 0):=by rw[rowQ,← hQ,stepQ,hple,hplf]
      have hplm:kl.idxOf ve<(Q.map u64).length:=by rw[List.length_map];exact hplt
      have hst:(Q.map u64).set (kl.idxOf ve) (PV.int .u64 (orU (Q.getD (kl.idxOf ve) 0:Nat) (shlU (andU (shrU (r.getD e 0:Nat) (f:Nat)) 1) (kl.idxOf vf:Nat))))=(rowQ r pl e (f+1) Qe).map u64:=by rw[hQ2,hor,List.map_set];rfl
      rw[hQ] at hqe hplm hst
      clear hQ2 hor
      have hls:((rowQ r pl e f Qe).map u64).length=((rowQ r pl e (f+1) Qe).map u64).length:=by rw[List.length_map,List.length_map,rowQ_len,rowQ_len]
      have hn1:=Int.natCast_nonneg f
      have hn2:=Int.natCast_nonneg (kl.idxOf vf)
      refine⟨planQ,[3,12,16],by kernel_rfl,?_⟩
      (try conv=>whnf);repeat' (first|(apply And.intro<;>try conv=>whnf)|exact Nat.le_refl 1|(apply ex2;(focus with_reducible assumption);try conv=>whnf)|(refine DC.callA (q:=.pv (i64 (kl.idxOf ve))) 6 (HPl a k fl kl) ⟨rfl,rfl,rfl,rfl,rfl,rfl,trivial⟩ rfl rfl rfl rfl (fun M' K' hK'=>clo_place a k fl kl e ve hfe hme hkl1 _ K' hK') ?_;try conv=>whnf)|(refine DC.callA (q:=.pv (i64 (kl.idxOf vf))) 6 (HPl a k fl kl) ⟨rfl,rfl,rfl,rfl,rfl,rfl,trivial⟩ rfl rfl rfl rfl (fun M' K' hK'=>clo_place a k fl kl f vf hff hmf hkl1 _ K' hK') ?_;try conv=>whnf)|(refine⟨kl.idxOf ve,rfl,hplm,?_⟩;try conv=>whnf)|fail)
      all_goals first
       |exact hn1
       |exact hn2
       |skip
      all_goals
       refine⟨⟨f+1,hf'⟩,by show evs.length-(f+1)<evs.length-f;omega,?_⟩
       (refine Wk.of ?_ ?_ rfl rfl rfl<;>repeat' (first|exact trivial|exact WkD.same _|exact WkO.same _ _ rfl|refine WkD.int ?_|refine⟨?_,?_⟩|(refine wrapA ?_ ?_ ?_;(focus simp;done);(focus (try dsimp only);omega);(focus (try dsimp only);omega))|fail))
       ·exact WkD.eq (congrArg (DV.buf 8) hls)
       ·exact WkO.same _ _ (congrArg (fun z=>some (DObj.arr 1 z)) hst)
     ·have hf':f=evs.length:=by have:=ge_dec (m:=(r.map u64).length) h (by simpa [hrl] using hf);simpa [hrl] using this
      subst hf'
      refine⟨⟨e+1,he'⟩,by show evs.length-(e+1)<evs.length-e;omega,?_⟩
      (refine Wk.of ?_ ?_ rfl rfl rfl<;>repeat' (first|exact trivial|exact WkD.same _|exact WkO.same _ _ rfl|exact WkD.eq (congrArg (fun z:List PV=>DV.buf _ z.length) hq1)|exact WkO.same _ _ (congrArg (fun z=>some (DObj.arr _ z)) hq1)|refine WkD.int ?_|refine⟨?_,?_⟩|(refine wrapA ?_ ?_ ?_;(focus simp;done);(focus (try dsimp only);omega);(focus (try dsimp only);omega))|fail))
    ·have he':e=evs.length:=by have:=ge_dec (m:=(r.map u64).length) h (by simpa [hrl] using he);simpa [hrl] using this
     subst he'
     exact⟨(),(by exact Wk.sm rfl rfl rfl rfl rfl)⟩
   rintro⟨⟩
   rw[← hrqe r]
   (try conv=>whnf);repeat' (first|(apply And.intro<;>try conv=>whnf)|(apply bleI;rfl)|(apply cellsI;rfl)|(apply szI;rfl)|fail)
   ·exact app_big (n:=1000) hvsl (by decide)
   ·refine⟨⟨i+1,hi'⟩,by show k.rel.length-(i+1)<k.rel.length-i;omega,?_⟩
    (refine Wk.of ?_ ?_ rfl rfl rfl<;>repeat' (first|exact trivial|exact WkD.same _|exact WkO.same _ _ rfl|exact WkD.eq (congrArg (fun z:List PV=>DV.buf _ z.length) er)|exact WkO.same _ _ (congrArg (fun z=>some (DObj.arr _ z)) er)|refine WkD.int ?_|refine WkO.vars rfl ?_|refine⟨?_,?_⟩|(refine wrapA ?_ ?_ ?_;(focus simp;done);(focus (try dsimp only);omega);(focus (try dsimp only);omega))|fail))
  ·have hi':i=k.rel.length:=by have:=ge_dec (m:=(k.rel.map rowPV).length) h (by simpa using hi);simpa using this
   subst hi'
   exact⟨(),(by refine Wk.of ?_ ?_ rfl rfl rfl<;>repeat' (first|exact trivial|exact WkD.same _|exact WkO.same _ _ rfl|exact WkD.fz _ _ _ rfl (Or.inl ⟨_,rfl⟩) rfl|refine WkO.vars rfl ?_|refine⟨?_,?_⟩|fail))⟩
 rintro⟨⟩
 have hR:sfP (sfB k Z evs.length,(List.range a.pre.length).map (sfN evs Z),0)=.tup [.agg [.sl V,.sl W,.sl (((k.rel.take k.rel.length).map rq).map rowPV)],.sl (((List.range a.pre.length).map (sfN evs Z)).map intI),.int .i64 0]:=by
  rw[hV,hW,hrq,List.take_length,List.take_length,hkl0];rfl
 rw[hR]
 clear hW hV hR
 generalize (((k.rel.take k.rel.length).map rq).map rowPV)=U
 obtain⟨sn,hsn⟩:∃ sn:Nat→Int,sn=sfN evs Z:=⟨_,rfl⟩
 rw[← hsn]
 have e9:((a.pre.map fpv).length:Int)=(a.pre.length:Int):=by simp
 try conv=>whnf
 refine⟨Unit,fun _=>[(2,.ref 1 0),(15,.ref 6 0),(24,.pv (.sl (((List.range a.pre.length).map sn).map intI)))],fun _=>7,fun _=>[(0,.var (cellsA a)),(1,.var cellsZ),(2,.var (cellsA k)),(4,.var [.pv (intsPV fl)]),(5,.var [.pv (intsPV kl)]),(6,.var [.pv (.sl V),.pv (.sl W),.pv (.sl U)])],?_,?_⟩
 ·try conv=>whnf
  refine⟨{ i:Nat // i≤a.pre.length },fun i=>[(2,.ref 1 0),(7,.pv (intsPV evs)),(14,.clo 57 [] [.ref 5 0,.ref 4 0]),(15,.ref 6 0),(24,.buf 7 (((List.range i.1).map sn).map intI).length),(166,.pv (i64 (a.pre.map fpv).length)),(167,.pv (i64 i.1))],fun _=>8,fun i=>[(0,.var (cellsA a)),(1,.var cellsZ),(2,.var (cellsA k)),(4,.var [.pv (intsPV fl)]),(5,.var [.pv (intsPV kl)]),(6,.var [.pv (.sl V),.pv (.sl W),.pv (.sl U)]),(7,.arr 1 (((List.range i.1).map sn).map intI))],fun i=>a.pre.length-i.1,⟨⟨0,Nat.zero_le _⟩,(by refine Wk.of ?_ ?_ rfl rfl rfl<;>repeat' (first|exact trivial|exact WkD.same _|exact WkO.same _ _ rfl|exact WkD.new' rfl rfl rfl|exact WkO.new _ _ rfl|exact rfl|refine⟨?_,?_⟩|fail))⟩,?_⟩
  rintro⟨i,hi⟩
  (try conv=>whnf);repeat' (first|(apply And.intro<;>try conv=>whnf)|(intro h;try conv=>whnf)|fail)
  ·have hi':i<a.pre.length:=by simpa using lt_dec h
   have hrn:((List.range i).map sn).map intI++[intI (sn i)]=((List.range (i+1)).map sn).map intI:=by rw[List.range_succ,List.map_append,List.map_append];rfl
   have hll:(((List.range i).map sn).map intI).length≤1000:=by simp;omega
   have hI:=sl_IndexN evs i (by omega)
   obtain⟨x,hx⟩:∃ x,ixN evs i=x:=⟨_,rfl⟩
   rw[hx] at hI
   (try conv=>whnf);repeat' (first|(refine PureFn.dy hI rfl ?_;try conv=>whnf)|fail)
   refine⟨Unit,fun _=>[(2,.ref 1 0),(7,.pv (intsPV evs)),(14,.clo 57 [] [.ref 5 0,.ref 4 0]),(15,.ref 6 0),(24,.buf 7 (((List.range i).map sn).map intI).length),(166,.pv (i64 (a.pre.map fpv).length)),(167,.pv (i64 i)),(26,.pv (intI (sn i)))],fun _=>8,fun _=>[(0,.var (cellsA a)),(1,.var cellsZ),(2,.var (cellsA k)),(4,.var [.pv (intsPV fl)]),(5,.var [.pv (intsPV kl)]),(6,.var [.pv (.sl V),.pv (.sl W),.pv (.sl U)]),(7,.arr 1 (((List.range i).map sn).map intI))],?_,?_⟩
   ·by_cases him:i∈evs
    ·rw[ixN,if_pos him] at hx
     have hsi:sn i=(pl (evs.idxOf i):Nat):=by rw[hsn,sfN,if_pos him,hplN]
     have hj:evs.idxOf i<evs.length:=List.idxOf_lt_length_iff.2 him
     generalize evs.idxOf i=j at hx hsi hj
     subst hx
     obtain⟨ve,hve⟩:∃ ve,ve=fsN Z j:=⟨_,rfl⟩
     have hplj:pl j=kl.idxOf ve:=by rw[hpl,hve]
     have hfe:fl[j]? = some ve:=by rw[hve];exact hfl2 j hj
     have hme:ve∈kl:=by rw[hve];exact hmk j hj
     rw[hplj] at hsi
     rw[hsi]
     (try conv=>whnf);repeat' (first|(apply And.intro<;>try conv=>whnf)|(intro h;try conv=>whnf)|(refine DC.callA (q:=.pv (i64 (kl.idxOf ve))) 6 (HPl a k fl kl) ⟨rfl,rfl,rfl,rfl,rfl,rfl,trivial⟩ rfl rfl rfl rfl (fun M' K' hK'=>clo_place a k fl kl j ve hfe hme hkl1 _ K' hK') ?_;try conv=>whnf)|fail)
     ·exact⟨(),(by exact Wk.sm rfl rfl rfl rfl rfl)⟩
     ·exfalso
      have h2:decide ((j:Int)≥0)=false:=h
      have:=of_decide_eq_false h2
      omega
    ·rw[ixN,if_neg him] at hx
     subst hx
     have hsi:sn i = -1:=by rw[hsn,sfN,if_neg him]
     rw[hsi]
     (try conv=>whnf);repeat' (first|(apply And.intro<;>try conv=>whnf)|(intro h;try conv=>whnf)|fail)
     ·cases h
     ·exact⟨(),(by exact Wk.sm rfl rfl rfl rfl rfl)⟩
   rintro⟨⟩
   (try conv=>whnf);repeat' (first|(apply And.intro<;>try conv=>whnf)|(apply cellsI;rfl)|(apply szI;rfl)|fail)
   ·exact app_big (n:=1000) hll (by decide)
   ·refine⟨⟨i+1,hi'⟩,by show a.pre.length-(i+1)<a.pre.length-i;omega,?_⟩
    (refine Wk.of ?_ ?_ rfl rfl rfl<;>repeat' (first|exact trivial|exact WkD.same _|exact WkO.same _ _ rfl|exact WkD.eq (congrArg (fun z:List PV=>DV.buf _ z.length) hrn)|exact WkO.same _ _ (congrArg (fun z=>some (DObj.arr _ z)) hrn)|refine WkD.int ?_|refine⟨?_,?_⟩|(refine wrapA ?_ ?_ ?_;(focus simp;done);(focus (try dsimp only);omega);(focus (try dsimp only);omega))|fail))
  ·have hi':i=a.pre.length:=by have:=ge_dec (m:=(a.pre.map fpv).length) h (by simpa using hi);simpa using this
   subst hi'
   exact⟨(),(by refine Wk.of ?_ ?_ rfl rfl rfl<;>repeat' (first|exact trivial|exact WkD.same _|exact WkO.same _ _ rfl|exact WkD.fz _ _ _ rfl (Or.inl ⟨_,rfl⟩) rfl|refine⟨?_,?_⟩|fail))⟩
 rintro⟨⟩
 try conv=>whnf
 exact .refl _
set_option maxHeartbeats 400000
theorem set_ext {n x y:Nat} (hx:x<2^n) (hy:y<2^n) (h:∀ j,j<n→x.testBit j=y.testBit j):x=y:=Nat.eq_of_testBit_eq fun j=>by
 by_cases hj:j<n
 ·exact h j hj
 ·have hp:=Nat.pow_le_pow_right (by decide:0<2) (by omega:n≤j)
  rw[Nat.testBit_lt_two_pow (by omega),Nat.testBit_lt_two_pow (by omega)]
theorem not_bit {n x j:Nat}:(notN n x).testBit j=(decide (j<n) && !x.testBit j):=maskOf_bit _ _ _
theorem full_lt (n:Nat):2^n-1<2^n:=by have:=Nat.two_pow_pos n;omega
theorem full_bit {n j:Nat} (h:j<n):(2^n-1).testBit j=true:=by rw[Nat.testBit_two_pow_sub_one];exact decide_eq_true h
theorem not_not {n x:Nat} (h:x<2^n):notN n (notN n x)=x:=set_ext (notN_lt _ _) h fun j hj=>by
 rw[not_bit,not_bit,decide_eq_true hj];simp
def vlF (m:Mo) (n:Nat) (f:List Nd):Nat:=vlT m n (root f)
theorem cst_can:∀ op:Int,op=1∨op=2→Can (buildL (n0 op) [])∧root (buildL (n0 op) [])=.nd op 0 0 0 .none .none:=fun op h=>by
 have h1:oneL (n0 op)≠[]:=by rcases h with rfl|rfl<;>decide
 obtain⟨_,h2,h3⟩:=one_inv h1
 rw[build_one]
 exact⟨h2,h3⟩
theorem apN_cst {op:Int} (h:op=1∨op=2):apN (n0 op) [] []=buildL (n0 op) []:=by
 rw[build_one]
 rcases h with rfl|rfl<;>rfl
section
variable {m:Mo} {n:Nat}
theorem vl_true:vlF m n (buildL (n0 1) [])=2^n-1:=by rw[vlF,(cst_can 1 (.inl rfl)).2];rfl
theorem vl_false:vlF m n (buildL (n0 2) [])=0:=by rw[vlF,(cst_can 2 (.inr rfl)).2];rfl
theorem isF_root {f:List Nd} {op:Int} (h:isF f op=true):∃ x,f=[x]∧x.op=op∧∃ a b,root f=.nd x.op x.i x.e x.g a b:=by
 match f,h with
 | [x],h=>exact⟨x,rfl,by simpa [isF] using h,_,_,(show tree [x] 0=_ from trn_succ (f:=[x]) (n:=0) (i:=0) (x:=x) rfl)⟩
theorem isF_true {f:List Nd} (h:isF f 1=true):vlF m n f=2^n-1:=by
 obtain⟨x,_,ho,a,b,hr⟩:=isF_root h
 rw[vlF,hr,ho];rfl
theorem isF_false {f:List Nd} (h:isF f 2=true):vlF m n f=0:=by
 obtain⟨x,_,ho,a,b,hr⟩:=isF_root h
 rw[vlF,hr,ho];rfl
theorem str_root {f c:List Nd} (hf:Can f) (h:strI f=(c,true)):Can c∧∃ i e g b,root f=.nd 4 i e g (root c) b:=by
 have hp:=hf.pos
 have hx:f[f.length-1]? = some (f[f.length-1]'(by omega)):=List.getElem?_eq_getElem (by omega)
 generalize f[f.length-1]'(by omega)=x at hx
 rw[strI,hx] at h
 have h:(bif x.op != 4 then (([]:List Nd),false) else (sub f x.x,true))=(c,true):=h
 cases ho:(x.op != 4) with
 |true=>rw[ho] at h;cases h
 |false =>
  rw[ho] at h
  have h4:x.op=4:=by simpa using ho
  have hc:sub f x.x=c:=congrArg Prod.fst h
  have ok:=hf.ok _ x hx
  have hu:usesX x.op=true:=by rw[h4];rfl
  obtain⟨u1,u2⟩:=ok.x hu
  obtain⟨k,hk⟩:∃ k:Nat,x.x=k:=⟨x.x.toNat,by omega⟩
  have hkl:k<f.length:=by omega
  rw[hk,sub_can hf hkl] at hc
  rw[← hc]
  refine⟨canon_can hf.ok hf.len hkl,x.i,x.e,x.g,bif usesY x.op then tree f x.y.toNat else .none,?_⟩
  rw[root,tree_nd hf.ok hx,hu,h4,hk,cond_true]
  have:=(canon_root hf.ok hkl).2
  rw[root,this];rfl
variable (hM:OkM m n)
include hM
theorem vlF_lt (f:List Nd):vlF m n f<2^n:=vlT_lt hM.vbits _
omit hM in
theorem vl_str {f c:List Nd} (hf:Can f) (h:strI f=(c,true)):vlF m n f=notN n (vlF m n c):=by
 obtain⟨_,i,e,g,b,hr⟩:=str_root hf h
 rw[vlF,hr];rfl
theorem vl_neg {f:List Nd} (hf:Can f) (h:negI f≠[]):Can (negI f)∧vlF m n (negI f)=notN n (vlF m n f):=by
 unfold negI at h ⊢
 cases hs:(strI f).2 with
 |true =>
  have h1:strI f=((strI f).1,true):=by rw[← hs]
  rw[cond_true]
  refine⟨(str_root hf h1).1,?_⟩
  rw[vl_str hf h1,not_not (vlF_lt hM _)]
 |false =>
  rw[hs,cond_false] at h
  rw[cond_false]
  rw[build_un _ _ (by rfl) (by rfl) (by rfl)] at h ⊢
  obtain⟨_,_,h3,h4⟩:=un_inv (by rfl) (by rfl) h
  refine⟨h3,?_⟩
  rw[vlF,h4];rfl
theorem vl_opp {a b:List Nd} (ha:Can a) (hb:Can b) (h:oppI a b=true):vlF m n a=notN n (vlF m n b):=by
 unfold oppI at h
 cases h1:(bif (strI a).2 then decide ((strI a).1=b) else false) with
 |true =>
  cases hs:(strI a).2 with
  |false=>rw[hs] at h1;cases h1
  |true =>
   rw[hs,cond_true] at h1
   have e:=of_decide_eq_true h1
   exact vl_str ha (by rw[← e,← hs])
 |false =>
  rw[h1,cond_false] at h
  cases hs:(strI b).2 with
  |false=>rw[hs] at h;cases h
  |true =>
   rw[hs,cond_true] at h
   have e:=of_decide_eq_true h
   rw[vl_str hb (c:=a) (by rw[← e,← hs]),not_not (vlF_lt hM _)]
def SemR (m:Mo) (n:Nat) (z:List Nd) (v:Nat):Prop:=z≠[]→Can z∧vlF m n z=v
omit hM in
theorem SemR.of {z:List Nd} {v w:Nat} (hz:Can z) (h:vlF m n z=v) (hv:v=w):SemR m n z w:=fun _=>⟨hz,h.trans hv⟩
omit hM in
theorem SemR.cond {c:Bool} {a b:List Nd} {v:Nat} (h1:c=true→SemR m n a v) (h2:c=false→SemR m n b v):SemR m n (bif c then a else b) v:=by
 cases c with
 |true=>exact h1 rfl
 |false=>exact h2 rfl
omit hM in
theorem sem_true {v:Nat} (h:v=2^n-1):SemR m n (buildL (n0 1) []) v:=.of (cst_can 1 (.inl rfl)).1 vl_true h.symm
omit hM in
theorem sem_false {v:Nat} (h:v=0):SemR m n (buildL (n0 2) []) v:=.of (cst_can 2 (.inr rfl)).1 vl_false h.symm
omit hM in
theorem sem_ap {x:Nd} {k:Int} (hk:OkNd x k) {X Y:List Nd} (h13:x.op≤13):SemR m n (apN x X Y) (vlN m n x.op x.i x.g (vlF m n X) (vlF m n Y)):=fun h=>by
 obtain⟨h1,h2,_,_⟩:=ap_inv hk h
 refine⟨h1,?_⟩
 rw[vlF,h2,vlT]
 refine vlN_congr hk.op.1 h13 (fun u => ?_) (fun u => ?_)
 ·rw[u];rfl
 ·rw[u];rfl
omit hM in
theorem full_and {x:Nat} (h:x<2^n):(2^n-1)&&&x=x∧x&&&(2^n-1)=x∧(2^n-1) |||x=2^n-1∧x |||(2^n-1)=2^n-1:=by
 have:=full_lt n
 refine⟨set_ext (Nat.and_lt_two_pow _ h) h fun j hj => ?_,set_ext (Nat.and_lt_two_pow _ this) h fun j hj => ?_,set_ext (Nat.or_lt_two_pow this h) this fun j hj => ?_,set_ext (Nat.or_lt_two_pow h this) this fun j hj => ?_⟩
 ·rw[Nat.testBit_and,full_bit hj,Bool.true_and]
 ·rw[Nat.testBit_and,full_bit hj,Bool.and_true]
 ·rw[Nat.testBit_or,full_bit hj,Bool.true_or]
 ·rw[Nat.testBit_or,full_bit hj,Bool.or_true]
omit hM in
theorem opp_and {y:Nat} (h:y<2^n):notN n y&&&y=0∧notN n y |||y=2^n-1∧notN n (notN n y ^^^ y)=0:=by
 have:=full_lt n
 have hp:=Nat.two_pow_pos n
 have:=notN_lt n y
 refine⟨set_ext (Nat.and_lt_two_pow _ h) hp fun j hj => ?_,set_ext (Nat.or_lt_two_pow this h) (full_lt n) fun j hj => ?_,set_ext (notN_lt _ _) hp fun j hj => ?_⟩
 ·rw[Nat.testBit_and,not_bit,decide_eq_true hj,Nat.zero_testBit];cases y.testBit j<;>rfl
 ·rw[Nat.testBit_or,not_bit,decide_eq_true hj,full_bit hj];cases y.testBit j<;>rfl
 ·rw[not_bit,Nat.testBit_xor,not_bit,decide_eq_true hj,Nat.zero_testBit];cases y.testBit j<;>rfl
omit hM in
theorem or3 {a b c d e:Bool} (h:(bif (bif a then true else b) then true else (bif (bif c then d else false) then e else false))=true):a=true∨b=true∨c=true:=by
 cases a<;>cases b<;>cases c<;>simp_all
omit hM in
theorem or2 {a b:Bool} (h:(bif a then true else b)=true):a=true∨b=true:=by cases a<;>simp_all
theorem sem_and {x:Nd} {k:Int} (hk:OkNd x k) (ho:x.op=5) {a b:List Nd} (ha:Can a) (hb:Can b):SemR m n (jntI x a b 1 2) (vlF m n a&&&vlF m n b):=by
 have la:=vlF_lt hM a
 have lb:=vlF_lt hM b
 unfold jntI
 refine .cond (fun h => ?_) fun _=>.cond (fun h => ?_) fun _=>.cond (fun h => ?_) fun _ => ?_
 ·rw[apN_cst (.inr rfl)]
  refine sem_false ?_
  rcases or3 h with h|h|h
  ·rw[isF_false h,Nat.zero_and]
  ·rw[isF_false h,Nat.and_zero]
  ·rw[vl_opp hM ha hb h];exact (opp_and lb).1
 ·exact .of hb rfl (by rw[isF_true h,(full_and lb).1])
 ·refine .of ha rfl ?_
  rcases or2 h with h|h
  ·rw[isF_true h,(full_and la).2.1]
  ·rw[of_decide_eq_true h,Nat.and_self]
 ·have:=sem_ap (m:=m) (n:=n) hk (X:=a) (Y:=b) (by omega)
  rw[ho] at this
  exact this
theorem sem_or {x:Nd} {k:Int} (hk:OkNd x k) (ho:x.op=6) {a b:List Nd} (ha:Can a) (hb:Can b):SemR m n (jntI x a b 2 1) (vlF m n a |||vlF m n b):=by
 have la:=vlF_lt hM a
 have lb:=vlF_lt hM b
 unfold jntI
 refine .cond (fun h => ?_) fun _=>.cond (fun h => ?_) fun _=>.cond (fun h => ?_) fun _ => ?_
 ·rw[apN_cst (.inl rfl)]
  refine sem_true ?_
  rcases or3 h with h|h|h
  ·rw[isF_true h,(full_and lb).2.2.1]
  ·rw[isF_true h,(full_and la).2.2.2]
  ·rw[vl_opp hM ha hb h];exact (opp_and lb).2.1
 ·exact .of hb rfl (by rw[isF_false h,Nat.zero_or])
 ·refine .of ha rfl ?_
  rcases or2 h with h|h
  ·rw[isF_false h,Nat.or_zero]
  ·rw[of_decide_eq_true h,Nat.or_self]
 ·have:=sem_ap (m:=m) (n:=n) hk (X:=a) (Y:=b) (by omega)
  rw[ho] at this
  exact this
omit hM in
theorem build_ap {x:Nd} {op:Int} (ho:x.op=op) (hop:op=7∨op=8) (a b:List Nd) {v:Nat} (hv:v=vlN m n op 0 0 (vlF m n a) (vlF m n b)):SemR m n (buildL (n0 op) [a,b]) v:=fun h=>by
 have hx:usesX (n0 op).op=true:=by rcases hop with rfl|rfl<;>rfl
 have hy:usesY (n0 op).op=true:=by rcases hop with rfl|rfl<;>rfl
 rw[build_bin _ _ _ hx hy] at h ⊢
 obtain⟨_,_,_,h4,h5⟩:=bin_inv hx hy h
 refine⟨h4,?_⟩
 rw[vlF,h5,hv];rfl
theorem sem_imp {x:Nd} (ho:x.op=7) {a b:List Nd} (ha:Can a) (hb:Can b):SemR m n (cndI a b) (notN n (vlF m n a) |||vlF m n b):=by
 have la:=vlF_lt hM a
 have lb:=vlF_lt hM b
 unfold cndI
 refine .cond (fun h => ?_) fun _=>.cond (fun h => ?_) fun _=>.cond (fun h => ?_) fun _ => ?_
 ·refine sem_true ?_
  rcases or2 h with h|h
  ·rcases or2 h with h|h
   ·rw[isF_false h,show notN n 0=2^n-1 from set_ext (notN_lt _ _) (full_lt n) fun j hj=>by rw[not_bit,decide_eq_true hj,full_bit hj,Nat.zero_testBit];rfl,(full_and lb).2.2.1]
   ·rw[isF_true h,(full_and (notN_lt _ _)).2.2.2]
  ·rw[of_decide_eq_true h,(opp_and lb).2.1]
 ·refine .of hb rfl ?_
  rw[isF_true h,show notN n (2^n-1)=0 from set_ext (notN_lt _ _) (Nat.two_pow_pos n) fun j hj=>by rw[not_bit,decide_eq_true hj,full_bit hj,Nat.zero_testBit];rfl,Nat.zero_or]
 ·intro hn
  obtain⟨h1,h2⟩:=vl_neg hM ha hn
  exact⟨h1,by rw[h2,isF_false h,Nat.or_zero]⟩
 ·exact build_ap ho (.inl rfl) a b rfl
theorem sem_eqv {x:Nd} (ho:x.op=8) {a b:List Nd} (ha:Can a) (hb:Can b):SemR m n (eqvI a b) (notN n (vlF m n a ^^^ vlF m n b)):=by
 have la:=vlF_lt hM a
 have lb:=vlF_lt hM b
 have e0:∀ y,y<2^n→notN n (2^n-1 ^^^ y)=y:=fun y hy=>set_ext (notN_lt _ _) hy fun j hj=>by
  rw[not_bit,decide_eq_true hj,Nat.testBit_xor,full_bit hj];cases y.testBit j<;>rfl
 unfold eqvI
 refine .cond (fun h => ?_) fun _=>.cond (fun h => ?_) fun _=>.cond (fun h => ?_) fun _=>.cond (fun h => ?_) fun _=>.cond (fun h => ?_) fun _=>.cond (fun h => ?_) fun _ => ?_
 ·refine sem_true ?_
  rw[of_decide_eq_true h,Nat.xor_self]
  exact set_ext (notN_lt _ _) (full_lt n) fun j hj=>by rw[not_bit,decide_eq_true hj,full_bit hj,Nat.zero_testBit];rfl
 ·refine sem_false ?_
  rw[vl_opp hM ha hb h,(opp_and lb).2.2]
 ·exact .of hb rfl (by rw[isF_true h,e0 _ lb])
 ·exact .of ha rfl (by rw[isF_true h,Nat.xor_comm,e0 _ la])
 ·intro hn
  obtain⟨h1,h2⟩:=vl_neg hM hb hn
  exact⟨h1,by rw[h2,isF_false h,Nat.zero_xor]⟩
 ·intro hn
  obtain⟨h1,h2⟩:=vl_neg hM ha hn
  exact⟨h1,by rw[h2,isF_false h,Nat.xor_zero]⟩
 ·exact build_ap ho (.inr rfl) a b rfl
theorem sem_not {x:Nd} (_ho:x.op=4) {a:List Nd} (ha:Can a):SemR m n (bif isF a 1 then buildL (n0 2) [] else bif isF a 2 then buildL (n0 1) [] else negI a) (notN n (vlF m n a)):=by
 refine .cond (fun h => ?_) fun _=>.cond (fun h => ?_) fun _=>fun hn=>vl_neg hM ha hn
 ·exact sem_false (by rw[isF_true h];exact set_ext (notN_lt _ _) (Nat.two_pow_pos n) fun j hj=>by rw[not_bit,decide_eq_true hj,full_bit hj,Nat.zero_testBit];rfl)
 ·exact sem_true (by rw[isF_false h];exact set_ext (notN_lt _ _) (full_lt n) fun j hj=>by rw[not_bit,decide_eq_true hj,full_bit hj,Nat.zero_testBit];rfl)
omit hM in
theorem box_full {r:List Nat} (hr:∀ w,r.getD w 0<2^n):boxN n r (2^n-1)=2^n-1:=set_ext (boxN_lt _ _ _) (full_lt n) fun j hj=>by
 rw[full_bit hj,boxN_bit]
 exact⟨hj,fun i hi=>full_bit (bit_lt (hr j) hi)⟩
omit hM in
theorem dia_none {r:List Nat} (hr:∀ w,r.getD w 0<2^n):diaN n r 0=0:=by
 have e1:notN n 0=2^n-1:=set_ext (notN_lt _ _) (full_lt n) fun j hj=>by rw[not_bit,decide_eq_true hj,full_bit hj,Nat.zero_testBit];rfl
 rw[diaN,e1,box_full hr]
 exact set_ext (notN_lt _ _) (Nat.two_pow_pos n) fun j hj=>by rw[not_bit,decide_eq_true hj,full_bit hj,Nat.zero_testBit];rfl
theorem row_lt (i w:Nat):(m.rel.getD i []).getD w 0<2^n:=by
 by_cases hi:i<m.rel.length
 ·exact getD_lt2 (hM.bits _ (List.mem_iff_getElem?.2 ⟨i,getD_mem hi⟩)) w
 ·rw[List.getD_eq_getElem?_getD (l:=m.rel),List.getElem?_eq_none (by omega)]
  exact Nat.two_pow_pos n
theorem grp_lt {op:Nat→Nat→Nat} (hop:∀ x y,x<2^n→y<2^n→op x y<2^n) {first:Nat} (hf:first<2^n) (g:Int) (w:Nat):(grpM op m g first).getD w 0<2^n:=by
 cases hb:badGM m g with
 |true=>rw[grpM,hb];exact Nat.two_pow_pos n
 |false =>
  unfold badGM at hb
  rw[ok_moI hM] at hb
  have hb:(bif decide (g<1) then true else decide (g≥shl64 1 (m.rel.length:Int)))=false:=hb
  cases h1:decide (g<1) with
  |true=>rw[h1] at hb;cases hb
  |false =>
   rw[h1,cond_false] at hb
   have:=of_decide_eq_false hb
   have:=of_decide_eq_false h1
   exact getD_lt2 (grp_facts hM hop hf (by omega) (by omega)).2 w
omit hM in
theorem com_full {r:List Nat} {c s:Nat} (h:c=0∨s=2^n-1) (hr:∀ w,r.getD w 0<2^n):comN n r c s=2^n-1:=set_ext (comN_lt _ _ _ _) (full_lt n) fun j hj=>by
 rw[full_bit hj,comN,maskOf_bit,decide_eq_true hj,Bool.true_and,subM_iff]
 rcases h with rfl|rfl
 ·have:Sub (pathN n r 0 j) 0:=pathN_in (fun e _ h=>by rw[Nat.zero_testBit] at h;cases h) (by rw[Nat.and_zero];exact fun i hi=>hi)
  intro i hi
  have:=this i hi
  rw[Nat.zero_testBit] at this
  cases this
 ·refine pathN_in (fun e he _ => ?_) fun i hi => ?_
  ·show Sub (orA [r.map fun a=>a&&&c] e 1) _
   rw[orA_one]
   exact fun i hi=>full_bit (bit_lt (Nat.lt_of_le_of_lt Nat.and_le_left (hr e)) hi)
  ·exact full_bit (bit_lt (Nat.lt_of_le_of_lt Nat.and_le_left (hr j)) hi)
theorem sem_smp {x:Nd} {k:Int} (hk:OkNd x k) (h13:x.op≤13) {a b:List Nd} (ha:usesX x.op=true→Can a) (hb:usesY x.op=true→Can b) :
  SemR m n (smpI x a b) (vlN m n x.op x.i x.g (vlF m n a) (vlF m n b)):=by
 have hor:∀ x y,x<2^n→y<2^n→orF x y<2^n:=fun x y h1 h2=>Nat.or_lt_two_pow h1 h2
 have hand:∀ x y,x<2^n→y<2^n→andF x y<2^n:=fun x y _ h2=>Nat.and_lt_two_pow x h2
 have hA:=fun (v:Int) (h:x.op=v)=>(show SemR m n (apN x a b) (vlN m n v x.i x.g (vlF m n a) (vlF m n b)) from h▸sem_ap hk h13)
 have h1:=hk.op.1
 have hcase:x.op=1∨x.op=2∨x.op=3∨x.op=4∨x.op=5∨x.op=6∨x.op=7∨x.op=8∨x.op=9∨x.op=10∨x.op=11∨x.op=12∨x.op=13:=by omega
 unfold smpI
 rcases hcase with h|h|h|h|h|h|h|h|h|h|h|h|h
 ·rw[h];exact hA 1 h
 ·rw[h];exact hA 2 h
 ·rw[h];exact hA 3 h
 ·rw[h] at ha ⊢;exact sem_not hM h (ha rfl)
 ·rw[h] at ha hb ⊢;exact sem_and hM hk h (ha rfl) (hb rfl)
 ·rw[h] at ha hb ⊢;exact sem_or hM hk h (ha rfl) (hb rfl)
 ·rw[h] at ha hb ⊢;exact sem_imp hM h (ha rfl) (hb rfl)
 ·rw[h] at ha hb ⊢;exact sem_eqv hM h (ha rfl) (hb rfl)
 ·rw[h]
  show SemR m n (bif isF a 1 then buildL (n0 1) [] else apN x a b) (boxN n (m.rel.getD x.i.toNat []) (vlF m n a))
  exact .cond (fun q=>sem_true (by rw[isF_true q,box_full (row_lt hM _)])) fun _=>hA 9 h
 ·rw[h]
  show SemR m n (bif isF a 2 then buildL (n0 2) [] else apN x a b) (diaN n (m.rel.getD x.i.toNat []) (vlF m n a))
  exact .cond (fun q=>sem_false (by rw[isF_false q,dia_none (row_lt hM _)])) fun _=>hA 10 h
 ·rw[h]
  show SemR m n (bif isF a 1 then buildL (n0 1) [] else apN x a b) (boxN n (grpM orF m x.g 0) (vlF m n a))
  exact .cond (fun q=>sem_true (by rw[isF_true q,box_full (grp_lt hM hor (Nat.two_pow_pos n) _)])) fun _=>hA 11 h
 ·rw[h]
  show SemR m n (bif isF a 1 then buildL (n0 1) [] else apN x a b) (boxN n (grpM andF m x.g (2^n-1)) (vlF m n a))
  exact .cond (fun q=>sem_true (by rw[isF_true q,box_full (grp_lt hM hand (full_lt n) _)])) fun _=>hA 12 h
 ·rw[h]
  show SemR m n (bif (bif isF a 2 then true else isF b 1) then buildL (n0 1) [] else apN x a b) (comN n (grpM orF m x.g 0) (vlF m n a) (vlF m n b))
  refine .cond (fun q=>sem_true (com_full ?_ (grp_lt hM hor (Nat.two_pow_pos n) _))) fun _=>hA 13 h
  rcases or2 q with q|q
  ·exact .inl (isF_false q)
  ·exact .inr (isF_true q)
theorem sim_sem {f:List Nd} (hc:check f=0) (hs:∀ x,x∈comp f→x.op≤13) (h:(simI f).2=0):Can (simI f).1∧vlF m n (simI f).1=vlF m n f:=by
 have hI:simI f=simF (comp f):=by rw[simI,hc];rfl
 rw[hI] at h ⊢
 have hok:=comp_okl f
 have hpos:=comp_pos hc
 have hrt:vlF m n f=vlT m n (tree (comp f) ((comp f).length-1)):=by
  rw[vlF,← root_comp hc];rfl
 rw[hrt]
 generalize comp f=c at *
 unfold simF lastF at h ⊢
 cases he:((redE [] smpH c []).2 != 0) with
 |true=>rw[he] at h;have h:(redE [] smpH c []).2=0:=h;rw[h] at he;cases he
 |false =>
  simp only[cond_false]
  obtain⟨g1,g2⟩:=redE_all (h:=smpH) (fun j z=>Can z∧vlF m n z=vlT m n (tree c j)) (fun i x l hx hl hQ h0=>by
   have ok:=hok i x hx
   have h13:=hs x (List.mem_iff_getElem?.2 ⟨i,hx⟩)
   have h0:=nz_ok h0
   have oX:usesX x.op=true→Can (l.getD x.x.toNat [])∧vlF m n (l.getD x.x.toNat [])=vlT m n (tree c x.x.toNat):=fun u=>by
    have:=ok.x u
    exact hQ _ _ (getD_mem (by omega))
   have oY:usesY x.op=true→Can (l.getD x.y.toNat [])∧vlF m n (l.getD x.y.toNat [])=vlT m n (tree c x.y.toNat):=fun u=>by
    have:=ok.y u
    exact hQ _ _ (getD_mem (by omega))
   have eX:usesX x.op=true→opX x (l.getD x.x.toNat [])=l.getD x.x.toNat []:=fun u=>by
    rw[opX,usX_eq ok.op.2,u];rfl
   have eY:usesY x.op=true→opY x (l.getD x.y.toNat [])=l.getD x.y.toNat []:=fun u=>by
    rw[opY,bin_uses h13,u];rfl
   obtain⟨k1,k2⟩:=sem_smp hM ok h13 (a:=opX x (l.getD x.x.toNat [])) (b:=opY x (l.getD x.y.toNat [])) (fun u=>by rw[eX u];exact (oX u).1) (fun u=>by rw[eY u];exact (oY u).1) h0
   refine⟨k1,?_⟩
   rw[tree_nd hok hx,vlT]
   refine Eq.trans k2 (vlN_congr ok.op.1 h13 (fun u => ?_) (fun u => ?_))
   ·rw[eX u,(oX u).2,u];rfl
   ·rw[eY u,(oY u).2,u];rfl) c.length 0 [] (by omega) rfl (fun j z h=>by simp at h) (by simpa using he)
  rw[List.drop_zero] at g1 g2
  have:=g2 _ _ (last_get' (d:=[]) (by omega))
  rw[g1] at this ⊢
  exact this
end
def flat:List Nd→List Int
 | []=>[]
 |n::r=>flds n++flat r
def Used (out:List Nd) (v:Nat):Prop:=∃ (j:Nat) (x:Nd),out[j]? = some x∧(usesX x.op=true∧x.x=(v:Int)∨usesY x.op=true∧x.y=(v:Int))
theorem Used.app {out:List Nd} {v:Nat} (h:Used out v) (t:List Nd):Used (out++t) v:=by
 obtain⟨j,x,h1,h2⟩:=h
 exact⟨j,x,by rw[List.getElem?_append_left (List.getElem?_eq_some_iff.1 h1).1];exact h1,h2⟩
theorem fin_used {f:List Nd} (hf:Okl f):∀ (n i:Nat) (s:List Nd×List (Nat×Nat)),i<n→i<f.length→InvT f s →
  ∀ v,s.1.length≤v→v<(fin f n i s).2.1.length→v≠(fin f n i s).1→Used (fin f n i s).2.1 v
 |0,i,s,h,_,_=>by omega
 |n+1,i,s,hin,hif,hs=>by
  intro v hv1 hv2 hv3
  cases hl:look i s.2 with
  |some k=>simp only[fin,hl] at hv2;omega
  |none =>
   have hn:f[i]? = some f[i]:=List.getElem?_eq_getElem hif
   generalize hx:f[i]=x at hn
   have hok:=hf i x hn
   obtain⟨a1,a2,ua,a3⟩:=opA_tree hf hn hin hif hs
   obtain⟨b1,b2,ub,b3⟩:=opB_tree hf hn hin hif a1
   have sA:∀ v,s.1.length≤v→v<(opA f n x s).2.1.length→Used (opA f n x s).2.1 v∨(usesX x.op=true∧v=(opA f n x s).1):=by
    intro v h1 h2
    cases hu:usesX x.op with
    |false=>rw[opA,hu] at h2;simp only[cond_false] at h2;omega
    |true =>
     have:=hok.x hu
     have e:opA f n x s=fin f n x.x.toNat s:=by rw[opA,hu];rfl
     rw[e] at h2 ⊢
     by_cases q:v=(fin f n x.x.toNat s).1
     ·exact .inr ⟨rfl,q⟩
     ·exact .inl (fin_used hf n x.x.toNat s (by omega) (by omega) hs v h1 h2 q)
   have sB:∀ v,(opA f n x s).2.1.length≤v→v<(opB f n x (opA f n x s).2).2.1.length→Used (opB f n x (opA f n x s).2).2.1 v∨(usesY x.op=true∧v=(opB f n x (opA f n x s).2).1):=by
    intro v h1 h2
    cases hu:usesY x.op with
    |false=>rw[opB,hu] at h2;simp only[cond_false] at h2;omega
    |true =>
     have:=hok.y hu
     have e:opB f n x (opA f n x s).2=fin f n x.y.toNat (opA f n x s).2:=by rw[opB,hu];rfl
     rw[e] at h2 ⊢
     by_cases q:v=(fin f n x.y.toNat (opA f n x s).2).1
     ·exact .inr ⟨rfl,q⟩
     ·exact .inl (fin_used hf n x.y.toNat (opA f n x s).2 (by omega) (by omega) a1 v h1 h2 q)
   rw[fin_none hl hn] at hv2 hv3 ⊢
   generalize opA f n x s=A at *
   generalize opB f n x A.2=B at *
   have hzx:usesX x.op=true→(ndB x.op (ndA x A.1) B.1).x=(A.1:Int):=fun u=>by have:=ndZ_x x A.1 B.1;rw[u] at this;exact this
   have hzy:usesY x.op=true→(ndB x.op (ndA x A.1) B.1).y=(B.1:Int):=fun u=>by have:=ndZ_y x A.1 B.1;rw[u] at this;exact this
   have hzo:(ndB x.op (ndA x A.1) B.1).op=x.op:=ndZ_op x A.1 B.1
   obtain⟨p1,p2,t,p3,p4⟩:=putN_spec B.2.1 (ndB x.op (ndA x A.1) B.1)
   simp only at hv2 hv3 ⊢
   have hlt:v<B.2.1.length:=by
    rcases Nat.lt_or_ge v B.2.1.length with h|h
    ·exact h
    ·exfalso
     unfold putN at hv2 hv3
     cases hh:idx (ndB x.op (ndA x A.1) B.1) B.2.1 0 with
     |some k=>rw[hh] at hv2;simp only at hv2;omega
     |none=>rw[hh] at hv2 hv3;simp at hv2 hv3;omega
   rcases Nat.lt_or_ge v A.2.1.length with h1|h1
   ·rcases sA v hv1 h1 with h|⟨h,e⟩
    ·rw[p3,b3];exact (h.app ub).app t
    ·exact⟨_,_,p1,.inl ⟨by rw[hzo];exact h,by rw[hzx h,e]⟩⟩
   ·rcases sB v h1 hlt with h|⟨h,e⟩
    ·rw[p3];exact h.app t
    ·exact⟨_,_,p1,.inr ⟨by rw[hzo];exact h,by rw[hzy h,e]⟩⟩
theorem canon_used {f:List Nd} (hf:Okl f) {i:Nat} (hi:i<f.length) {v:Nat} (hv:v+1<(canon f i).length):Used (canon f i) v:=by
 refine fin_used hf (i+1) i ([],[]) (by omega) hi (invT_nil f) v (Nat.zero_le _) (by unfold canon at hv;omega) ?_
 intro e
 have hr:=canon_root hf hi
 have hz:=fin_size hf (i+1) i ([],[]) (by omega) hi (invT_nil f) ((canon f i).length-1) (Nat.zero_le _) (by unfold canon at *;omega)
 have:=hz.2 (by unfold canon at *;omega)
 have h2:=hr.2
 unfold canon at h2 this
 rw[h2] at this
 omega
end Go.Proofs.YtejbieopeicgkaaGreatDoor
